/- Values of an elder version's page: told, turned. Turned from the texts KD, KF and KI. Values of an elder version: one more. Turned from the text KJ. Values of an elder version: one taken. Turned from the text KL. -/
import Derived.Test.YtkcfmjlcijhieaaGreatQPDElder05
set_option linter.unusedSimpArgs false
set_option linter.unusedVariables false
namespace Go.Proofs.YtkcfmjlcijhieaaGreat
open Go.RowKit
attribute [local go_sem low] mk_extract
attribute [local go_sem] After.cell After.frozen mk_extract_end ByteArray.mk_append_mk
namespace Sp
/-- A store over a file whose page 2 has these values. -/
structure EdSt (V : List Txt) (l : List Txt) (s : Sto) : Prop where
  d : s.d = []
  fr : s.freed = []
  av : s.avail = []
  last : s.last = 3
  most : s.most = 400
  ok : s.Ok
  rd : readF (atV V 2) = (dpPg l, none)
/-- .. and once they were turned. -/
structure EfSt (l : List Txt) (s : Sto) : Prop where
  fr : s.freed = [2]
  ok : s.Ok
  most : s.most = 400
  many : 3 < l.length → s.d = [(3, dpPg l)]
theorem EdSt.touch {V l : List Txt} {s : Sto} (h : EdSt V l s) (hv : isVals l 4 12 = true) : s.touch V 2 = ((3, none), ⟨[(3, dpPg l)], [2], [], 4, 400⟩) := by
  obtain ⟨d, fr, av, la, mo⟩ := s
  obtain ⟨h1, h2, h3, h4, h5, ok, rd⟩ := h
  simp only at h1 h2 h3 h4 h5
  subst h1 h2 h3 h4 h5
  rw [Sto.touch_else _ _ _ rfl, Sto.read_in _ _ _ (by simp)]
  simp only [lookD, List.find?_nil, Option.map_none]
  rw [rd]
  simp only
  rw [Sto.add_last rfl (dp_is hv) (by decide) (by decide)]
  rfl
theorem EdSt.drop {V l : List Txt} {s : Sto} (h : EdSt V l s) : dropZ s 2 = ⟨[], [2], [], 3, 400⟩ := by
  obtain ⟨d, fr, av, la, mo⟩ := s
  obtain ⟨h1, h2, h3, h4, h5, ok, rd⟩ := h
  simp only at h1 h2 h3 h4 h5
  subst h1 h2 h3 h4 h5
  rfl
theorem EdSt.fall {V l l' : List Txt} {s : Sto} (h : EdSt V l s) (hl : l'.length ≤ 3) : EfSt l' (dropZ s 2) := by
  have hok : (dropZ s 2).Ok := by
    unfold dropZ
    rw [if_neg (by decide)]
    exact h.ok.drop 2
  rw [h.drop] at hok ⊢
  exact ⟨rfl, hok, rfl, fun h => by omega⟩
theorem EdSt.turn {V l l' : List Txt} {s : Sto} (h : EdSt V l s) (hv : isVals l 4 12 = true) : EfSt l' { (s.touch V 2).2 with d := putD (s.touch V 2).2.d 3 (dpPg l') } := by
  have hok := h.ok.touch V 2
  rw [h.touch hv] at hok ⊢
  refine ⟨rfl, Sto.Ok.keys_eq hok ?_, rfl, fun _ => rfl⟩
  rfl
end Sp
/-- An item whose values are these, told from an elder version's. -/
structure EdI (l : List Txt) (kind : Int) (A : Option Addr) (n : Nat) (dup : Int) (w : World) : Prop where
  k3 : kind = 3
  few : l.length ≤ 3 → n = l.length ∧ dup = 0 ∧ TxK w A l
  many : 3 < l.length → n = 0 ∧ dup = 3
theorem EdI.chg {S : Nat → Prop} {l : List Txt} {kind dup : Int} {A : Option Addr} {n : Nat} {w w' : World} (h : EdI l kind A n dup w) (hk : Chg S w w') (hS : ∀ k cs, Blk w k StrT cs → ¬ S k) : EdI l kind A n dup w' :=
  ⟨h.k3, fun hl => ⟨(h.few hl).1, (h.few hl).2.1, (h.few hl).2.2.chg hk hS⟩, h.many⟩
theorem EdI.row {W : World} {l : List Txt} {kind dup : Int} {A : Option Addr} {n : Nat} {g : Nat} {cs ds : Array Value} (h : EdI l kind A n dup W) (hg : Blk W g ItemT ds) : EdI l kind A n dup (W.setRow g cs) :=
  h.chg (chg_setRowN (Chg.refl (OneM g) W) (.inl rfl) cs) fun k cs' hb e => by
    have e : k = g := e
    subst e
    exact hb.not_ (by decide) _ hg
def EdR (M : Nat → Prop) (t f m d : Nat) (fv : Value) (V : List Txt) (k : Txt) (l : List Txt) (w : World) (v : Value) : Prop :=
  ∃ kind A n c dup s, v = .agg (itA k kind A n c dup) ∧ EdI l kind A n dup w ∧ Sp.EfSt l s ∧ StAt w M t f m d fv V s
set_option maxRecDepth 100000 in
set_option maxHeartbeats 1600000 in
theorem vals_ed (M : Nat → Prop) (t f m d : Nat) (fv : Value) (V : List Txt) (s : Sp.Sto) (p : Sp.Page) (k : Txt) (A : Option Addr) (n c : Nat) (i : Int) (w : World) (h : StAt w M t f m d fv V s) (hok : s.Ok) (hn : V.length ≤ 400) (hi : 2 ≤ i ∧ i < s.most) (hno : Sp.lookD s.d i = none) (hk : p.kind = 4) (hpr : Sp.readF (Sp.atV V i) = (p, none)) :
    Calls Tryz.prog 51 #[.pointer (some ⟨t, 0, none⟩), .agg (itA k 3 A n c i)] w fun e w' => ∃ A' c', e = .returned (.tuple #[.slice A' p.vals.length c', .nilIface]) ∧ w'.ownsRow w.heap.size StrT 1 (.slice A' p.vals.length c') p.vals.length (p.vals.map tv) ∧ Below w.heap.size w w' := by
  have hal : ∀ cs, Below w.heap.size w (w.alloc (.cells cs ItemT)) := fun cs => (Below.refl _ _).alloc (Nat.le_refl _) _
  have HR := Lib.hid (fun cs => stoRead4O M t f m d fv V s i (w.alloc (.cells cs ItemT)) (h.go (hal cs)) hn hi.1 hi.2 hok.most.2 hno p hk hpr)
  have HAL := Lib.hid hal
  have hi0 : ¬ i = 0 := by omega
  clear h hal hno hpr
  go_enter Tryz.func51, Tryz.ntmps51
  go_upto_region 6 with (first
    | (go_at_call 37; refine (HR.out _).mono ?_; rintro e w1 ⟨r1, rfl, ho, hb1⟩; rw [pv14]; have HO := Lib.hid ho; have HB := Lib.hid hb1; clear ho hb1)
    | (refine wpList_new PageT _ _ rfl rfl rfl rfl rfl rfl _ rfl (of_decide_eq_true (by kernel_rfl)) (by kernel_rfl) (by kernel_rfl) (by kernel_rfl) ?_))
  have hbk := Blk.new w1 PageT #[.int .i64 p.kind, .slice r1.I p.items.length r1.i, .slice r1.K p.keys.length r1.k, .slice r1.D p.kids.length r1.d, .string ⟨p.text.toArray⟩, .slice r1.V p.vals.length r1.v, .slice r1.F p.free.length r1.f, .int .i64 p.next, .int .u64 p.mt.txn, .int .i64 p.mt.main.page, .int .i64 p.mt.main.count, .int .i64 p.mt.main.flags, .int .i64 p.mt.free, .int .i64 p.mt.last]
  have hal1 : Below w1.heap.size w1 (w1.alloc (.cells #[.int .i64 p.kind, .slice r1.I p.items.length r1.i, .slice r1.K p.keys.length r1.k, .slice r1.D p.kids.length r1.d, .string ⟨p.text.toArray⟩, .slice r1.V p.vals.length r1.v, .slice r1.F p.free.length r1.f, .int .i64 p.next, .int .u64 p.mt.txn, .int .i64 p.mt.main.page, .int .i64 p.mt.main.count, .int .i64 p.mt.main.flags, .int .i64 p.mt.free, .int .i64 p.mt.last] PageT)) := (Below.refl _ _).alloc (Nat.le_refl _) _
  rw [hk] at hbk
  have c0 := hbk.cell 0
  have c5 := hbk.cell 5
  have HBX := Lib.hid hal1
  clear hal1 hbk
  rw [hk] at HBX
  go_wp2_with fail
  refine bodyPost_ret (v := .tuple #[.slice r1.V p.vals.length r1.v, .nilIface]) (by simp [results, Tryz.results51, go_sem]) rfl ⟨r1.V, r1.v, rfl, own_base (own_chg2 (S := NoM) HO.out (Chg.of_below HBX.out) (fun _ _ h => h)) (by rw [World.size_alloc]; omega), (HAL.out _).trans ((HB.out.mono (by rw [World.size_alloc]; omega)).trans (HBX.out.mono (by have := HB.out.size; rw [World.size_alloc] at this; omega)))⟩
set_option maxRecDepth 100000 in
set_option maxHeartbeats 1600000 in
theorem with_ed2 (M : Nat → Prop) (t f m d : Nat) (fv : Value) (V : List Txt) (s s1 : Sp.Sto) (q : Sp.Page) (j : Int) (k : Txt) (kind : Int) (A0 : Option Addr) (n0 c0 : Nat) (i : Int) (l : List Txt) (A : Option Addr) (c : Nat) (w : World) (h : StAt w M t f m d fv V s) (hok : s.Ok) (hV : V.length ≤ 400) (hi : 2 ≤ i ∧ i < 400) (hl : 3 < l.length) (hl2 : l.length ≤ 1000) (ht : Txts w (TwoM t d) A l) (hto : s.touch V i = ((j, none), s1)) (hq : Sp.lookD s1.d j = some q) (hv : Sp.isVals l 4 12 = true) :
    Calls Tryz.prog 82 #[.pointer (some ⟨t, 0, none⟩), .agg (itA k kind A0 n0 c0 i), .slice A l.length c] w fun e w' => e = .returned (.tuple #[.agg (itA k 3 none 0 0 j), .nilIface]) ∧ StAt w' M t f m d fv V { s1 with d := Sp.putD s1.d j (Sp.dpPg l) } ∧ Chg (TwoM t d) w w' := by
  have HN := Lib.hid (WdS.new_ h ht (itA k kind A0 n0 c0 i) itZ0 (itA k 3 none 0 0 0))
  have HMM := Lib.hid h.hM
  have HT := Lib.hid hto
  have HS := Lib.hid (Sp.Sto.set_yes s1 j (Sp.dpPg l) q hq (Sp.dp_is hv))
  have hi0 : ¬ i = 0 := by omega
  clear h ht hq hv hto
  go_enter Tryz.func82, Tryz.ntmps82
  go_upto_region 2 with (refine wpList_new ItemT _ _ rfl rfl rfl rfl rfl rfl _ rfl (of_decide_eq_true (by kernel_rfl)) (by kernel_rfl) (by kernel_rfl) (by kernel_rfl) ?_)
  refine wp_gen _ HN.out ?_
  intro W1 hW1
  have S1 := Lib.hid hW1
  clear hW1 HN
  go_upto_region 7 with (refine wpList_new PageT _ _ rfl rfl rfl rfl rfl rfl _ rfl (of_decide_eq_true (by kernel_rfl)) (by kernel_rfl) (by kernel_rfl) (by kernel_rfl) ?_)
  refine wp_gen (fun W => WdS w M t f m d fv V s A l w.heap.size (w.heap.size + 1) (w.heap.size + 2) (itA k kind A0 n0 c0 i) itZ0 (itA k 3 none 0 0 0) W ∧ Blk W W1.heap.size PageT (dpV A l.length c)) ⟨S1.out.go ((Below.refl _ _).alloc (Nat.le_refl _) _), Blk.new W1 PageT _⟩ ?_
  rintro W2 ⟨hW2, hp2⟩
  have S2 := Lib.hid hW2
  have HP2 := Lib.hid hp2
  have hz12 : w.heap.size + 2 < W1.heap.size := S1.out.bo.lt
  clear hW2 S1 hp2
  have c6 : W2.cell? ⟨w.heap.size, 6, none⟩ = some (.int .i64 i) := S2.out.bx.cell 6
  have HTC := Lib.hid (stoTouch_any _ t f m d fv V s i W2 S2.out.st hok hV)
  rw [HT.out] at HTC
  go_upto_region 11 with (go_at_call 39; refine HTC.out.mono ?_; rintro e w3 ⟨rfl, hst3, hk3⟩; have S3 := Lib.hid (S2.out.turn hst3 hk3); have HP3 := Lib.hid (HP2.out.chg hk3 (S2.out.st.not_kind (by decide) _ _ HP2.out)); clear hst3 hk3; simp only [erO]; have f6 := S3.out.bo.frozen 6; have c63 : w3.cell? ⟨w.heap.size + 2, 6, none⟩ = some (.int .i64 0) := S3.out.bo.cell 6)
  refine wp_gen (fun W => WdS w M t f m d fv V s1 A l w.heap.size (w.heap.size + 1) (w.heap.size + 2) (itA k kind A0 n0 c0 i) itZ0 (itA k 3 none 0 0 j) W ∧ Blk W W1.heap.size PageT (dpV A l.length c)) ⟨S3.out.setO 6 (.int .i64 j), HP3.out.far (by show W1.heap.size ≠ w.heap.size + 2; omega) _⟩ ?_
  rintro W4 ⟨hW4, hp4⟩
  have S4 := Lib.hid hW4
  have HP4 := Lib.hid hp4
  clear hW4 hp4 S3 HP3 f6 c63 HTC S2 HP2 c6
  have c64 : W4.cell? ⟨w.heap.size + 2, 6, none⟩ = some (.int .i64 j) := S4.out.bo.cell 6
  have HSC := Lib.hid (stoSet_any _ t f m d fv V s1 j (Sp.dpPg l) (dpRef A c) W4 S4.out.st (dpRd c S4.out.tx) (fun k h => .inl h))
  rw [HS.out] at HSC
  go_upto_region 15 with (first
    | (refine wpList_row PageT _ rfl W1.heap.size rfl rfl PageT _ (0, 0) _ HP4.out Tryz.underlying39 rfl rfl ?_)
    | (go_at_call 38; refine HSC.out.mono ?_; rintro e w5 ⟨rfl, hst5, hk5⟩; have S5 := Lib.hid (S4.out.turn hst5 hk5); clear hst5 hk5; simp only [erO]))
  clear S4 HP4 c64 HSC
  go_wp2_with (first
    | (refine wpList_row ItemT _ rfl (w.heap.size + 2) rfl rfl ItemT _ (0, 0) _ S5.out.bo Tryz.underlying90 rfl rfl ?_)
    | (refine wpList_store_row rfl ItemT _ _ rfl (w.heap.size + 1) _ rfl rfl ItemT _ S5.out.bz (by kernel_rfl) rfl (itA_all _ _ _ _ _ _) ?_))
  obtain ⟨z0, z1, z2, z3, z4, z5, z6, z7, z8, z9⟩ := (S5.out.bz.row (ds := itA k 3 none 0 0 j)).at10.1
  refine bodyPost_ret (v := .tuple #[.agg (itA k 3 none 0 0 j), .nilIface]) (by simp [results, Tryz.results82, go_sem, z0, z1, z2, z3, z4, z5, z6, z7, z8, z9]) rfl ⟨rfl, ?_, chg_setRowN S5.out.ck (.inr (by omega)) _⟩
  exact (S5.out.st.one S5.out.bz (.inr (.inl rfl)) (chg_setRowN (Chg.refl (OneM _) _) (.inl rfl) _)).oldMs HMM.out
theorem vals_el (M : Nat → Prop) (t f m d : Nat) (fv : Value) (V : List Txt) (s : Sp.Sto) (l : List Txt) (k : Txt) (A : Option Addr) (n c : Nat) (w : World) (h : StAt w M t f m d fv V s) (hd : Sp.EdSt V l s) (hn : V.length ≤ 400) :
    Calls Tryz.prog 51 #[.pointer (some ⟨t, 0, none⟩), .agg (itA k 3 A n c 2)] w fun e w' => ∃ A' c', e = .returned (.tuple #[.slice A' l.length c', .nilIface]) ∧ w'.ownsRow w.heap.size StrT 1 (.slice A' l.length c') l.length (l.map tv) ∧ Below w.heap.size w w' :=
  vals_ed M t f m d fv V s (Sp.dpPg l) k A n c 2 w h hd.ok hn ⟨by decide, by rw [hd.most]; decide⟩ (by rw [hd.d]; rfl) rfl hd.rd
theorem with_ed (M : Nat → Prop) (t f m d : Nat) (fv : Value) (V : List Txt) (s : Sp.Sto) (k : Txt) (l : List Txt) (kind : Int) (A0 : Option Addr) (n0 c0 : Nat) (l' : List Txt) (A : Option Addr) (c : Nat) (w : World) (h : StAt w M t f m d fv V s) (hV : V.length ≤ 400) (hd : Sp.EdSt V l s) (hvl : Sp.isVals l 4 12 = true) (hne : l' ≠ []) (hs : Sp.SrtV l') (h12 : l'.length ≤ 12) (ht0 : TxK w A l') :
    Calls Tryz.prog 82 #[.pointer (some ⟨t, 0, none⟩), .agg (itA k kind A0 n0 c0 2), .slice A l'.length c] w fun e w' => ∃ v, e = .returned (.tuple #[v, .nilIface]) ∧ EdR M t f m d fv V k l' w' v ∧ Chg (TwoM t d) w w' := by
  have ht : Txts w (TwoM t d) A l' := ht0.txts (h.not_kind (by decide))
  by_cases hl' : l'.length ≤ 3
  · refine (with_in M t f m d fv V s k kind A0 n0 c0 2 l' A c w h hd.ok hl' ht).mono ?_
    rintro e w' ⟨rfl, hst, hk⟩
    exact ⟨_, rfl, ⟨3, A, l'.length, c, 0, _, rfl, ⟨rfl, fun _ => ⟨rfl, rfl, ht0.chg hk (h.not_kind (by decide))⟩, fun h => by omega⟩, hd.fall hl', hst⟩, hk⟩
  · have hv := Sp.isVals_of hs (by omega) h12
    have hE := hd.turn (l' := l') hvl
    have hto := hd.touch hvl
    rw [hto] at hE
    refine (with_ed2 M t f m d fv V s _ (Sp.dpPg l) 3 k kind A0 n0 c0 2 l' A c w h hd.ok hV (by decide) (by omega) (by omega) ht hto rfl hv).mono ?_
    rintro e w' ⟨rfl, hst, hk⟩
    exact ⟨_, rfl, ⟨3, none, 0, 0, 3, _, rfl, ⟨rfl, fun h => absurd h hl', fun _ => ⟨rfl, rfl⟩⟩, hE, hst⟩, hk⟩
end Go.Proofs.YtkcfmjlcijhieaaGreat
namespace Go.Proofs.YtkcfmjlcijhieaaGreat
open Go.RowKit
attribute [local go_sem low] mk_extract
attribute [local go_sem] After.cell After.frozen mk_extract_end ByteArray.mk_append_mk
set_option maxRecDepth 100000 in
set_option maxHeartbeats 1600000 in
theorem add_ed (M : Nat → Prop) (t f m d : Nat) (fv : Value) (V : List Txt) (s : Sp.Sto) (k : Txt) (l : List Txt) (A : Option Addr) (n c : Nat) (v : Txt) (w : World) (h : StAt w M t f m d fv V s) (hV : V.length ≤ 400) (hd : Sp.EdSt V l s) (hvl : Sp.isVals l 4 12 = true) (hs : Sp.SrtV l) (hne : l ≠ []) (h12 : l.length < 12) (hv : 1 ≤ v.length ∧ v.length ≤ 12) (hno : Sp.hasV l v = false) :
    Calls Tryz.prog 50 #[.pointer (some ⟨t, 0, none⟩), .agg (itA k 3 A n c 2), .string ⟨v.toArray⟩] w fun e w' => ∃ x, e = .returned (.tuple #[x, .nilIface]) ∧ EdR M t f m d fv V k (Sp.insT v l) w' x ∧ Chg (TwoM t d) w w' := by
  have HN := Lib.hid (AdS.new_ h (itA k 3 A n c 2))
  have HMM := Lib.hid h.hM
  have hve : v.isEmpty = false := by
    rcases v with _ | _
    · simp at hv
    · rfl
  clear h
  go_enter Tryz.func50, Tryz.ntmps50
  go_upto_region 1 with fail
  refine wp_gen _ HN.out ?_
  intro w2 hw2
  have S2 := Lib.hid hw2
  clear hw2 HN
  have hkd : w2.cell? ⟨w.heap.size, 1, none⟩ = some (.int .i64 3) := S2.out.bx.cell 1
  have HVC := Lib.hid (vals_el _ t f m d fv V s l k A n c w2 S2.out.st hd hV)
  go_upto_region 8 with (first
    | (refine wpList_row ItemT _ rfl w.heap.size rfl rfl ItemT _ (0, 0) _ S2.out.bx Tryz.underlying90 rfl rfl ?_)
    | (go_at_call 51; refine HVC.out.mono ?_; rintro e w3 ⟨A1, cA1, rfl, ho3, hb3⟩; have HO := Lib.hid ho3; have HB3 := Lib.hid hb3; clear ho3 hb3))
  have hpl := Sp.plc_le l v
  have S3 := Lib.hid (S2.out.go HB3.out)
  have HT3 := Lib.hid (own_rowT (N := NoM) HO.out (by omega) (fun _ _ _ h => h))
  have HPC := Lib.hid (place_any l v A1 cA1 w3 HT3.out)
  rw [hno] at HPC
  go_upto_region 13 with (go_at_call 81; refine HPC.out.mono ?_; rintro e w4 ⟨rfl, hb4⟩; have HB4 := Lib.hid hb4; clear hb4)
  have hB24 := HB3.out.trans (HB4.out.mono HB3.out.size)
  have HO4 := Lib.hid (own_chg2 (S := NoM) HO.out (Chg.of_below HB4.out) (fun _ _ h => h))
  have S4 := Lib.hid (S3.out.go HB4.out)
  clear HO S3 HT3 HPC HB3 HB4 HVC hkd
  obtain ⟨w3', rfl⟩ : ∃ W, W = w4 := ⟨_, rfl⟩
  have hz23 : w2.heap.size ≤ w3'.heap.size := hB24.size
  have hx2 : w.heap.size < w2.heap.size := S2.out.bx.lt
  refine wp_region_in 12 7 (fun W => Below w2.heap.size w3' W) (by kernel_rfl) rfl ?_
  refine wpIn_takeV 0 [7] (.pointer (some ⟨t, 0, none⟩)) rfl (by kernel_rfl) (by kernel_rfl) (by kernel_rfl) (by kernel_rfl) (by kernel_rfl) (by kernel_rfl) (by kernel_rfl) (by rfl) (fun _ _ _ h => h) (Below.refl w2.heap.size w3').drew (fun W hW => by go_simp; all_goals first | with_reducible rfl | rfl | omega) ?_
  try simp only [List.getElem_toArray, List.getElem_cons_zero, List.getElem_cons_succ, Act.put, List.setIfInBounds_toArray, List.set_cons_succ, List.set_cons_zero]
  refine wpIn_takeV 1 [7] (.agg (itA k 3 A n c 2)) rfl (by kernel_rfl) (by kernel_rfl) (by kernel_rfl) (by kernel_rfl) (by kernel_rfl) (by kernel_rfl) (by kernel_rfl) (by rfl) (fun _ _ _ h => h) (Below.refl w2.heap.size w3').drew (fun W hW => exec_item _ rfl w.heap.size rfl _ (S4.out.bx.below hW hx2) rfl) ?_
  try simp only [List.getElem_toArray, List.getElem_cons_zero, List.getElem_cons_succ, Act.put, List.setIfInBounds_toArray, List.set_cons_succ, List.set_cons_zero]
  refine wpIn_takeV 2 [6, 7] (.slice A1 l.length cA1) rfl (by kernel_rfl) (by kernel_rfl) (by kernel_rfl) (by kernel_rfl) (by kernel_rfl) (by kernel_rfl) (by kernel_rfl) (by rfl) (fun _ _ _ h => h) (Below.refl w2.heap.size w3').drew (fun W hW => by go_simp; all_goals first | with_reducible rfl | rfl | omega) ?_
  try simp only [List.getElem_toArray, List.getElem_cons_zero, List.getElem_cons_succ, Act.put, List.setIfInBounds_toArray, List.set_cons_succ, List.set_cons_zero]
  refine wpIn_takeV 3 [6, 7] (.int .i64 (Sp.plc l v : Int)) rfl (by kernel_rfl) (by kernel_rfl) (by kernel_rfl) (by kernel_rfl) (by kernel_rfl) (by kernel_rfl) (by kernel_rfl) (by rfl) (fun _ _ _ h => h) (Below.refl w2.heap.size w3').drew (fun W hW => by go_simp; all_goals first | with_reducible rfl | rfl | omega) ?_
  try simp only [List.getElem_toArray, List.getElem_cons_zero, List.getElem_cons_succ, Act.put, List.setIfInBounds_toArray, List.set_cons_succ, List.set_cons_zero]
  refine wpIn_takeV 4 [5, 6, 7] (.string ⟨v.toArray⟩) rfl (by kernel_rfl) (by kernel_rfl) (by kernel_rfl) (by kernel_rfl) (by kernel_rfl) (by kernel_rfl) (by kernel_rfl) (by rfl) (fun _ _ _ h => h) (Below.refl w2.heap.size w3').drew (fun W hW => by go_simp; all_goals first | with_reducible rfl | rfl | omega) ?_
  try simp only [List.getElem_toArray, List.getElem_cons_zero, List.getElem_cons_succ, Act.put, List.setIfInBounds_toArray, List.set_cons_succ, List.set_cons_zero]
  refine wpIn_one 5 rfl (by kernel_rfl) (fun _ => (Below.refl w2.heap.size w3').drew) (by rfl) ?_
  go_simp
  have hB5 : Below w2.heap.size w3' (w3'.drew.alloc (.cells #[.string ⟨v.toArray⟩] StrT)) := (Below.refl w2.heap.size w3').drew.alloc (by show w2.heap.size ≤ w3'.heap.size; exact hz23) _
  try simp only [List.getElem_toArray, List.getElem_cons_zero, List.getElem_cons_succ, Act.put, List.setIfInBounds_toArray, List.set_cons_succ, List.set_cons_zero]
  refine wpIn_one 6 rfl (by kernel_rfl) (fun _ => hB5) (by rfl) ?_
  go_simp
  refine (insS_any (B := w2.heap.size) v (Sp.plc l v) (Sp.plc_le l v) (own_chg2 (S := NoM) HO4.out (Chg.of_below ((Below.refl w3'.heap.size w3').drew.alloc (Nat.le_refl _) (.cells #[.string ⟨v.toArray⟩] StrT))) (fun _ _ h => h)) (by rw [World.size_alloc]; show w2.heap.size ≤ w3'.heap.size + 1; omega) w3'.heap.size (Blk.new w3'.drew StrT #[.string ⟨v.toArray⟩]) (fun j hj e => by have := own_lt HO4.out j hj; omega) (by omega)).mono ?_
  rintro e w6 ⟨vr, rfl, ho6, hb6⟩
  obtain ⟨A6, c6, rfl⟩ := own_slice ho6
  have hB6 : Below w2.heap.size w3' w6 := hB5.trans hb6
  have hlen6 : (Sp.insT v l).length = l.length + 1 := Sp.insT_len v l
  have S6 := Lib.hid (S2.out.go (hB24.trans hB6))
  have HT6 := Lib.hid (own_tk ho6 (by omega))
  clear ho6 hb6
  try simp only [List.getElem_toArray, List.getElem_cons_zero, List.getElem_cons_succ, Act.put, List.setIfInBounds_toArray, List.set_cons_succ, List.set_cons_zero]
  refine wpIn_one 7 rfl (by kernel_rfl) (fun _ => hB6) (by rfl) ?_
  go_simp
  rw [← hlen6]
  refine (with_ed _ t f m d fv V s k l 3 A n c (Sp.insT v l) A6 c6 w6 S6.out.st hV hd hvl (by intro e; have := congrArg List.length e; rw [hlen6] at this; simp at this) (Sp.insT_srt hs hv hno) (by rw [hlen6]; omega) HT6.out).mono ?_
  rintro e w7 ⟨vv, rfl, ⟨kind', A', n', c', dup', s', rfl, hI', hD', hst'⟩, hk7⟩
  have S7 := Lib.hid (S6.out.turn hst' hk7)
  have HI := Lib.hid hI'
  have HD := Lib.hid hD'
  clear hst' hk7 hI' hD' S6
  try simp only [List.getElem_toArray, List.getElem_cons_zero, List.getElem_cons_succ, Act.put, List.setIfInBounds_toArray, List.set_cons_succ, List.set_cons_zero]
  refine wpIn_two 8 9 rfl rfl (by kernel_rfl) (fun h => Bool.noConfusion (show true = false from h)) (by rfl) (by rfl) ?_ ?_
  · go_simp
    try simp only [List.getElem_toArray, List.getElem_cons_zero, List.getElem_cons_succ, Act.put, List.setIfInBounds_toArray, List.set_cons_succ, List.set_cons_zero]
    refine wpIn_one 9 rfl (by kernel_rfl) (fun h => Bool.noConfusion (show true = false from h)) (by rfl) ?_
    go_simp
    try simp only [List.getElem_toArray, List.getElem_cons_zero, List.getElem_cons_succ, Act.put, List.setIfInBounds_toArray, List.set_cons_succ, List.set_cons_zero]
    refine wpIn_one 10 rfl (by kernel_rfl) (fun h => Bool.noConfusion (show true = false from h)) (by rfl) ?_
    refine wp_store_row ItemT _ _ rfl (w.heap.size + 1) (itA k kind' A' n' c' dup') rfl rfl ItemT _ S7.out.bz (by kernel_rfl) rfl (itA_all _ _ _ _ _ _) ?_
    try simp only [List.getElem_toArray, List.getElem_cons_zero, List.getElem_cons_succ, Act.put, List.setIfInBounds_toArray, List.set_cons_succ, List.set_cons_zero]
    refine wpIn_one 11 rfl (by kernel_rfl) (fun h => Bool.noConfusion (show true = false from h)) (by rfl) ?_
    go_simp
    refine wpIn_done (by kernel_rfl) (by kernel_rfl) ?_ _
    simp only [Exit.then]
    go_wp2_with fail
    obtain ⟨z0, z1, z2, z3, z4, z5, z6, z7, z8, z9⟩ := (S7.out.bz.row (ds := itA k kind' A' n' c' dup')).at10.1
    obtain ⟨hfs, hfk⟩ := S7.out.done (itA k kind' A' n' c' dup') HMM.out
    refine bodyPost_ret (v := .tuple #[.agg (itA k kind' A' n' c' dup'), .nilIface]) (by simp [results, Tryz.results50, go_sem, z0, z1, z2, z3, z4, z5, z6, z7, z8, z9]) rfl ⟨_, rfl, ⟨kind', A', n', c', dup', s', rfl, HI.out.row S7.out.bz, HD.out, hfs⟩, hfk⟩
  · go_simp
    try simp only [List.getElem_toArray, List.getElem_cons_zero, List.getElem_cons_succ, Act.put, List.setIfInBounds_toArray, List.set_cons_succ, List.set_cons_zero]
    refine wpIn_one 8 rfl (by kernel_rfl) (fun h => Bool.noConfusion (show true = false from h)) (by rfl) ?_
    go_simp
    try simp only [List.getElem_toArray, List.getElem_cons_zero, List.getElem_cons_succ, Act.put, List.setIfInBounds_toArray, List.set_cons_succ, List.set_cons_zero]
    refine wpIn_one 10 rfl (by kernel_rfl) (fun h => Bool.noConfusion (show true = false from h)) (by rfl) ?_
    refine wp_store_row ItemT _ _ rfl (w.heap.size + 1) (itA k kind' A' n' c' dup') rfl rfl ItemT _ S7.out.bz (by kernel_rfl) rfl (itA_all _ _ _ _ _ _) ?_
    try simp only [List.getElem_toArray, List.getElem_cons_zero, List.getElem_cons_succ, Act.put, List.setIfInBounds_toArray, List.set_cons_succ, List.set_cons_zero]
    refine wpIn_one 11 rfl (by kernel_rfl) (fun h => Bool.noConfusion (show true = false from h)) (by rfl) ?_
    go_simp
    refine wpIn_done (by kernel_rfl) (by kernel_rfl) ?_ _
    simp only [Exit.then]
    go_wp2_with fail
    obtain ⟨z0, z1, z2, z3, z4, z5, z6, z7, z8, z9⟩ := (S7.out.bz.row (ds := itA k kind' A' n' c' dup')).at10.1
    obtain ⟨hfs, hfk⟩ := S7.out.done (itA k kind' A' n' c' dup') HMM.out
    refine bodyPost_ret (v := .tuple #[.agg (itA k kind' A' n' c' dup'), .nilIface]) (by simp [results, Tryz.results50, go_sem, z0, z1, z2, z3, z4, z5, z6, z7, z8, z9]) rfl ⟨_, rfl, ⟨kind', A', n', c', dup', s', rfl, HI.out.row S7.out.bz, HD.out, hfs⟩, hfk⟩
end Go.Proofs.YtkcfmjlcijhieaaGreat
namespace Go.Proofs.YtkcfmjlcijhieaaGreat
open Go.RowKit
attribute [local go_sem low] mk_extract
attribute [local go_sem] After.cell After.frozen mk_extract_end ByteArray.mk_append_mk
set_option maxRecDepth 100000 in
set_option maxHeartbeats 1600000 in
theorem take_ed (M : Nat → Prop) (t f m d : Nat) (fv : Value) (V : List Txt) (s : Sp.Sto) (k : Txt) (l : List Txt) (A : Option Addr) (n c : Nat) (v : Txt) (w : World) (h : StAt w M t f m d fv V s) (hV : V.length ≤ 400) (hd : Sp.EdSt V l s) (hvl : Sp.isVals l 4 12 = true) (hne : l ≠ []) (h12 : l.length ≤ 12) (hs : Sp.SrtV l) (hone : 1 < l.length) (hno : Sp.hasV l v = true) :
    Calls Tryz.prog 52 #[.pointer (some ⟨t, 0, none⟩), .agg (itA k 3 A n c 2), .string ⟨v.toArray⟩] w fun e w' => ∃ x, e = .returned (.tuple #[x, .nilIface]) ∧ EdR M t f m d fv V k (l.eraseIdx (Sp.plc l v)) w' x ∧ Chg (TwoM t d) w w' := by
  have HN := Lib.hid (AdS.new_ h (itA k 3 A n c 2))
  have HMM := Lib.hid h.hM
  have hplt : Sp.plc l v < l.length := by
    unfold Sp.hasV at hno
    rw [Bool.and_eq_true] at hno
    exact of_decide_eq_true hno.1
  clear h
  go_enter Tryz.func52, Tryz.ntmps52
  go_upto_region 1 with fail
  refine wp_gen _ HN.out ?_
  intro w2 hw2
  have S2 := Lib.hid hw2
  clear hw2 HN
  have hkd : w2.cell? ⟨w.heap.size, 1, none⟩ = some (.int .i64 3) := S2.out.bx.cell 1
  have HVC := Lib.hid (vals_el _ t f m d fv V s l k A n c w2 S2.out.st hd hV)
  go_upto_region 4 with (first
    | (refine wpList_row ItemT _ rfl w.heap.size rfl rfl ItemT _ (0, 0) _ S2.out.bx Tryz.underlying90 rfl rfl ?_)
    | (go_at_call 51; refine HVC.out.mono ?_; rintro e w3 ⟨A1, cA1, rfl, ho3, hb3⟩; have HO := Lib.hid ho3; have HB3 := Lib.hid hb3; clear ho3 hb3))
  have hpl := hplt
  have S3 := Lib.hid (S2.out.go HB3.out)
  have HT3 := Lib.hid (own_rowT (N := NoM) HO.out (by omega) (fun _ _ _ h => h))
  have HPC := Lib.hid (place_any l v A1 cA1 w3 HT3.out)
  rw [hno] at HPC
  go_upto_region 9 with (go_at_call 81; refine HPC.out.mono ?_; rintro e w4 ⟨rfl, hb4⟩; have HB4 := Lib.hid hb4; clear hb4)
  have hB24 := HB3.out.trans (HB4.out.mono HB3.out.size)
  have HO4 := Lib.hid (own_chg2 (S := NoM) HO.out (Chg.of_below HB4.out) (fun _ _ h => h))
  have S4 := Lib.hid (S3.out.go HB4.out)
  clear HO S3 HT3 HPC HB3 HB4 HVC hkd
  obtain ⟨w3', rfl⟩ : ∃ W, W = w4 := ⟨_, rfl⟩
  have hz23 : w2.heap.size ≤ w3'.heap.size := hB24.size
  have hx2 : w.heap.size < w2.heap.size := S2.out.bx.lt
  refine wp_region_in 12 7 (fun W => Below w2.heap.size w3' W) (by kernel_rfl) rfl ?_
  refine wpIn_takeV 0 [7] (.pointer (some ⟨t, 0, none⟩)) rfl (by kernel_rfl) (by kernel_rfl) (by kernel_rfl) (by kernel_rfl) (by kernel_rfl) (by kernel_rfl) (by kernel_rfl) (by rfl) (fun _ _ _ h => h) (Below.refl w2.heap.size w3').drew (fun W hW => by go_simp; all_goals first | with_reducible rfl | rfl | omega) ?_
  try simp only [List.getElem_toArray, List.getElem_cons_zero, List.getElem_cons_succ, Act.put, List.setIfInBounds_toArray, List.set_cons_succ, List.set_cons_zero]
  refine wpIn_takeV 1 [7] (.agg (itA k 3 A n c 2)) rfl (by kernel_rfl) (by kernel_rfl) (by kernel_rfl) (by kernel_rfl) (by kernel_rfl) (by kernel_rfl) (by kernel_rfl) (by rfl) (fun _ _ _ h => h) (Below.refl w2.heap.size w3').drew (fun W hW => exec_item _ rfl w.heap.size rfl _ (S4.out.bx.below hW hx2) rfl) ?_
  try simp only [List.getElem_toArray, List.getElem_cons_zero, List.getElem_cons_succ, Act.put, List.setIfInBounds_toArray, List.set_cons_succ, List.set_cons_zero]
  refine wpIn_takeV 2 [6, 7] (.slice A1 l.length cA1) rfl (by kernel_rfl) (by kernel_rfl) (by kernel_rfl) (by kernel_rfl) (by kernel_rfl) (by kernel_rfl) (by kernel_rfl) (by rfl) (fun _ _ _ h => h) (Below.refl w2.heap.size w3').drew (fun W hW => by go_simp; all_goals first | with_reducible rfl | rfl | omega) ?_
  try simp only [List.getElem_toArray, List.getElem_cons_zero, List.getElem_cons_succ, Act.put, List.setIfInBounds_toArray, List.set_cons_succ, List.set_cons_zero]
  refine wpIn_takeV 3 [6, 7] (.int .i64 (Sp.plc l v : Int)) rfl (by kernel_rfl) (by kernel_rfl) (by kernel_rfl) (by kernel_rfl) (by kernel_rfl) (by kernel_rfl) (by kernel_rfl) (by rfl) (fun _ _ _ h => h) (Below.refl w2.heap.size w3').drew (fun W hW => by go_simp; all_goals first | with_reducible rfl | rfl | omega) ?_
  try simp only [List.getElem_toArray, List.getElem_cons_zero, List.getElem_cons_succ, Act.put, List.setIfInBounds_toArray, List.set_cons_succ, List.set_cons_zero]
  refine wpIn_takeV 4 [5, 6, 7] (.int .i64 (Sp.plc l v : Int)) rfl (by kernel_rfl) (by kernel_rfl) (by kernel_rfl) (by kernel_rfl) (by kernel_rfl) (by kernel_rfl) (by kernel_rfl) (by rfl) (fun _ _ _ h => h) (Below.refl w2.heap.size w3').drew (fun W hW => by go_simp; all_goals first | with_reducible rfl | rfl | omega) ?_
  try simp only [List.getElem_toArray, List.getElem_cons_zero, List.getElem_cons_succ, Act.put, List.setIfInBounds_toArray, List.set_cons_succ, List.set_cons_zero]
  refine wpIn_takeV 5 [6, 7] (.int .i64 ((Sp.plc l v : Int) + 1)) rfl (by kernel_rfl) (by kernel_rfl) (by kernel_rfl) (by kernel_rfl) (by kernel_rfl) (by kernel_rfl) (by kernel_rfl) (by rfl) (fun _ _ _ h => h) (Below.refl w2.heap.size w3').drew (fun W hW => by have hw : IntKind.i64.wrap ((Sp.plc l v : Int) + 1) = (Sp.plc l v : Int) + 1 := (by simp only [IntKind.wrap_i64]; omega); go_simp; all_goals first | with_reducible rfl | rfl | omega) ?_
  try simp only [List.getElem_toArray, List.getElem_cons_zero, List.getElem_cons_succ, Act.put, List.setIfInBounds_toArray, List.set_cons_succ, List.set_cons_zero]
  refine wpIn_one 6 rfl (by kernel_rfl) (fun _ => (Below.refl w2.heap.size w3').drew) (by rfl) ?_
  go_simp
  refine (delS_any (B := w2.heap.size) (Sp.plc l v) hpl (own_chg2 (S := NoM) HO4.out (Chg.of_below (Below.refl w3'.heap.size w3').drew) (fun _ _ h => h)) (by show w2.heap.size ≤ w3'.heap.size; omega)).mono ?_
  rintro e w6 ⟨vr, rfl, ho6, hb6⟩
  obtain ⟨A6, c6, rfl⟩ := own_slice ho6
  have hB6 : Below w2.heap.size w3' w6 := Below.trans (Below.refl w2.heap.size w3').drew hb6
  have hlen6 : (l.eraseIdx (Sp.plc l v)).length = l.length - 1 := by rw [List.length_eraseIdx, if_pos hpl]
  have S6 := Lib.hid (S2.out.go (hB24.trans hB6))
  have HT6 := Lib.hid (own_tk ho6 (by omega))
  clear ho6 hb6
  try simp only [List.getElem_toArray, List.getElem_cons_zero, List.getElem_cons_succ, Act.put, List.setIfInBounds_toArray, List.set_cons_succ, List.set_cons_zero]
  refine wpIn_one 7 rfl (by kernel_rfl) (fun _ => hB6) (by rfl) ?_
  go_simp
  rw [← hlen6]
  refine (with_ed _ t f m d fv V s k l 3 A n c (l.eraseIdx (Sp.plc l v)) A6 c6 w6 S6.out.st hV hd hvl (by intro e; have := congrArg List.length e; rw [hlen6] at this; simp at this; omega) (Sp.era_srt hs _) (by rw [hlen6]; omega) HT6.out).mono ?_
  rintro e w7 ⟨vv, rfl, ⟨kind', A', n', c', dup', s', rfl, hI', hD', hst'⟩, hk7⟩
  have S7 := Lib.hid (S6.out.turn hst' hk7)
  have HI := Lib.hid hI'
  have HD := Lib.hid hD'
  clear hst' hk7 hI' hD' S6
  try simp only [List.getElem_toArray, List.getElem_cons_zero, List.getElem_cons_succ, Act.put, List.setIfInBounds_toArray, List.set_cons_succ, List.set_cons_zero]
  refine wpIn_two 8 9 rfl rfl (by kernel_rfl) (fun h => Bool.noConfusion (show true = false from h)) (by rfl) (by rfl) ?_ ?_
  · go_simp
    try simp only [List.getElem_toArray, List.getElem_cons_zero, List.getElem_cons_succ, Act.put, List.setIfInBounds_toArray, List.set_cons_succ, List.set_cons_zero]
    refine wpIn_one 9 rfl (by kernel_rfl) (fun h => Bool.noConfusion (show true = false from h)) (by rfl) ?_
    go_simp
    try simp only [List.getElem_toArray, List.getElem_cons_zero, List.getElem_cons_succ, Act.put, List.setIfInBounds_toArray, List.set_cons_succ, List.set_cons_zero]
    refine wpIn_one 10 rfl (by kernel_rfl) (fun h => Bool.noConfusion (show true = false from h)) (by rfl) ?_
    refine wp_store_row ItemT _ _ rfl (w.heap.size + 1) (itA k kind' A' n' c' dup') rfl rfl ItemT _ S7.out.bz (by kernel_rfl) rfl (itA_all _ _ _ _ _ _) ?_
    try simp only [List.getElem_toArray, List.getElem_cons_zero, List.getElem_cons_succ, Act.put, List.setIfInBounds_toArray, List.set_cons_succ, List.set_cons_zero]
    refine wpIn_one 11 rfl (by kernel_rfl) (fun h => Bool.noConfusion (show true = false from h)) (by rfl) ?_
    go_simp
    refine wpIn_done (by kernel_rfl) (by kernel_rfl) ?_ _
    simp only [Exit.then]
    go_wp2_with fail
    obtain ⟨z0, z1, z2, z3, z4, z5, z6, z7, z8, z9⟩ := (S7.out.bz.row (ds := itA k kind' A' n' c' dup')).at10.1
    obtain ⟨hfs, hfk⟩ := S7.out.done (itA k kind' A' n' c' dup') HMM.out
    refine bodyPost_ret (v := .tuple #[.agg (itA k kind' A' n' c' dup'), .nilIface]) (by simp [results, Tryz.results52, go_sem, z0, z1, z2, z3, z4, z5, z6, z7, z8, z9]) rfl ⟨_, rfl, ⟨kind', A', n', c', dup', s', rfl, HI.out.row S7.out.bz, HD.out, hfs⟩, hfk⟩
  · go_simp
    try simp only [List.getElem_toArray, List.getElem_cons_zero, List.getElem_cons_succ, Act.put, List.setIfInBounds_toArray, List.set_cons_succ, List.set_cons_zero]
    refine wpIn_one 8 rfl (by kernel_rfl) (fun h => Bool.noConfusion (show true = false from h)) (by rfl) ?_
    go_simp
    try simp only [List.getElem_toArray, List.getElem_cons_zero, List.getElem_cons_succ, Act.put, List.setIfInBounds_toArray, List.set_cons_succ, List.set_cons_zero]
    refine wpIn_one 10 rfl (by kernel_rfl) (fun h => Bool.noConfusion (show true = false from h)) (by rfl) ?_
    refine wp_store_row ItemT _ _ rfl (w.heap.size + 1) (itA k kind' A' n' c' dup') rfl rfl ItemT _ S7.out.bz (by kernel_rfl) rfl (itA_all _ _ _ _ _ _) ?_
    try simp only [List.getElem_toArray, List.getElem_cons_zero, List.getElem_cons_succ, Act.put, List.setIfInBounds_toArray, List.set_cons_succ, List.set_cons_zero]
    refine wpIn_one 11 rfl (by kernel_rfl) (fun h => Bool.noConfusion (show true = false from h)) (by rfl) ?_
    go_simp
    refine wpIn_done (by kernel_rfl) (by kernel_rfl) ?_ _
    simp only [Exit.then]
    go_wp2_with fail
    obtain ⟨z0, z1, z2, z3, z4, z5, z6, z7, z8, z9⟩ := (S7.out.bz.row (ds := itA k kind' A' n' c' dup')).at10.1
    obtain ⟨hfs, hfk⟩ := S7.out.done (itA k kind' A' n' c' dup') HMM.out
    refine bodyPost_ret (v := .tuple #[.agg (itA k kind' A' n' c' dup'), .nilIface]) (by simp [results, Tryz.results52, go_sem, z0, z1, z2, z3, z4, z5, z6, z7, z8, z9]) rfl ⟨_, rfl, ⟨kind', A', n', c', dup', s', rfl, HI.out.row S7.out.bz, HD.out, hfs⟩, hfk⟩
end Go.Proofs.YtkcfmjlcijhieaaGreat
