/- Long values: the known store of law 13. Free pages packed. -/
import Derived.Test.YtkcfmjlcijhieaaGreatQB11
import Derived.Test.YtkcfmjlcijhieaaGreatQB16
import Derived.Test.YtkcfmjlcijhieaaGreatQB24
import Derived.Test.YtkcfmjlcijhieaaGreatQPKeeps06
import Derived.Test.YtkcfmjlcijhieaaGreatQPKeeps07
import Derived.Laws.MakeOwn
set_option linter.unusedSimpArgs false
set_option linter.unusedVariables false
namespace Go.Proofs.YtkcfmjlcijhieaaGreat
open Go.RowKit
attribute [local go_sem low] mk_extract
attribute [local go_sem] After.cell After.frozen mk_extract_end ByteArray.mk_append_mk
theorem info_u8b : (Tryz.prog.info? 5).map (fun i => (i.zero, i.size, i.bytes)) = some (some (.int .u8 0), 1, 1) := by kernel_rfl
/-- A row of so many zeros, made. -/
def zB (w : World) (n : Nat) : World := w.alloc (.cells (madeCells #[.int .u8 0] n) 5)
theorem zB_below {B : Nat} {w0 w : World} (n : Nat) (h : Below B w0 w) (hB : B ≤ w.heap.size) : Below B w0 (zB w n) := h.alloc hB _
theorem zB_row (w : World) (n : Nat) : ∀ i, i < n → (zB w n).cell? ⟨w.heap.size, i, none⟩ = some (.int .u8 0) := fun i hi => by
  refine ((Blk.new w 5 (madeCells #[.int .u8 0] n)).cell i).trans ?_
  simp [madeCells, hi, Nat.mod_one]
theorem mkBytes (n : Nat) (h : n ≤ 100000) (w : World) : (Instr.makeSlice 22 (.int .i64 n) (.int .i64 n)).run Tryz.prog w = .ok (.slice (some ⟨w.heap.size, 0, none⟩) n n) (zB w n) := by
  obtain ⟨i0, hi0, hz0, hz1, hz2⟩ := info_parts info_u8b
  have h1 := run_makeSlice (P := Tryz.prog) (w := w) 22 5 i0 _ Tryz.underlying22 hi0 hz0 .i64 .i64 n n (by omega) (by omega) (by rw [hz1]; simp; omega) (by rw [hz2]; simp; omega) (by omega)
  rw [h1, hz1, Int.toNat_natCast, Nat.mul_one]
  rfl
theorem backZ (n : Nat) (w : World) : (convert 22 9 (.slice (some ⟨w.heap.size, 0, none⟩) n n)).run Tryz.prog (zB w n) = .ok (.string ⟨(List.replicate n (0 : UInt8)).toArray⟩) (zB w n) := by
  have h := run_convert_bytes_back (P := Tryz.prog) (zB w n) 22 9 5 ⟨w.heap.size, 0, none⟩ n (List.replicate n (0 : UInt8)) Tryz.underlying22 Tryz.underlying5 Tryz.underlying9 (fun j hj => by
    have hp : (⟨w.heap.size, 0, none⟩ : Addr).add j = ⟨w.heap.size, 0 + j, none⟩ := by simp [Addr.add]; omega
    rw [hp, Nat.zero_add]
    rw [List.length_replicate] at hj
    rw [zB_row w n j hj, List.getElem_replicate]
    rfl)
  rw [List.length_replicate] at h
  exact h
namespace Sp
def eV : List Txt := [[], []]
theorem eV_sz : ∀ s ∈ eV, s.length ≤ 4611686018427387904 := by decide
def e0 : Sto := Sto.new 2 400 []
theorem e0_full : Full 0 e0 := Full.zero
def oT : Txt := List.replicate 101 0
def oS : Sto := (e0.write oT).2
theorem o_w : e0.write oT = ((2, none), oS) := by kernel_rfl
theorem o_r1 : oS.readO eV 2 101 = (oT, none) := by kernel_rfl
theorem o_r2 : oS.readO eV 2 102 = ([], some 12) := by kernel_rfl
theorem o_w2 : oS.write [115, 104, 111, 114, 116] = ((0, some 22), oS) := by kernel_rfl
theorem o_d : (dropTo oS 2 2).d = [] := by kernel_rfl
theorem o_ok : oS.Ok := by
  obtain ⟨s1, h1, h2, _⟩ := e0_full.write (T := oT) (by kernel_rfl) (by decide +kernel)
  rw [o_w] at h1
  rw [show oS = s1 from congrArg (fun x => x.2) h1]
  exact h2.ok
end Sp
theorem eV_txts (W : World) : Txts (W.alloc (.cells #[.string ⟨#[]⟩, .string ⟨#[]⟩] StrT)) NoM (some ⟨W.heap.size, 0, none⟩) Sp.eV := by
  have hb := Blk.new W StrT #[.string ⟨#[]⟩, .string ⟨#[]⟩]
  refine ⟨by simp [Sp.eV], .inr ⟨W.heap.size, 0, rfl, hb.lt, fun h => h, fun j v hv => ?_⟩⟩
  rw [Nat.zero_add]
  refine (hb.cell j).trans ?_
  rcases j with _ | _ | j
  · exact hv
  · exact hv
  · simp [Sp.eV] at hv
theorem nil_ivO (W : World) : IV W (.slice none 0 0) [] := ⟨⟨none, 0, rfl, .inl ⟨rfl, rfl⟩⟩, by simp⟩
/-- A store over a file of two pages. -/
structure OvS (w : World) (M : Nat → Prop) (t f m d : Nat) (fv : Value) (s : Sp.Sto) (W : World) : Prop where
  st : StAt W M t f m d fv Sp.eV s
  ok : s.Ok
  hb : Below w.heap.size w W
  ht : w.heap.size ≤ t ∧ w.heap.size ≤ d
theorem OvS.step {w W W' : World} {M : Nat → Prop} {t f m d : Nat} {fv : Value} {s s' : Sp.Sto} (h : OvS w M t f m d fv s W) (hs : StAt W' M t f m d fv Sp.eV s') (ho : s'.Ok) (hk : Chg (TwoM t d) W W') : OvS w M t f m d fv s' W' :=
  ⟨hs, ho, h.hb.trans (hk.below h.hb.size fun k hk' e => by
    have := h.ht
    rcases e with rfl | rfl <;> omega), h.ht⟩
theorem OvS.go {w W W' : World} {M : Nat → Prop} {t f m d : Nat} {fv : Value} {s : Sp.Sto} (h : OvS w M t f m d fv s W) (hb : Below W.heap.size W W') : OvS w M t f m d fv s W' :=
  ⟨h.st.go hb, h.ok, h.hb.trans (hb.mono h.hb.size), h.ht⟩
theorem OvS.new_ {w w1 w2 w3 : World} {M : Nat → Prop} {t f m d : Nat} {fv : Value} (h1 : Below w.heap.size w w1) (h2 : Below w1.heap.size w1 w2) (h3 : Below w2.heap.size w2 w3) (hst : StAt w3 M t f m d fv Sp.eV (Sp.Sto.new 2 400 [])) (ht : w2.heap.size ≤ t) (hd : w2.heap.size ≤ d) : OvS w M t f m d fv Sp.e0 w3 := by
  have z1 := h1.size
  have z2 := h2.size
  exact ⟨hst, Sp.Sto.new_ok 2 400 [], (h1.trans (h2.mono z1)).trans (h3.mono (by omega)), ⟨by omega, by omega⟩⟩
set_option maxRecDepth 100000 in
set_option maxHeartbeats 1600000 in
theorem known13_any (w : World) : Calls Tryz.prog 44 #[] w fun e w' => e = .returned (.bool true) ∧ Below w.heap.size w w' := by
  have hmk : ∀ w, (Instr.makeSlice 22 (.int .i64 101) (.int .i64 101)).run Tryz.prog w = .ok (.slice (some ⟨w.heap.size, 0, none⟩) 101 101) (zB w 101) := fun w => mkBytes 101 (by decide) w
  have hbk := fun w => backZ 101 w
  have hoT : List.replicate 101 (0 : UInt8) = Sp.oT := rfl
  rw [hoT] at hbk
  go_enter Tryz.func44, Tryz.ntmps44
  go_upto_region 2 with (first
    | (go_at_call 20; refine (fileNew_any Sp.eV w.heap.size 0 2 _ (eV_txts w) (by decide) (by decide) Sp.eV_sz).mono ?_; rintro e w2 ⟨f, fv, m, rfl, hf, _, _, _, hb2⟩; have HF := Lib.hid hf; have HB2 := Lib.hid hb2; clear hf hb2)
    | (go_at_call 28; refine (stoNew_any f m fv Sp.eV 2 400 (.slice none 0 0) [] _ HF.out (nil_ivO _)).mono ?_; rintro e w3 ⟨t, d, M, rfl, hst, hM, hb3, ht, hd⟩; have HST := Lib.hid hst; have HB3 := Lib.hid hb3; clear hst hM hb3))
  have S0 := Lib.hid (OvS.new_ ((Below.refl _ _).alloc (Nat.le_refl _) _) HB2.out HB3.out HST.out ht hd)
  clear HF HB2 HB3 HST ht hd
  go_upto_region 5 with fail
  have S1 := Lib.hid (S0.out.go (zB_below 101 (Below.refl _ _) (Nat.le_refl _)))
  generalize zB w3 101 = w4 at *
  clear S0 hmk hbk
  have HW1 := Lib.hid (owrite_any M t f m d fv Sp.eV Sp.e0 Sp.oT w4 S1.out.st S1.out.ok (by decide))
  rw [Sp.o_w] at HW1
  go_upto_region 6 with (go_at_call 45; refine HW1.out.mono ?_; rintro e w5 ⟨rfl, hst5, hk5⟩; have S2 := Lib.hid (S1.out.step hst5 Sp.o_ok hk5); clear hst5 hk5; simp only [erO])
  clear S1 HW1
  have HR1 := Lib.hid (oread_any M t f m d fv Sp.eV Sp.oS 2 101 w5 S2.out.st S2.out.ok (by decide) (by decide) (by decide))
  rw [Sp.o_r1] at HR1
  go_upto_region 7 with (go_at_call 47; refine HR1.out.mono ?_; rintro e w6 ⟨rfl, hb6⟩; have S3 := Lib.hid (S2.out.go hb6); clear hb6; simp only [erO])
  clear S2 HR1
  have HR2 := Lib.hid (oread_any M t f m d fv Sp.eV Sp.oS 2 102 w6 S3.out.st S3.out.ok (by decide) (by decide) (by decide))
  rw [Sp.o_r2] at HR2
  go_upto_region 8 with (go_at_call 47; refine HR2.out.mono ?_; rintro e w7 ⟨rfl, hb7⟩; have S4 := Lib.hid (S3.out.go hb7); clear hb7; simp only [erO])
  clear S3 HR2
  have HW2 := Lib.hid (owrite_any M t f m d fv Sp.eV Sp.oS [115, 104, 111, 114, 116] w7 S4.out.st S4.out.ok (by decide))
  rw [Sp.o_w2] at HW2
  go_upto_region 9 with (go_at_call 45; refine HW2.out.mono ?_; rintro e w8 ⟨rfl, hst8, hk8⟩; have S5 := Lib.hid (S4.out.step hst8 Sp.o_ok hk8); clear hst8 hk8; simp only [erO])
  clear S4 HW2
  have HD := Lib.hid (odrop_any M t f m d fv Sp.eV Sp.oS 2 101 w8 S5.out.st S5.out.ok (by decide) (by decide))
  rw [show Sp.cntO 101 = 2 from by decide] at HD
  go_upto_region 10 with (go_at_call 48; refine HD.out.mono ?_; rintro e w9 ⟨rfl, hst9, hk9⟩; have S6 := Lib.hid (S5.out.step hst9 (Sp.dropTo_ok Sp.o_ok 2 2) hk9); clear hst9 hk9)
  clear S5 HD
  have HL := Lib.hid (show (Sp.dropTo Sp.oS 2 2).dirty.length = 0 from by rw [Sp.Sto.dirty_len, Sp.o_d]; rfl)
  generalize Sp.dropTo Sp.oS 2 2 = s6 at *
  have c0 := show Sp.cntO 0 = 0 from by decide
  have c1 := show Sp.cntO 100 = 1 from by decide
  have c2 := show Sp.cntO 101 = 2 from by decide
  go_wp2_with (first
    | (go_at_call_of 26 (Value.iface 55 (Value.int IntKind.i64 12)); refine (errIs_same 12 _).mono ?_; rintro e wa ⟨rfl, rfl⟩)
    | (go_at_call_of 26 (Value.iface 55 (Value.int IntKind.i64 22)); refine (errIs_same 22 _).mono ?_; rintro e wa ⟨rfl, rfl⟩)
    | (go_at_call_of 46 (Value.int IntKind.i64 100); refine (count_any 100 _ (by decide) (by decide)).mono ?_; rintro e wa ⟨rfl, rfl⟩; rw [c1])
    | (go_at_call_of 46 (Value.int IntKind.i64 101); refine (count_any 101 _ (by decide) (by decide)).mono ?_; rintro e wa ⟨rfl, rfl⟩; rw [c2])
    | (go_at_call_of 46 (Value.int IntKind.i64 0); refine (count_any 0 _ (by decide) (by decide)).mono ?_; rintro e wa ⟨rfl, rfl⟩; rw [c0])
    | (go_at_call 36; refine (stoDirty_any M t f m d fv Sp.eV s6 _ S6.out.st S6.out.ok).mono ?_; rintro e wa ⟨rd, rfl, hod, hbd⟩; rw [HL.out] at hod; obtain ⟨Ad, cd, rfl⟩ := own_slice hod; have S7 := Lib.hid (S6.out.go hbd); clear hod hbd))
  go_ret
  exact ⟨by simp, S7.out.hb⟩
end Go.Proofs.YtkcfmjlcijhieaaGreat
namespace Go.Proofs.YtkcfmjlcijhieaaGreat
open Go.RowKit
attribute [local go_sem low] mk_extract
attribute [local go_sem] After.cell After.frozen mk_extract_end ByteArray.mk_append_mk
open Go.Conc
namespace Sp
def onesF (f : Free) : List One := (List.range f.ids.length).map fun i => ⟨f.txn, f.ids.getD i 0, decide (i = 0)⟩
def onesOf (l : List Free) : List One := l.flatMap onesF
theorem onesF_len (f : Free) : (onesF f).length = f.ids.length := by simp [onesF]
theorem onesOf_len : ∀ l : List Free, (onesOf l).length = total l
  | [] => rfl
  | x :: l => by
    have := onesOf_len l
    simp only [onesOf, total, List.flatMap_cons, List.length_append, List.map_cons, List.sum_cons, onesF_len] at *
    omega
theorem onesOf_take {l : List Free} {j : Nat} (h : j < l.length) : onesOf (l.take (j + 1)) = onesOf (l.take j) ++ onesF (l.getD j free0) := by
  unfold onesOf
  rw [List.take_succ_eq_append_getElem h, List.flatMap_append]
  simp [List.getD, h]
theorem onesF_take {f : Free} {k : Nat} (h : k < f.ids.length) : (onesF f).take (k + 1) = (onesF f).take k ++ [⟨f.txn, f.ids.getD k 0, decide (k = 0)⟩] := by
  unfold onesF
  rw [← List.map_take, ← List.map_take, List.take_range, List.take_range, Nat.min_eq_left (by omega), Nat.min_eq_left (by omega), List.range_succ, List.map_append]
  rfl
theorem mem_ones {l : List Free} {x : One} (h : x ∈ onesOf l) : ∃ f ∈ l, x.txn = f.txn := by
  obtain ⟨f, hf, hx⟩ := List.mem_flatMap.1 h
  obtain ⟨i, _, rfl⟩ := List.mem_map.1 hx
  exact ⟨f, hf, rfl⟩
end Sp
theorem mkChanO (n : Nat) (h : n ≤ 100000) (w : World) : (Instr.makeChan 99 (.int .i64 n)).run Tryz.prog w = .ok (.chan (some w.heap.size)) (w.alloc (.chan n #[] false 0 0 false)) := by
  obtain ⟨i0, hi0, hz0, hz1, hz2⟩ := info_parts info_one
  have hu : Tryz.prog.underlying 99 = some (.chan .both OneT) := Tryz.underlying99
  have h3 : ¬ ((n : Int) < 0 ∨ (n : Int) > IntKind.i64.max ∨ ((i0.bytes : Nat) : Int) * (n : Int) > 2 ^ 48 - 112) := by
    have h1 : IntKind.i64.max = 9223372036854775807 := by decide
    rw [h1, hz2]
    omega
  unfold Instr.makeChan
  simp only [Sem.run_bind, asInt, Sem.run_pure, Result.andThen_ok, run_underlying hu, typeInfo, hi0]
  have e1 : (Sem.run Tryz.prog (asIntOf (Value.int IntKind.i64 (n : Int))) w) = .ok (.i64, (n : Int)) w := rfl
  rw [e1]
  simp only [Result.andThen_ok]
  have e2 : Sem.run Tryz.prog program w = .ok Tryz.prog w := rfl
  rw [e2]
  simp only [Result.andThen_ok]
  rw [show Tryz.prog.info? OneT = some i0 from hi0]
  simp only [Sem.run_pure, Result.andThen_ok]
  rw [if_neg h3]
  simp [go_sem]
abbrev FrsT : TypeId := 24
theorem info_frs : (Tryz.prog.info? 24).map (fun i => (i.zero, i.size, i.bytes)) = some (some (.slice none 0 0), 1, 24) := by kernel_rfl
/-- A row of rows, made. -/
def zR (w : World) (n : Nat) : World := w.alloc (.cells (madeCells #[.slice none 0 0] n) FrsT)
theorem mkRows (n : Nat) (h : n ≤ 100000) (w : World) : (Instr.makeSlice 30 (.int .i64 n) (.int .i64 n)).run Tryz.prog w = .ok (.slice (some ⟨w.heap.size, 0, none⟩) n n) (zR w n) := by
  obtain ⟨i0, hi0, hz0, hz1, hz2⟩ := info_parts info_frs
  have h1 := run_makeSlice (P := Tryz.prog) (w := w) 30 FrsT i0 _ Tryz.underlying30 hi0 hz0 .i64 .i64 n n (by omega) (by omega) (by rw [hz1]; simp; omega) (by rw [hz2]; simp; omega) (by omega)
  rw [h1, hz1, Int.toNat_natCast, Nat.mul_one]
  rfl
theorem FrO.base {w : World} {B B' : Nat} (h : B' ≤ B) : ∀ {l : List Sp.Free} {xs : List Value}, FrO w B l xs → FrO w B' l xs
  | [], _, h' => h'
  | _ :: _, _, ⟨V, c, ys, e, ho, hb, h'⟩ => ⟨V, c, ys, e, own_base ho h, hb, h'.base h⟩
theorem FrsO.base {w : World} {B B' : Nat} {u : Value} {l : List Sp.Free} (h : FrsO w B u l) (hB : B' ≤ B) : FrsO w B' u l := by
  obtain ⟨xs, h1, h2⟩ := h.ex
  exact ⟨xs, own_base h1 hB, h2.base hB⟩
/-- Sent so far. -/
structure PkS (w : World) (cc cap : Nat) (l : List Sp.One) (W : World) : Prop where
  hb : Below w.heap.size w W
  ge : w.heap.size ≤ cc
  ch : ∃ s q, W.heap[cc]? = some (.chan cap (l.map oneV).toArray false s q false)
theorem PkS.go {w W W' : World} {cc cap : Nat} {l : List Sp.One} (h : PkS w cc cap l W) (hb : Below W.heap.size W W') : PkS w cc cap l W' := by
  obtain ⟨s, q, hc⟩ := h.ch
  exact ⟨h.hb.trans (hb.mono h.hb.size), h.ge, s, q, (hb.block cc (Array.getElem?_eq_some_iff.1 hc).1).trans hc⟩
/-- Rows that are packed so far. -/
structure PmS (w : World) (L : List Sp.One) (n k : Nat) (b : Nat) (W : World) : Prop where
  bk : ∃ cs : Array Value, Blk W b FrsT cs ∧ cs.size = n ∧ ∀ i, i < k → ∃ A c, cs[i]? = some (.slice A (Sp.rowI (L.drop (20 * i))).length c) ∧ FrsO W w.heap.size (.slice A (Sp.rowI (L.drop (20 * i))).length c) (Sp.rowI (L.drop (20 * i)))
  ge : w.heap.size ≤ b
theorem PmS.chg {w W W' : World} {L : List Sp.One} {n k b : Nat} {S : Nat → Prop} (h : PmS w L n k b W) (hk : Chg S W W') (hS : ∀ k t cs, Blk W k t cs → ¬ S k) : PmS w L n k b W' := by
  obtain ⟨cs, h1, h2, h3⟩ := h.bk
  refine ⟨⟨cs, h1.chg hk (hS _ _ _ h1), h2, fun i hi => ?_⟩, h.ge⟩
  obtain ⟨A, c, h4, h5⟩ := h3 i hi
  refine ⟨A, c, h4, h5.chg hk (fun k hk' => ?_) (fun k cs _ hb => hS _ _ _ hb)⟩
  obtain ⟨xs, h6, _⟩ := h5.ex
  obtain ⟨ds, hd⟩ := own_ty2 h6 hk'
  exact hS _ _ _ hd
theorem PmS.put {w W : World} {L : List Sp.One} {n k b : Nat} (h : PmS w L n k b W) (hkn : k < n) {A : Option Addr} {c : Nat} (hf : FrsO W w.heap.size (.slice A (Sp.rowI (L.drop (20 * k))).length c) (Sp.rowI (L.drop (20 * k)))) :
    PmS w L n (k + 1) b (W.setCell ⟨b, k, none⟩ (.slice A (Sp.rowI (L.drop (20 * k))).length c)) := by
  obtain ⟨cs, h1, h2, h3⟩ := h.bk
  have hs := Chg.set1 W b k (.slice A (Sp.rowI (L.drop (20 * k))).length c)
  have hgo : ∀ {u : Value} {l : List Sp.Free}, FrsO W w.heap.size u l → FrsO (W.setCell ⟨b, k, none⟩ (.slice A (Sp.rowI (L.drop (20 * k))).length c)) w.heap.size u l := fun {u l} h5 => h5.chg hs (fun j hj e => by
      obtain ⟨xs, h6, _⟩ := h5.ex
      obtain ⟨ds, hd⟩ := own_ty2 h6 hj
      have e : j = b := e
      subst e
      exact hd.not_ (by decide) _ h1) (fun j cs' _ hb e => by
      have e : j = b := e
      subst e
      exact hb.not_ (by decide) _ h1)
  refine ⟨⟨_, h1.set_ k _, by simpa using h2, fun i hi => ?_⟩, h.ge⟩
  by_cases e : i = k
  · subst e
    exact ⟨A, c, by rw [Array.getElem?_setIfInBounds_self, if_pos (by omega)], hgo hf⟩
  · obtain ⟨A', c', h4, h5⟩ := h3 i (by omega)
    exact ⟨A', c', by rw [Array.getElem?_setIfInBounds_ne (fun h => e h.symm)]; exact h4, hgo h5⟩
set_option maxRecDepth 100000 in
set_option maxHeartbeats 1600000 in
theorem fpack_any (l : List Sp.Free) (A : Option Addr) (cA n : Nat) {M : Nat → Prop} (w : World) (h0 : Frees w M A l) (hn : l.length ≤ 1000) (hl : ∀ f ∈ l, f.ids.length ≤ 1000) (ht : Sp.total l ≤ 8000) (hn2 : n ≤ 1000) :
    Calls Tryz.prog 17 #[.slice A l.length cA, .int .i64 n] w fun e w' => ∃ b, e = .returned (.slice (some ⟨b, 0, none⟩) n n) ∧ PmS w (Sp.onesOf l) n n b w' ∧ Below w.heap.size w w' := by
  have H := Lib.hid (frees_wide (T := fun k => w.heap.size ≤ k) h0 (fun k hk h => by omega))
  have HCT := Lib.hid (fcount_any l A cA w h0 hn hl)
  have HL := Lib.hid hl
  have hmk := fun w => mkChanO (Sp.total l) (by omega) w
  have hlen := Sp.onesOf_len l
  clear h0 hl
  go_enter Tryz.func17, Tryz.ntmps17
  go_upto_region 2 with (go_at_call 16; refine HCT.out.mono ?_; rintro e w1 ⟨rfl, hb1⟩; have HB1 := Lib.hid hb1; clear hb1)
  have hsz1 : w.heap.size ≤ w1.heap.size := HB1.out.size
  obtain ⟨cc, hcc⟩ : ∃ cc, cc = w1.heap.size := ⟨_, rfl⟩
  obtain ⟨cap, hcap⟩ : ∃ cap, cap = Sp.total l := ⟨_, rfl⟩
  have hp0 : PkS w cc cap [] (w1.alloc (.chan (Sp.total l) #[] false 0 0 false)) := ⟨HB1.out.alloc hsz1 _, by omega, 0, 0, by rw [hcc, hcap]; exact heap_alloc_new w1 _⟩
  have P0 := Lib.hid hp0
  rw [← hcc]
  have HCP := Lib.hid (show cap = Sp.total l from hcap)
  clear hp0 HB1 hmk hcap hcc hsz1 HCT
  generalize w1.alloc (.chan (Sp.total l) #[] false 0 0 false) = W1 at *
  go_upto_region 3 with fail
  go_loopw [17] (fun i wr => ∃ j : Nat, j ≤ l.length ∧ i = .int .i64 j ∧ PkS w cc cap (Sp.onesOf (l.take j)) wr) (fun i _ => l.length - (intOf i).toNat)
  case atStart => exact ⟨0, Nat.zero_le _, rfl, P0.out⟩
  case round =>
    obtain ⟨j, hj, rfl, hs⟩ := hrel
    have S := Lib.hid hs
    clear hs P0
    by_cases hjl : j < l.length
    · obtain ⟨fb, fo, rfl, hfb, hfc⟩ := H.out.at_ hjl
      obtain ⟨V, c, ⟨hc0, hc1⟩, hids, htx0, htx1⟩ := hfc j hjl
      have HFC := Lib.hid (show ∀ q v, (freeV (l.getD j Sp.free0) V c).toArray[q]? = some v → wr.cell? ⟨fb, fo + j * 2 + q, none⟩ = some v from fun q v hv => by
        match q, hv with
        | 0, hv => exact (S.out.hb.cell (p := ⟨fb, fo + j * 2, none⟩) hfb).trans (hc0.trans (by simpa [freeV] using hv))
        | 1, hv => exact (S.out.hb.cell (p := ⟨fb, fo + j * 2 + 1, none⟩) hfb).trans (hc1.trans (by simpa [freeV] using hv))
        | q + 2, hv => simp [freeV] at hv)
      have HI := Lib.hid hids
      have hx := HL.out (l.getD j Sp.free0) (by rw [show l.getD j Sp.free0 = l[j] by simp [List.getD, hjl]]; exact List.getElem_mem hjl)
      have HT := Lib.hid (Sp.onesOf_take hjl)
      have hroom : (Sp.onesOf (l.take j)).length + (l.getD j Sp.free0).ids.length ≤ cap := by
        have h1 := Sp.onesOf_len (l.take (j + 1))
        rw [HT.out, List.length_append, Sp.onesF_len] at h1
        have h2 := Sp.total_take_le (l := l) (j + 1)
        rw [HCP.out]
        omega
      clear hfc hc0 hc1 hids
      generalize Sp.onesOf (l.take j) = O at *
      generalize l.getD j Sp.free0 = x at *
      go_upto_region 5 with (first
        | (refine wpList_at FreeT _ rfl fb (fo + j * 2) rfl rfl (freeV x V c).toArray _ HFC.out Tryz.underlying28 rfl (by kernel_rfl) ?_)
        | (refine wpList_new FreeT _ _ rfl rfl rfl rfl rfl rfl _ rfl (of_decide_eq_true (by kernel_rfl)) (by kernel_rfl) (by kernel_rfl) (by kernel_rfl) ?_))
      simp only [Act.put, List.setIfInBounds_toArray, List.set_cons_succ, List.set_cons_zero]
      have hal := (Below.refl wr.heap.size wr).alloc (Nat.le_refl _) (.cells (freeV x V c).toArray FreeT)
      have hzw := S.out.hb.size
      refine wp_gen (fun W => PkS w cc cap O W ∧ Blk W wr.heap.size FreeT #[.int .u64 x.txn, .slice V x.ids.length c]) ⟨S.out.go hal, Blk.new _ _ _⟩ ?_
      clear HFC hal S
      generalize wr.heap.size = b7 at *
      rintro w2 ⟨hs2, hb2⟩
      have S2 := Lib.hid hs2
      have HB2 := Lib.hid hb2
      have c1 : w2.cell? ⟨b7, 1, none⟩ = some (.slice V x.ids.length c) := hb2.cell 1
      clear hs2 hb2
      go_wp2_with fail
      go_loopw [24, 8, 9] (fun i s8 s9 wr => ∃ k : Nat, k ≤ x.ids.length ∧ i = .int .i64 k ∧ PkS w cc cap (O ++ (Sp.onesF x).take k) wr ∧ Blk wr b7 FreeT #[.int .u64 x.txn, .slice V x.ids.length c]) (fun i _ _ _ => x.ids.length - (intOf i).toNat)
      case atStart => exact ⟨0, Nat.zero_le _, rfl, by rw [List.take_zero, List.append_nil]; exact S2.out, HB2.out⟩
      case round =>
        obtain ⟨k, hk, rfl, hs3, hb3⟩ := hrel
        have S3 := Lib.hid hs3
        have HB3 := Lib.hid hb3
        clear hs3 hb3 S2 HB2 c1
        by_cases hkl : k < x.ids.length
        · obtain ⟨ib, io, rfl, hib, hic⟩ := HI.out.at_ hkl
          have hcx := (S3.out.hb.cell (p := ⟨ib, io + k, none⟩) hib).trans (hic k hkl)
          have HK := Lib.hid (Sp.onesF_take hkl)
          have hszk : (O ++ (Sp.onesF x).take k).length < cap := by rw [List.length_append, List.length_take, Sp.onesF_len]; omega
          have HSZ := Lib.hid hszk
          clear hszk hic
          generalize x.ids.getD k 0 = id at *
          go_upto_region 8 with fail
          have x0 : wr.cell? ⟨b7, 0, none⟩ = some (.int .u64 x.txn) := HB3.out.cell 0
          obtain ⟨sq, qq, hc⟩ := S3.out.ch
          refine InReg.region ?_
          show InReg _ _ _ [0, 1, 2, 3, 4, 5, 6, 7] _ _
          refine InReg.val (w' := wr) (v := .chan (some cc)) rfl rfl (by simp [go_sem, execOp, Act.eval]) ?_
          refine InReg.val (w' := wr) (v := .pointer (some ⟨b7, 0, none⟩)) rfl rfl (by simp [go_sem, execOp, Act.eval, Act.put]) ?_
          refine InReg.val (w' := wr) (v := .int .u64 x.txn) rfl rfl (by simp [go_sem, execOp, Act.eval, Act.put, x0]) ?_
          refine InReg.val (w' := wr) (v := .int .i64 id) rfl rfl (by simp [go_sem, execOp, Act.eval, Act.put]) ?_
          refine InReg.val (w' := wr) (v := .int .i64 (k : Int)) rfl rfl (by simp [go_sem, execOp, Act.eval, Act.put]) ?_
          refine InReg.val (w' := wr) (v := .bool ((k : Int) == 0)) rfl rfl (by simp [go_sem, execOp, Act.eval, Act.put]) ?_
          refine InReg.val (w' := wr) (v := .agg #[.int .u64 x.txn, .int .i64 id, .bool ((k : Int) == 0)]) rfl rfl (by simp [go_sem, execOp, Act.eval, Act.put]) ?_
          refine InReg.send (w' := wr) (c := cc) (v := .agg #[.int .u64 x.txn, .int .i64 id, .bool ((k : Int) == 0)]) (z := .tuple #[]) rfl rfl (by simp [go_sem, execOp, scase, Act.eval, Act.put]) hc (by simpa using HSZ.out) ?_
          refine InReg.nil ?_
          have hdk : ((k : Int) == 0) = decide (k = 0) := by
            by_cases h : k = 0
            · subst h; rfl
            · rw [decide_eq_false h, beq_eq_false_iff_ne]; omega
          have hpu : ((O ++ (Sp.onesF x).take k).map oneV).toArray.push (.agg #[.int .u64 x.txn, .int .i64 id, .bool ((k : Int) == 0)]) = ((O ++ (Sp.onesF x).take (k + 1)).map oneV).toArray := by
            rw [HK.out, hdk, ← List.append_assoc, List.map_append]
            simp [oneV]
          rw [hpu]
          have hlt : cc < wr.heap.size := (Array.getElem?_eq_some_iff.1 hc).1
          have hne : b7 ≠ cc := fun e => by
            have h1 : wr.heap[b7]? = _ := HB3.out
            rw [e, hc] at h1
            cases h1
          have S5 := Lib.hid (⟨below_setChan S3.out.hb S3.out.ge cap _ false (sq + 1) qq false, S3.out.ge, sq + 1, qq, heap_setChan wr cc cap _ false (sq + 1) qq false hlt⟩ : PkS w cc cap (O ++ (Sp.onesF x).take (k + 1)) (wr.setChan cc cap ((O ++ (Sp.onesF x).take (k + 1)).map oneV).toArray false (sq + 1) qq false))
          have HB5 := Lib.hid (HB3.out.chg (S := OneM cc) (chg_setChan (S := OneM cc) (Chg.refl _ wr) (.inl rfl) cap ((O ++ (Sp.onesF x).take (k + 1)).map oneV).toArray false (sq + 1) qq false) hne)
          clear hpu hc S3 HB3 x0 hcx hdk
          generalize wr.setChan cc cap ((O ++ (Sp.onesF x).take (k + 1)).map oneV).toArray false (sq + 1) qq false = W5 at *
          go_wp2_with fail
          go_roundw
          case rel => exact ⟨k + 1, by omega, by go_num, S5.out, HB5.out⟩
          case measure => simp [intOf]; omega
        · obtain rfl : k = x.ids.length := by omega
          have hfin : (Sp.onesF x).take x.ids.length = Sp.onesF x := List.take_of_length_le (by rw [Sp.onesF_len]; exact Nat.le_refl _)
          have S4 := Lib.hid (show PkS w cc cap (Sp.onesOf (l.take (j + 1))) wr from by rw [HT.out, ← hfin]; exact S3.out)
          clear S3 hfin
          go_wp2_with fail
          go_roundw
          case rel => exact ⟨j + 1, by omega, by go_num, S4.out⟩
          case measure => simp [intOf]; omega
    · obtain rfl : j = l.length := by omega
      rw [List.take_length] at S
      obtain ⟨W6, rfl⟩ : ∃ W, W = wr := ⟨_, rfl⟩
      have hmn : max (n : Int) 0 = (n : Int) := by omega
      have hmk := fun w => mkRows n (by omega) w
      go_upto_region 12 with fail
      obtain ⟨b, hbe⟩ : ∃ b, b = W6.heap.size := ⟨_, rfl⟩
      have hb0 : w.heap.size ≤ b := by rw [hbe]; exact S.out.hb.size
      have hP7 : PmS w (Sp.onesOf l) n 0 b (zR W6 n) := ⟨⟨_, by rw [hbe]; exact Blk.new W6 FrsT _, by simp [madeCells], fun i hi => absurd hi (by omega)⟩, hb0⟩
      have S7 := Lib.hid (show PkS w cc cap (Sp.onesOf l) (zR W6 n) from S.out.go ((Below.refl W6.heap.size W6).alloc (Nat.le_refl _) (.cells (madeCells #[.slice none 0 0] n) FrsT)))
      have P7 := Lib.hid hP7
      have HLB := Lib.hid (show ∀ x ∈ Sp.onesOf l, 0 ≤ x.txn ∧ x.txn < 18446744073709551616 from fun x hx => by
        obtain ⟨f, hf, e⟩ := Sp.mem_ones hx
        obtain ⟨i, hi, rfl⟩ := List.getElem_of_mem hf
        obtain ⟨_, _, _, _, hfc⟩ := H.out.at_ hi
        obtain ⟨_, _, _, _, h1, h2⟩ := hfc i hi
        rw [show l.getD i Sp.free0 = l[i] by simp [List.getD, hi]] at h1 h2
        rw [e]
        exact ⟨h1, h2⟩)
      rw [← hbe]
      clear hP7 S hbe H HL hmk hlen
      generalize zR W6 n = W7 at *
      go_upto_region 13 with fail
      go_loopw [43, 11] (fun i _ wr => ∃ k : Nat, k ≤ n ∧ i = .int .i64 k ∧ PmS w (Sp.onesOf l) n k b wr ∧ PkS w cc cap ((Sp.onesOf l).drop (20 * k)) wr) (fun i _ _ => n - (intOf i).toNat)
      case atStart => exact ⟨0, Nat.zero_le _, rfl, P7.out, S7.out⟩
      case round =>
        obtain ⟨k, hk, rfl, hp8, hs8⟩ := hrel
        have P8 := Lib.hid hp8
        have S8 := Lib.hid hs8
        clear hp8 hs8 P7 S7
        by_cases hkn : k < n
        · have HRW := Lib.hid (frow_any cc cap ((Sp.onesOf l).drop (20 * k)) wr (fun x hx => HLB.out x (List.mem_of_mem_drop hx)) S8.out.ch)
          have hz8 : w.heap.size ≤ wr.heap.size := S8.out.hb.size
          go_upto_region 15 with fail
          have hccn : ∀ k t cs, Blk wr k t cs → ¬ OneM cc k := fun k t cs hb e => by
            obtain ⟨s, q, hc⟩ := S8.out.ch
            have e : k = cc := e
            subst e
            have h1 : wr.heap[k]? = _ := hb
            rw [hc] at h1
            cases h1
          have HCN := Lib.hid hccn
          clear hccn
          obtain ⟨w0, rfl⟩ : ∃ W, W = wr := ⟨_, rfl⟩
          have hzb : b < w0.heap.size := by obtain ⟨cs, h1, _⟩ := P8.out.bk; exact h1.lt
          have h20 : 20 * k + 20 = 20 * (k + 1) := by omega
          have hpost : ∀ (u : Value) (w9 : World), FrsO w9 w0.heap.size u (Sp.rowI ((Sp.onesOf l).drop (20 * k))) → (∃ s q, w9.heap[cc]? = some (.chan cap ((((Sp.onesOf l).drop (20 * k)).drop 20).map oneV).toArray false s q false)) → Chg (OneM cc) w0 w9 →
              ∃ A9 c9, u = .slice A9 (Sp.rowI ((Sp.onesOf l).drop (20 * k))).length c9 ∧ w9.frozen? ⟨b, k, none⟩ = false ∧ (w9.cell? ⟨b, k, none⟩).isSome = true ∧ PmS w (Sp.onesOf l) n (k + 1) b (w9.setCell ⟨b, k, none⟩ (.slice A9 (Sp.rowI ((Sp.onesOf l).drop (20 * k))).length c9)) ∧ PkS w cc cap ((Sp.onesOf l).drop (20 * (k + 1))) (w9.setCell ⟨b, k, none⟩ (.slice A9 (Sp.rowI ((Sp.onesOf l).drop (20 * k))).length c9)) := by
            intro u w9 hf hch hk9
            obtain ⟨A9, c9, rfl⟩ := hf.form
            have hp9 := P8.out.chg hk9 HCN.out
            obtain ⟨cs, h1, h2, _⟩ := hp9.bk
            have hp10 := hp9.put hkn (hf.base hz8)
            have hccb : b ≠ cc := fun e => by
              obtain ⟨s, q, hc⟩ := hch
              have h3 : w9.heap[b]? = _ := h1
              rw [e, hc] at h3
              cases h3
            refine ⟨A9, c9, rfl, h1.frozen k, ?_, hp10, ?_⟩
            · rw [h1.cell k, Array.getElem?_eq_getElem (by omega)]
              rfl
            · have hs := Chg.set1 w9 b k (.slice A9 (Sp.rowI ((Sp.onesOf l).drop (20 * k))).length c9)
              obtain ⟨s, q, hc⟩ := hch
              rw [List.drop_drop, h20] at hc
              have hb9 : Below w.heap.size w w9 := S8.out.hb.trans (hk9.below hz8 fun j _ e => by have e : j = cc := e; have := S8.out.ge; omega)
              exact ⟨hb9.trans (hs.below (by have := hb9.size; omega) fun j _ e => by have e : j = b := e; omega), S8.out.ge, s, q, (hs.block cc (Array.getElem?_eq_some_iff.1 hc).1 (fun e => hccb e.symm)).trans hc⟩
          have HP := Lib.hid hpost
          clear hpost P8 S8 HCN HLB h20
          go_wp2_with (go_at_call 54; refine HRW.out.mono ?_; rintro e w9 ⟨rv, rfl, hf, hch, hk9⟩; obtain ⟨A9, c9, rfl, hfz, hsm, hp, hs⟩ := HP.out _ _ hf hch hk9; obtain ⟨v0, hv0⟩ := Option.isSome_iff_exists.1 hsm; have hbw9 : b < w9.heap.size := Nat.lt_of_lt_of_le hzb hk9.size; have P10 := Lib.hid hp; have S10 := Lib.hid hs; clear hf hch hk9 hsm hp hs)
          go_roundw
          case rel => exact ⟨k + 1, by omega, by go_num, P10.out, S10.out⟩
          case measure => simp [intOf]; omega
        · obtain rfl : k = n := by omega
          go_wp2_with fail
          go_ret
          exact ⟨b, rfl, P8.out, S8.out.hb⟩
end Go.Proofs.YtkcfmjlcijhieaaGreat
