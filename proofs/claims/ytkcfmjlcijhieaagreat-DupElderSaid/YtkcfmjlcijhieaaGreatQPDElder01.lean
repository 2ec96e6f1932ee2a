/- The package's store: a page that was made is read; its values lie in a row of their own. Turned from the text SH. Many values of a key: where a value is among others. Many values of a key: a key's values, its page let go. A run of numbers side by side, in plain Lean. Long values, in plain Lean. -/
import Derived.Test.YtkcfmjlcijhieaaGreatQB21
import Derived.Test.YtkcfmjlcijhieaaGreatQB22
import Derived.Test.YtkcfmjlcijhieaaGreatQB23
import Derived.Test.YtkcfmjlcijhieaaGreatQB24
import Derived.Test.YtkcfmjlcijhieaaGreatQB25
import Derived.Test.YtkcfmjlcijhieaaGreatQPDElder00
set_option linter.unusedSimpArgs false
set_option linter.unusedVariables false
namespace Go.Proofs.YtkcfmjlcijhieaaGreat
open Go.RowKit
attribute [local go_sem low] mk_extract
attribute [local go_sem] After.cell After.frozen mk_extract_end ByteArray.mk_append_mk
set_option maxRecDepth 100000 in
set_option maxHeartbeats 1600000 in
theorem readV_any (M : Nat → Prop) (t f m d : Nat) (fv : Value) (V : List Txt) (s : Sp.Sto) (i : Int) (p : Sp.Page) (w : World) (hs : StAt w M t f m d fv V s) (h2 : 2 ≤ i) (h4 : i < s.most) (hm : s.most ≤ 400) (hno : Sp.lookD s.d i = some p) (hk : ¬ p.kind = 0) :
    Calls Tryz.prog 37 #[.pointer (some ⟨t, 0, none⟩), .int .i64 i] w fun e w' => ∃ r, e = .returned (.tuple #[.agg (pageV p r).toArray, .nilIface]) ∧ w'.ownsRow w.heap.size StrT 1 (.slice r.V p.vals.length r.v) p.vals.length (p.vals.map tv) ∧ Below w.heap.size w w' := by
  have hal : Below w.heap.size w (w.alloc (.cells pgZ0 PageT)) := (Below.refl _ _).alloc (Nat.le_refl _) _
  have HS := Lib.hid (hs.go hal)
  obtain ⟨uf, ua, hbt, _, _⟩ := HS.out.bt
  have c0 : (w.alloc (.cells pgZ0 PageT)).cell? ⟨t, 0, none⟩ = some (.pointer (some ⟨f, 0, none⟩)) := hbt.cell 0
  have c1 : (w.alloc (.cells pgZ0 PageT)).cell? ⟨t, 1, none⟩ = some (.map (some d)) := hbt.cell 1
  have c5 : (w.alloc (.cells pgZ0 PageT)).cell? ⟨t, 5, none⟩ = some (.int .i64 s.most) := hbt.cell 5
  obtain ⟨D, hD, hP⟩ := HS.out.dm
  have hlk := hD.lookP i
  obtain ⟨r, e, hpr, hsm⟩ : ∃ r, Sp.lookD D i = some (.agg (pageV p r).toArray) ∧ PageRd (w.alloc (.cells pgZ0 PageT)) M p r ∧ p.Small := by
    rcases hP.look i with ⟨e, _⟩ | ⟨q, r, e, h1, h2, h3⟩
    · rw [hno] at e; cases e
    · rw [hno] at e
      injection e with e
      subst e
      exact ⟨r, h1, h2, h3⟩
  rw [e] at hlk
  simp only [Option.getD_some, Option.isSome_some] at hlk
  have HBT := Lib.hid hbt
  have HZ := Lib.hid (Blk.new w PageT pgZ0)
  have HAL := Lib.hid hal
  have HPR := Lib.hid hpr
  have HSM := Lib.hid hsm
  have hlt2 : ¬ (i < 2) := by omega
  have h400 : ¬ (s.most ≤ i) := by omega
  have hd1 : d < (w.alloc (.cells pgZ0 PageT)).heap.size := hD.lt
  clear hs hal hD hP hbt e hno hpr hsm
  simp only [pgZ0, pageV, mtV, List.cons_append, List.nil_append] at hlk c0 c1 c5 hd1
  go_enter Tryz.func37, Tryz.ntmps37
  go_upto_region 4 with (refine wpList_new PageT _ _ rfl rfl rfl rfl rfl rfl _ rfl (of_decide_eq_true (by kernel_rfl)) (by kernel_rfl) (by kernel_rfl) (by kernel_rfl) ?_)
  have hal2 : Below (w.alloc (.cells pgZ0 PageT)).heap.size (w.alloc (.cells pgZ0 PageT)) ((w.alloc (.cells pgZ0 PageT)).alloc (.cells (pageV p r).toArray PageT)) := (Below.refl _ _).alloc (Nat.le_refl _) _
  have HZ2 := Lib.hid (HZ.out.below hal2 HZ.out.lt)
  have HAL2 := Lib.hid (HAL.out.trans (hal2.mono HAL.out.size))
  have HP2 := Lib.hid (show Blk ((w.alloc (.cells pgZ0 PageT)).alloc (.cells (pageV p r).toArray PageT)) (w.heap.size + 1) PageT (pageV p r).toArray from by
    have := Blk.new (w.alloc (.cells pgZ0 PageT)) PageT (pageV p r).toArray
    rwa [World.size_alloc] at this)
  have HPR2 := Lib.hid (HPR.out.go hal2)
  clear c0 c1 c5 hlk HS HZ HAL hal2 hd1 HBT HPR
  simp only [pgZ0, pageV, mtV, List.cons_append, List.nil_append] at HZ2 HAL2 HP2 HPR2
  generalize ((w.alloc (.cells _ PageT)).alloc (.cells _ PageT)) = W2 at *
  · have c0 : W2.cell? ⟨w.heap.size + 1, 0, none⟩ = some (.int .i64 p.kind) := HP2.out.cell 0
    have hk2 : (p.kind == 0) = false := by simpa using hk
    have HK := Lib.hid hk
    clear hk
    go_wp2_with (first
      | (refine wpList_row PageT _ rfl (w.heap.size + 1) rfl rfl PageT _ (0, 0) _ HP2.out Tryz.underlying39 rfl rfl ?_)
      | (go_at_call 73; refine (copiedV_any p r _ HPR2.out HSM.out).mono ?_; rintro e w3 ⟨rc, rfl, _, hr, hb3⟩)
      | (refine wpList_store_row rfl PageT _ _ rfl w.heap.size _ rfl rfl PageT _ (HZ2.out.below hb3 HZ2.out.lt) (by kernel_rfl) rfl (pageV_all0 p rc) ?_))
    obtain ⟨⟨z0, z1, z2, z3, z4, z5, z6, z7, z8, z9, z10, z11, z12, z13⟩, _⟩ := ((HZ2.out.below hb3 HZ2.out.lt).row (ds := #[.int .i64 p.kind, .slice rc.I p.items.length rc.i, .slice rc.K p.keys.length rc.k, .slice rc.D p.kids.length rc.d, .string ⟨p.text.toArray⟩, .slice rc.V p.vals.length rc.v, .slice rc.F p.free.length rc.f, .int .i64 p.next, .int .u64 p.mt.txn, .int .i64 p.mt.main.page, .int .i64 p.mt.main.count, .int .i64 p.mt.main.flags, .int .i64 p.mt.free, .int .i64 p.mt.last])).at14
    have hge : w.heap.size ≤ W2.heap.size := HAL2.out.size
    have hb4 : Below w.heap.size w (w3.setRow w.heap.size (pageV p rc).toArray) := below_setRow (HAL2.out.trans (hb3.mono hge)) (Nat.le_refl _) _
    refine bodyPost_ret (v := .tuple #[.agg (pageV p rc).toArray, .nilIface]) (by simp [results, Tryz.results37, go_sem, pageV, mtV, erO, z0, z1, z2, z3, z4, z5, z6, z7, z8, z9, z10, z11, z12, z13]) rfl ⟨rc, rfl, ?_, hb4⟩
    exact own_base (own_setT hr (HZ2.out.below hb3 HZ2.out.lt) (by decide) (chg_setRow0 w3 w.heap.size _)) hge
end Go.Proofs.YtkcfmjlcijhieaaGreat
namespace Go.Proofs.YtkcfmjlcijhieaaGreat
open Go.RowKit
attribute [local go_sem low] mk_extract
attribute [local go_sem] After.cell After.frozen mk_extract_end ByteArray.mk_append_mk
namespace Sp
/-- Where a value is among others, or would be. -/
def plc : List Txt → Txt → Nat
  | [], _ => 0
  | x :: l, v => if lt x v then plc l v + 1 else 0
theorem plc_le : ∀ (l : List Txt) (v : Txt), plc l v ≤ l.length
  | [], _ => Nat.le_refl _
  | x :: l, v => by
    unfold plc
    split
    · have := plc_le l v; simp only [List.length_cons]; omega
    · exact Nat.zero_le _
theorem plc_at {v : Txt} : ∀ {l : List Txt} {k : Nat}, k < l.length → (∀ j, j < k → lt (l.getD j []) v = true) → lt (l.getD k []) v = false → plc l v = k
  | [], k, h, _, _ => absurd h (Nat.not_lt_zero _)
  | x :: l, 0, _, _, h => by
    have h : lt x v = false := h
    unfold plc
    rw [if_neg (by rw [h]; simp)]
  | x :: l, k + 1, hk, h1, h2 => by
    have h0 : lt x v = true := h1 0 (by omega)
    unfold plc
    rw [if_pos h0, plc_at (l := l) (k := k) (by simpa using hk) (fun j hj => h1 (j + 1) (by omega)) h2]
theorem plc_end {v : Txt} : ∀ {l : List Txt}, (∀ j, j < l.length → lt (l.getD j []) v = true) → plc l v = l.length
  | [], _ => rfl
  | x :: l, h => by
    have h0 : lt x v = true := h 0 (by simp)
    unfold plc
    rw [if_pos h0, plc_end (l := l) (fun j hj => h (j + 1) (by simpa using hj)), List.length_cons]
def hasV (l : List Txt) (v : Txt) : Bool := decide (plc l v < l.length) && decide (l.getD (plc l v) [] = v)
end Sp
set_option maxRecDepth 100000 in
set_option maxHeartbeats 1600000 in
theorem place_any (l : List Txt) (v : Txt) (A : Option Addr) (c : Nat) {M : Nat → Prop} (w : World) (hr : Txts w M A l) :
    Calls Tryz.prog 81 #[.slice A l.length c, .string ⟨v.toArray⟩] w fun e w' => e = .returned (.tuple #[.int .i64 (Sp.plc l v), .bool (Sp.hasV l v)]) ∧ Below w.heap.size w w' := by
  have hlen := hr.len
  have Hr := Lib.hid hr
  clear hr
  go_enter Tryz.func81, Tryz.ntmps81
  go_wp2_with fail
  go_step3
  go_wp2_with fail
  go_step3
  go_wp2_with fail
  go_loopw [6] (fun a wr => a = .int .i64 l.length ∧ wr = w) (fun _ _ => 0)
  case atStart => exact ⟨rfl, rfl⟩
  case round =>
    obtain ⟨rfl, rfl⟩ := hrel
    go_wp2_with fail
    obtain ⟨wo, rfl⟩ : ∃ W, W = wr := ⟨_, rfl⟩
    go_loopw [6, 13] (fun a i wr => a = .int .i64 l.length ∧ ∃ k : Nat, k ≤ l.length ∧ i = .int .i64 k ∧ wr = wo ∧ Hid (∀ j, j < k → Sp.lt (l.getD j []) v = true)) (fun _ i _ => l.length - (intOf i).toNat)
    case atStart => exact ⟨rfl, 0, Nat.zero_le _, rfl, rfl, Lib.hid fun j h => absurd h (Nat.not_lt_zero _)⟩
    case round =>
      obtain ⟨rfl, k, hk, rfl, rfl, hlt⟩ := hrel
      by_cases hkl : k < l.length
      · obtain ⟨b, off, rfl, hbl, hcl⟩ := Hr.out.at_ hkl
        have hcell := hcl k hkl
        clear hcl
        rcases hcmp : Sp.lt (l.getD k []) v with _ | _
        · have HPL := Lib.hid (Sp.plc_at hkl hlt.out hcmp)
          have HHV := Lib.hid (show Sp.hasV l v = decide (l.getD k [] = v) from by unfold Sp.hasV; rw [HPL.out, decide_eq_true hkl, Bool.true_and])
          unfold Sp.lt at hcmp
          generalize l.getD k [] = x at *
          clear hlt
          go_upto_region 8 with fail
          go_quiet (fail)
          go_wp2_with fail
          rw [Exit.noGoto_ret]
          refine bodyPost_ret (v := .tuple #[.int .i64 k, .bool (x == v)]) (by simp [results, Tryz.results81, go_sem]) rfl ⟨?_, below_drewN (Below.refl _ _) _⟩
          have hxv : (x == v) = decide (x = v) := by by_cases h : x = v <;> simp [h]
          rw [HPL.out, HHV.out, hxv]
        · have HLN := Lib.hid (show ∀ j, j < k + 1 → Sp.lt (l.getD j []) v = true from fun j hj => by
            rcases Nat.lt_succ_iff_lt_or_eq.1 hj with h | rfl
            · exact hlt.out j h
            · exact hcmp)
          unfold Sp.lt at hcmp
          generalize l.getD k [] = x at *
          clear hlt
          go_wp2_with fail
          go_roundw
          case rel => exact ⟨rfl, k + 1, by omega, by go_num, by first | rfl | trivial, HLN⟩
          case measure => simp [intOf]; omega
      · obtain rfl : k = l.length := by omega
        have HPL := Lib.hid (Sp.plc_end hlt.out)
        have HHV := Lib.hid (show Sp.hasV l v = false from by unfold Sp.hasV; rw [HPL.out, decide_eq_false (Nat.lt_irrefl _), Bool.false_and])
        clear hlt
        go_upto_region 8 with fail
        go_quiet (fail)
        go_wp2_with fail
        rw [Exit.noGoto_ret]
        refine bodyPost_ret (v := .tuple #[.int .i64 l.length, .bool false]) (by simp [results, Tryz.results81, go_sem]) rfl ⟨?_, below_drewN (Below.refl _ _) _⟩
        rw [HPL.out, HHV.out]
end Go.Proofs.YtkcfmjlcijhieaaGreat
namespace Go.Proofs.YtkcfmjlcijhieaaGreat
open Go.RowKit
attribute [local go_sem low] mk_extract
attribute [local go_sem] After.cell After.frozen mk_extract_end ByteArray.mk_append_mk
/-- A page that an item names is let go. -/
def Sp.dropZ (s : Sp.Sto) (i : Int) : Sp.Sto := if i = 0 then s else s.drop i
/-- A key with many values, in memory. -/
abbrev itA (k : Txt) (kind : Int) (A : Option Addr) (n c : Nat) (dup : Int) : Array Value := #[.string ⟨k.toArray⟩, .int .i64 kind, .string ⟨#[]⟩, .int .i64 0, .int .i64 0, .slice A n c, .int .i64 dup, .int .i64 0, .int .i64 0, .int .i64 0]
set_option maxRecDepth 100000 in
set_option maxHeartbeats 1600000 in
theorem vals_no (t : Nat) (k : Txt) (kind : Int) (A : Option Addr) (n c : Nat) (dup : Int) (w : World) (hk : ¬ kind = 3) :
    Calls Tryz.prog 51 #[.pointer (some ⟨t, 0, none⟩), .agg (itA k kind A n c dup)] w fun e w' => e = .returned (.tuple #[.slice none 0 0, erO (some 10)]) ∧ Below w.heap.size w w' := by
  go_enter Tryz.func51, Tryz.ntmps51
  go_wp2_with fail
  refine bodyPost_ret (v := .tuple #[.slice none 0 0, erO (some 10)]) (by simp [results, Tryz.results51, go_sem, erO]) rfl ⟨rfl, (Below.refl _ _).alloc (Nat.le_refl _) _⟩
set_option maxRecDepth 100000 in
set_option maxHeartbeats 1600000 in
theorem vals_in (t : Nat) (k : Txt) (l : List Txt) (A : Option Addr) (c : Nat) {M : Nat → Prop} (w : World) (hr : Txts w M A l) (hn : l.length ≤ 1000) :
    Calls Tryz.prog 51 #[.pointer (some ⟨t, 0, none⟩), .agg (itA k 3 A l.length c 0)] w fun e w' => ∃ A' c', e = .returned (.tuple #[.slice A' l.length c', .nilIface]) ∧ w'.ownsRow w.heap.size StrT 1 (.slice A' l.length c') l.length (l.map tv) ∧ Below w.heap.size w w' := by
  have HC := Lib.hid (fun W (h : Txts W M A l) => cloneT_any (w := W) (M := M) (A := A) (l := l) c h hn)
  have hal : ∀ cs, Below w.heap.size w (w.alloc (.cells cs ItemT)) := fun cs => (Below.refl _ _).alloc (Nat.le_refl _) _
  have HR := Lib.hid (fun cs => hr.go (hal cs))
  have HAL := Lib.hid hal
  clear hr hal
  go_enter Tryz.func51, Tryz.ntmps51
  go_wp2_with (go_at_call 66; refine (HC.out _ (HR.out _)).mono ?_; rintro e w1 ⟨A1, c1, rfl, ho, hb1⟩; have HO := Lib.hid ho; have HB := Lib.hid hb1; clear ho hb1)
  refine bodyPost_ret (v := .tuple #[.slice A1 l.length c1, .nilIface]) (by simp [results, Tryz.results51, go_sem]) rfl ⟨A1, c1, rfl, own_base HO.out (by rw [World.size_alloc]; omega), (HAL.out _).trans (HB.out.mono (by rw [World.size_alloc]; omega))⟩
set_option maxRecDepth 100000 in
set_option maxHeartbeats 1600000 in
theorem vals_pg (M : Nat → Prop) (t f m d : Nat) (fv : Value) (V : List Txt) (s : Sp.Sto) (p : Sp.Page) (k : Txt) (A : Option Addr) (n c : Nat) (i : Int) (w : World) (h : StAt w M t f m d fv V s) (hok : s.Ok) (hi : 2 ≤ i ∧ i < s.most) (hp : Sp.lookD s.d i = some p) (hk : p.kind = 4) :
    Calls Tryz.prog 51 #[.pointer (some ⟨t, 0, none⟩), .agg (itA k 3 A n c i)] w fun e w' => ∃ A' c', e = .returned (.tuple #[.slice A' p.vals.length c', .nilIface]) ∧ w'.ownsRow w.heap.size StrT 1 (.slice A' p.vals.length c') p.vals.length (p.vals.map tv) ∧ Below w.heap.size w w' := by
  have hal : ∀ cs, Below w.heap.size w (w.alloc (.cells cs ItemT)) := fun cs => (Below.refl _ _).alloc (Nat.le_refl _) _
  have HR := Lib.hid (fun cs => readV_any M t f m d fv V s i p (w.alloc (.cells cs ItemT)) (h.go (hal cs)) hi.1 hi.2 hok.most.2 hp (by rw [hk]; decide))
  have HAL := Lib.hid hal
  have hi0 : ¬ i = 0 := by omega
  clear h hal hp
  go_enter Tryz.func51, Tryz.ntmps51
  go_upto_region 6 with (first
    | (go_at_call 37; refine (HR.out _).mono ?_; rintro e w1 ⟨r1, rfl, ho, hb1⟩; rw [pv14]; have HO := Lib.hid ho; have HB := Lib.hid hb1; clear ho hb1)
    | (refine wpList_new PageT _ _ rfl rfl rfl rfl rfl rfl _ rfl (of_decide_eq_true (by kernel_rfl)) (by kernel_rfl) (by kernel_rfl) (by kernel_rfl) ?_))
  have hbk := Blk.new w1 PageT #[.int .i64 p.kind, .slice r1.I p.items.length r1.i, .slice r1.K p.keys.length r1.k, .slice r1.D p.kids.length r1.d, .string ⟨p.text.toArray⟩, .slice r1.V p.vals.length r1.v, .slice r1.F p.free.length r1.f, .int .i64 p.next, .int .u64 p.mt.txn, .int .i64 p.mt.main.page, .int .i64 p.mt.main.count, .int .i64 p.mt.main.flags, .int .i64 p.mt.free, .int .i64 p.mt.last]
  have hal1 : Below w1.heap.size w1 (w1.alloc (.cells #[.int .i64 p.kind, .slice r1.I p.items.length r1.i, .slice r1.K p.keys.length r1.k, .slice r1.D p.kids.length r1.d, .string ⟨p.text.toArray⟩, .slice r1.V p.vals.length r1.v, .slice r1.F p.free.length r1.f, .int .i64 p.next, .int .u64 p.mt.txn, .int .i64 p.mt.main.page, .int .i64 p.mt.main.count, .int .i64 p.mt.main.flags, .int .i64 p.mt.free, .int .i64 p.mt.last] PageT)) := (Below.refl _ _).alloc (Nat.le_refl _) _
  rw [hk] at hbk
  have c0 := hbk.cell 0
  have c5 := hbk.cell 5
  have HBX := Lib.hid hal1
  clear hal1 hbk
  rw [hk] at HBX
  go_wp2_with fail
  refine bodyPost_ret (v := .tuple #[.slice r1.V p.vals.length r1.v, .nilIface]) (by simp [results, Tryz.results51, go_sem]) rfl ⟨r1.V, r1.v, rfl, own_base (own_chg2 (S := NoM) HO.out (Chg.of_below HBX.out) (fun _ _ h => h)) (by rw [World.size_alloc]; omega), (HAL.out _).trans ((HB.out.mono (by rw [World.size_alloc]; omega)).trans (HBX.out.mono (by have := HB.out.size; rw [World.size_alloc] at this; omega)))⟩
set_option maxRecDepth 100000 in
set_option maxHeartbeats 1600000 in
theorem ddrop_any (M : Nat → Prop) (t f m d : Nat) (fv : Value) (V : List Txt) (s : Sp.Sto) (k : Txt) (kind : Int) (A : Option Addr) (n c : Nat) (i : Int) (w : World) (h : StAt w M t f m d fv V s) (hok : s.Ok) :
    Calls Tryz.prog 113 #[.pointer (some ⟨t, 0, none⟩), .agg (itA k kind A n c i)] w fun e w' => e = .returned (.tuple #[]) ∧ StAt w' M t f m d fv V (Sp.dropZ s i) ∧ Chg (TwoM t d) w w' := by
  have hal : ∀ cs, Below w.heap.size w (w.alloc (.cells cs ItemT)) := fun cs => (Below.refl _ _).alloc (Nat.le_refl _) _
  have HD := Lib.hid (fun cs => stoDrop_any M t f m d fv V s i (w.alloc (.cells cs ItemT)) (h.go (hal cs)) hok)
  have HH := Lib.hid (fun cs => h.go (hal cs))
  have HAL := Lib.hid hal
  clear h hal
  by_cases hi : i = 0
  · subst hi
    go_enter Tryz.func113, Tryz.ntmps113
    go_wp2_with fail
    go_end0
    exact ⟨by simp, by unfold Sp.dropZ; rw [if_pos rfl]; exact HH.out _, Chg.of_below (HAL.out _)⟩
  · go_enter Tryz.func113, Tryz.ntmps113
    go_wp2_with (go_at_call 34; refine (HD.out _).mono ?_; rintro e w1 ⟨rfl, hst, hk1⟩; have ST := Lib.hid hst; have K1 := Lib.hid hk1; clear hst hk1)
    go_end0
    exact ⟨by simp, by unfold Sp.dropZ; rw [if_neg hi]; exact ST.out, (Chg.of_below (HAL.out _)).trans K1.out⟩
end Go.Proofs.YtkcfmjlcijhieaaGreat
namespace Go.Proofs.YtkcfmjlcijhieaaGreat
open Go.RowKit
attribute [local go_sem low] mk_extract
attribute [local go_sem] After.cell After.frozen mk_extract_end ByteArray.mk_append_mk
namespace Sp
theorem lookD_cons {α : Type} (x : Int × α) (D : List (Int × α)) (i : Int) : lookD (x :: D) i = if x.1 = i then some x.2 else lookD D i := by
  unfold lookD
  by_cases h : x.1 = i
  · rw [List.find?_cons_of_pos (by simpa using h), if_pos h]
    rfl
  · rw [List.find?_cons_of_neg (by simpa using h), if_neg h]
theorem lookD_map {α : Type} (i j : Int) (v : α) : ∀ D : List (Int × α), lookD (D.map fun x => if x.1 = i then (i, v) else x) j = if j = i then (lookD D i).map (fun _ => v) else lookD D j
  | [] => by
    by_cases h : j = i
    · rw [if_pos h]; rfl
    · rw [if_neg h]; rfl
  | x :: D => by
    rw [List.map_cons, lookD_cons, lookD_map i j v D, lookD_cons, lookD_cons]
    by_cases hj : j = i
    · subst hj
      by_cases hx : x.1 = j
      · simp [hx]
      · simp [hx]
    · by_cases hx : x.1 = i
      · have : i ≠ j := fun e => hj e.symm
        simp [hx, hj, this]
      · simp [hx, hj]
theorem lookD_put {α : Type} (D : List (Int × α)) (i j : Int) (v : α) : lookD (putD D i v) j = if j = i then some v else lookD D j := by
  unfold putD
  by_cases h : (lookD D i).isSome
  · rw [if_pos h, lookD_map]
    obtain ⟨q, hq⟩ := Option.isSome_iff_exists.1 h
    rw [hq]
    rfl
  · rw [if_neg h]
    have h0 : lookD D i = none := by simpa using h
    unfold lookD at h0 ⊢
    rw [List.find?_append]
    by_cases hj : j = i
    · subst hj
      have : D.find? (fun x => x.1 == j) = none := by simpa using h0
      rw [this, if_pos rfl]
      simp
    · rw [if_neg hj]
      have : ([(i, v)] : List (Int × α)).find? (fun x => x.1 == j) = none := by
        rw [List.find?_cons_of_neg (by simpa using fun e => hj e.symm)]
        rfl
      rw [this, Option.or_none]
theorem lookD_run (d : List (Int × Page)) (id : Int) : ∀ (k : Nat) (x : Int), lookD (runD d id k) x = if id ≤ x ∧ x < id + k then some pg0 else lookD d x
  | 0, x => by rw [if_neg (by omega)]; rfl
  | k + 1, x => by
    show lookD (putD (runD d id k) (id + k) pg0) x = _
    rw [lookD_put, lookD_run d id k x]
    by_cases h : x = id + k
    · rw [if_pos h, if_pos (by omega)]
    · rw [if_neg h]
      by_cases h2 : id ≤ x ∧ x < id + k
      · rw [if_pos h2, if_pos (by omega)]
      · rw [if_neg h2, if_neg (by omega)]
theorem runD_len {d : List (Int × Page)} {id : Int} : ∀ {k : Nat}, (∀ j : Nat, j < k → lookD d (id + j) = none) → (runD d id k).length = d.length + k
  | 0, _ => rfl
  | k + 1, h => by
    show (putD (runD d id k) (id + k) pg0).length = _
    have e : lookD (runD d id k) (id + k) = none := by
      rw [lookD_run, if_neg (by omega)]
      exact h k (by omega)
    unfold putD
    rw [e, if_neg (by simp), List.length_append, runD_len fun j hj => h j (by omega)]
    rfl
def fitB (F k i : Nat) : Bool := decide (i + k ≤ 16) && (List.range k).all fun j => F / 2 ^ (i + j) % 2 == 1
def wantAt (F k c : Nat) : Int := match (List.range' c (16 - c)).find? (fitB F k) with
  | some i => 2 + (i : Int)
  | none => 18
theorem wantAt_end (F k : Nat) : wantAt F k 16 = 18 := rfl
theorem wantAt_step {F k c : Nat} (h : c < 16) : wantAt F k c = if fitB F k c then 2 + (c : Int) else wantAt F k (c + 1) := by
  unfold wantAt
  rw [show 16 - c = (16 - (c + 1)) + 1 from by omega, List.range'_succ]
  by_cases hf : fitB F k c
  · rw [List.find?_cons_of_pos hf, if_pos hf]
  · rw [List.find?_cons_of_neg hf, if_neg hf]
theorem mem_bits {F i : Nat} {x : Int} : x ∈ bitsTo F i ↔ ∃ j : Nat, j < i ∧ F / 2 ^ j % 2 = 1 ∧ x = 2 + (j : Int) := by
  unfold bitsTo
  constructor
  · intro h
    obtain ⟨j, hj, e⟩ := List.mem_map.1 h
    obtain ⟨h1, h2⟩ := List.mem_filter.1 hj
    exact ⟨j, List.mem_range.1 h1, by simpa using h2, e.symm⟩
  · rintro ⟨j, h1, h2, rfl⟩
    exact List.mem_map.2 ⟨j, List.mem_filter.2 ⟨List.mem_range.2 h1, by simpa using h2⟩, rfl⟩
theorem getD_up {L : List Int} (h : L.Pairwise (· < ·)) {i j : Nat} (hij : i < j) (hj : j < L.length) : L.getD i 0 < L.getD j 0 := by
  have := List.pairwise_iff_getElem.1 h i j (by omega) hj hij
  rw [List.getD_eq_getElem?_getD, List.getD_eq_getElem?_getD, List.getElem?_eq_getElem hj, List.getElem?_eq_getElem (show i < L.length by omega)]
  exact this
theorem getD_mem {L : List Int} {x : Int} (h : x ∈ L) : ∃ i, i < L.length ∧ L.getD i 0 = x := by
  obtain ⟨i, hi, e⟩ := List.getElem_of_mem h
  exact ⟨i, hi, by rw [List.getD_eq_getElem?_getD, List.getElem?_eq_getElem hi]; exact e⟩
theorem mem_getD {L : List Int} {i : Nat} (h : i < L.length) : L.getD i 0 ∈ L := by
  rw [List.getD_eq_getElem?_getD, List.getElem?_eq_getElem h]
  exact List.getElem_mem h
theorem run_at {L : List Int} (hp : L.Pairwise (· < ·)) {x : Int} {k : Nat} (hk : 1 ≤ k) (h : ∀ m : Nat, m < k → x + m ∈ L) : ∃ i, i < L.length ∧ L.getD i 0 = x ∧ runAt L k i = true := by
  have h0 := h 0 (by omega)
  rw [Int.natCast_zero, Int.add_zero] at h0
  obtain ⟨i, hi, e⟩ := getD_mem h0
  have hs : ∀ m : Nat, m < k → i + m < L.length ∧ L.getD (i + m) 0 = x + m := by
    intro m
    induction m with
    | zero => intro _; rw [Nat.add_zero, Int.natCast_zero, Int.add_zero]; exact ⟨hi, e⟩
    | succ m ih =>
      intro hm
      obtain ⟨h1, h2⟩ := ih (by omega)
      obtain ⟨j, hj, e3⟩ := getD_mem (h (m + 1) hm)
      have hgt : i + m < j := by
        rcases Nat.lt_trichotomy (i + m) j with h' | h' | h'
        · exact h'
        · subst h'; omega
        · have := getD_up hp h' h1; omega
      have h4 := getD_up hp (i := i + m) (j := i + (m + 1)) (by omega) (by omega)
      refine ⟨by omega, ?_⟩
      rcases Nat.lt_or_ge (i + (m + 1)) j with h' | h'
      · have := getD_up hp h' hj; omega
      · have : i + (m + 1) = j := by omega
        rw [this]; exact e3
  exact ⟨i, hi, e, runAt_iff.2 fun m hm => by obtain ⟨h1, h2⟩ := hs m hm; exact ⟨h1, by omega⟩⟩
theorem fit_mem {F k i : Nat} (h : fitB F k i = true) (m : Nat) (hm : m < k) : 2 + (i : Int) + m ∈ bitsTo F 16 := by
  unfold fitB at h
  rw [Bool.and_eq_true, List.all_eq_true] at h
  have h1 := of_decide_eq_true h.1
  have h2 := h.2 m (List.mem_range.2 hm)
  exact mem_bits.2 ⟨i + m, by omega, by simpa using h2, by omega⟩
theorem run_fit {F k i : Nat} (hk : 1 ≤ k) (hr : runAt (bitsTo F 16) k i = true) : ∃ j : Nat, j < 16 ∧ (bitsTo F 16).getD i 0 = 2 + (j : Int) ∧ fitB F k j = true := by
  have h := runAt_iff.1 hr
  obtain ⟨h1, _⟩ := h 0 (by omega)
  rw [Nat.add_zero] at h1
  obtain ⟨j, hj, hb, e⟩ := mem_bits.1 (mem_getD h1)
  have hall : ∀ m : Nat, m < k → j + m < 16 ∧ F / 2 ^ (j + m) % 2 = 1 := fun m hm => by
    obtain ⟨h3, h4⟩ := h m hm
    obtain ⟨j2, hj2, hb2, e2⟩ := mem_bits.1 (mem_getD h3)
    have : j2 = j + m := by omega
    rw [← this]
    exact ⟨hj2, hb2⟩
  refine ⟨j, hj, e, ?_⟩
  unfold fitB
  rw [Bool.and_eq_true, List.all_eq_true]
  have := (hall (k - 1) (by omega)).1
  exact ⟨decide_eq_true (by omega), fun m hm => by simpa using (hall m (List.mem_range.1 hm)).2⟩
theorem run_bits {F k : Nat} (hk : 1 ≤ k) : runI (bitsTo F 16) k = ((List.range' 0 16).find? (fitB F k)).map fun i : Nat => 2 + (i : Int) := by
  have hp := (bitsTo_rng (free := F) (i := 16)).1
  rcases hf : (List.range' 0 16).find? (fitB F k) with _ | i
  · refine runI_none fun i hi => ?_
    rcases hr : runAt (bitsTo F 16) k i with _ | _
    · rfl
    · obtain ⟨j, hj, _, h2⟩ := run_fit hk hr
      have := List.find?_eq_none.1 hf j (List.mem_range'_1.2 ⟨by omega, by omega⟩)
      exact absurd h2 this
  · have h1 := List.find?_some hf
    obtain ⟨x, hx, e, hr⟩ := run_at hp hk (fit_mem h1)
    have := runI_first (l := bitsTo F 16) (n := k) (j := x) (by omega) hx (fun y hy => by
      rcases hr2 : runAt (bitsTo F 16) k y with _ | _
      · rfl
      · obtain ⟨j, hj, e2, h2⟩ := run_fit hk hr2
        have hlt := getD_up hp hy hx
        have hji : j < i := by omega
        obtain ⟨_, la, lb, e3, h3⟩ := List.find?_eq_some_iff_append.1 hf
        have hm : j ∈ la := by
          have hjr : j ∈ List.range' 0 16 := List.mem_range'_1.2 ⟨by omega, by omega⟩
          have hpw : (List.range' 0 16).Pairwise (· < ·) := List.pairwise_lt_range'
          rw [e3] at hjr hpw
          rcases List.mem_append.1 hjr with h | h
          · exact h
          · rcases List.mem_cons.1 h with h | h
            · omega
            · have := (List.pairwise_cons.1 (List.pairwise_append.1 hpw).2.1).1 j h
              omega
        have := h3 j hm
        rw [h2] at this
        cases this) hr
    rw [this, e]
    rfl
theorem wantAt_rng {F k : Nat} (hk : k ≤ 5) : 2 ≤ wantAt F k 0 ∧ (wantAt F k 0 + k ≤ 18 ∨ wantAt F k 0 = 18) := by
  unfold wantAt
  rcases hf : (List.range' 0 (16 - 0)).find? (fitB F k) with _ | i
  · exact ⟨by decide, .inr rfl⟩
  · have h1 := List.find?_some hf
    unfold fitB at h1
    rw [Bool.and_eq_true] at h1
    have := of_decide_eq_true h1.1
    refine ⟨?_, .inl ?_⟩
    · show 2 ≤ 2 + (i : Int)
      omega
    · show 2 + (i : Int) + k ≤ 18
      omega
/-- A run, some of whose pages are filled. -/
structure Ran (F k i : Nat) (s : Sto) : Prop where
  ok : s.Ok
  most : s.most = 400
  last : s.last = max 18 (wantAt F k 0 + k)
  look : ∀ m : Nat, m < k → lookD s.d (wantAt F k 0 + m) = some (if m < i then lfPg [107] else pg0)
  len : s.d.length = k
theorem run_ran {F k : Nat} {s : Sto} (h1 : 1 ≤ k) (h5 : k ≤ 5) (hok : s.Ok) (ha : s.avail = bitsTo F 16) (hl : s.last = 18) (hm : s.most = 400) (hd : s.d = []) : ∃ s1, s.run k = ((wantAt F k 0, none), s1) ∧ Ran F k 0 s1 := by
  have hw := wantAt_rng (F := F) h5
  have hok2 := hok.run k
  have hlook : ∀ m : Nat, m < k → lookD (runD [] (wantAt F k 0) k) (wantAt F k 0 + m) = some (if m < 0 then lfPg [107] else pg0) := fun m hm => by
    rw [lookD_run, if_pos (by omega), if_neg (Nat.not_lt_zero m)]
  have hlen : (runD [] (wantAt F k 0) k).length = k := by
    rw [runD_len fun j _ => rfl]
    exact Nat.zero_add k
  have hrb := run_bits (F := F) h1
  rw [s.run_mid k (by omega) (by omega)] at hok2 ⊢
  unfold Sto.numbers at hok2 ⊢
  rw [if_neg (by rw [hd]; simp only [List.length_nil]; omega), ha, hrb] at hok2 ⊢
  unfold wantAt at hw hlook hlen ⊢
  rw [show 16 - 0 = 16 from rfl] at hw hlook hlen ⊢
  rcases hf : (List.range' 0 16).find? (fitB F k) with _ | i
  · rw [hf] at hw hlook hlen hok2
    simp only [Option.map_none] at hok2 ⊢
    rw [if_neg (by omega)] at hok2 ⊢
    rw [hl, hd] at hok2 ⊢
    refine ⟨_, rfl, hok2, hm, ?_, ?_, ?_⟩
    · show (18 : Int) + k = _
      unfold wantAt
      rw [show 16 - 0 = 16 from rfl, hf]
      show (18 : Int) + k = max 18 (18 + (k : Int))
      omega
    · unfold wantAt
      rw [show 16 - 0 = 16 from rfl, hf]
      exact hlook
    · exact hlen
  · rw [hf] at hw hlook hlen hok2
    simp only [Option.map_some] at hok2 ⊢
    rw [hd] at hok2 ⊢
    refine ⟨_, rfl, hok2, hm, ?_, ?_, ?_⟩
    · show s.last = _
      unfold wantAt
      rw [show 16 - 0 = 16 from rfl, hf]
      show s.last = max 18 (2 + (i : Int) + k)
      have hw2 : 2 + (i : Int) + k ≤ 18 ∨ 2 + (i : Int) = 18 := hw.2
      have hfit := List.find?_some hf
      unfold fitB at hfit
      rw [Bool.and_eq_true] at hfit
      have := of_decide_eq_true hfit.1
      omega
    · unfold wantAt
      rw [show 16 - 0 = 16 from rfl, hf]
      exact hlook
    · exact hlen
theorem Ran.rd {F k i : Nat} {s : Sto} (h : Ran F k i s) (h5 : k ≤ 5) (V : List Txt) {m : Nat} (hm : m < k) : s.read V (wantAt F k 0 + m) = if m < i then (lfPg [107], none) else (pg0, some 12) := by
  have hw := wantAt_rng (F := F) h5
  have hmo := h.most
  unfold Sto.read
  rw [if_neg (by omega), h.look m hm]
  by_cases hi : m < i
  · rw [if_pos hi, if_pos hi]
    rfl
  · rw [if_neg hi, if_neg hi]
    rfl
theorem Ran.fill {F k i : Nat} {s : Sto} (h : Ran F k i s) (hi : i < k) : ∃ s1, s.set_ (wantAt F k 0 + i) (lfPg [107]) = (none, s1) ∧ Ran F k (i + 1) s1 := by
  have hl := h.look i hi
  have hs : (lookD s.d (wantAt F k 0 + i)).isSome = true := by rw [hl]; rfl
  have hok := h.ok.set_ (wantAt F k 0 + i) (lfPg [107])
  unfold Sto.set_ at hok ⊢
  rw [if_pos ⟨hs, lf_k⟩] at hok ⊢
  refine ⟨_, rfl, hok, h.most, h.last, fun m hm => ?_, ?_⟩
  · show lookD (putD s.d (wantAt F k 0 + i) (lfPg [107])) (wantAt F k 0 + m) = _
    rw [lookD_put]
    by_cases e : m = i
    · subst e
      rw [if_pos rfl, if_pos (by omega)]
    · rw [if_neg (by omega), h.look m hm]
      by_cases h2 : m < i
      · rw [if_pos h2, if_pos (by omega)]
      · rw [if_neg h2, if_neg (by omega)]
  · show (putD s.d (wantAt F k 0 + i) (lfPg [107])).length = k
    rw [putD_has hs, h.len]
theorem Sto.run_zero (s : Sto) : s.run 0 = ((0, some 10), s) := rfl
end Sp
end Go.Proofs.YtkcfmjlcijhieaaGreat
namespace Go.Proofs.YtkcfmjlcijhieaaGreat
open Go.RowKit
attribute [local go_sem low] mk_extract
attribute [local go_sem] After.cell After.frozen mk_extract_end ByteArray.mk_append_mk
namespace Sp
/-- A page of a long value. -/
def ovPg (t : Txt) : Page := ⟨3, [], [], [], t, [], [], 0, mt0⟩
theorem ov_is {t : Txt} (h1 : 1 ≤ t.length) (h2 : t.length ≤ 100) : isPage (ovPg t) = true := by
  have h0 : t ≠ [] := fun e => by rw [e] at h1; simp at h1
  simp [isPage, ovPg, has, h0, h2]
def cntO (n : Int) : Nat := if n < 1 then 0 else ((n - 1) / 100 + 1).toNat
theorem cntO_nat {n : Nat} : cntO n = (n + 99) / 100 := by
  unfold cntO
  by_cases h : (n : Int) < 1
  · rw [if_pos h]; omega
  · rw [if_neg h]; omega
def longB (n : Int) : Bool := decide (12 < n) && decide (n ≤ 1000)
theorem longB_iff {n : Int} : longB n = true ↔ 12 < n ∧ n ≤ 1000 := by
  unfold longB
  rw [Bool.and_eq_true, decide_eq_true_iff, decide_eq_true_iff]
def piece (T : Txt) (k : Nat) : Txt := (T.drop (100 * k)).take 100
theorem piece_len (T : Txt) (k : Nat) : (piece T k).length = min 100 (T.length - 100 * k) := by
  unfold piece
  rw [List.length_take, List.length_drop]
theorem piece_is {T : Txt} {k : Nat} (h : 100 * k < T.length) : isPage (ovPg (piece T k)) = true :=
  ov_is (by rw [piece_len]; omega) (by rw [piece_len]; omega)
theorem piece_take (T : Txt) (k : Nat) : T.take (100 * k) ++ piece T k = T.take (100 * (k + 1)) := by
  unfold piece
  rw [show 100 * (k + 1) = 100 * k + 100 from by omega, List.take_add]
/-- Pages that were made take pieces. -/
def fillD (d : List (Int × Page)) (id : Int) (T : Txt) : Nat → List (Int × Page)
  | 0 => d
  | k + 1 => putD (fillD d id T k) (id + k) (ovPg (piece T k))
def Sto.write (s : Sto) (T : Txt) : (Int × Option Int) × Sto :=
  if longB T.length = false then ((0, some 22), s) else match s.run (cntO T.length) with
    | ((id, none), s1) => ((id, none), { s1 with d := fillD s1.d id T (cntO T.length) })
    | ((_, some e), s1) => ((0, some e), s1)
def readTo (s : Sto) (V : List Txt) (run n : Int) : Nat → Txt × Option Int
  | 0 => ([], none)
  | k + 1 => match readTo s V run n k with
    | (_, some e) => ([], some e)
    | (t, none) => match s.read V (run + k) with
      | (_, some e) => ([], some e)
      | (p, none) => if p.kind = 3 ∧ (p.text.length : Int) = min (n - 100 * k) 100 then (t ++ p.text, none) else ([], some 12)
def Sto.readO (s : Sto) (V : List Txt) (run n : Int) : Txt × Option Int := if longB n = false then ([], some 22) else readTo s V run n (cntO n)
theorem readTo_bad {s : Sto} {V : List Txt} {run n e : Int} {k : Nat} (h : readTo s V run n k = ([], some e)) : ∀ {j : Nat}, k ≤ j → readTo s V run n j = ([], some e)
  | j, hj => by
    induction j with
    | zero => obtain rfl : k = 0 := by omega
              exact h
    | succ j ih =>
      by_cases hk : k = j + 1
      · subst hk; exact h
      · have := ih (by omega)
        unfold readTo
        rw [this]
def dropTo (s : Sto) (run : Int) : Nat → Sto
  | 0 => s
  | k + 1 => (dropTo s run k).drop (run + k)
theorem fillD_keys {d : List (Int × Page)} {id : Int} {T : Txt} : ∀ {k : Nat}, (∀ j : Nat, j < k → (lookD d (id + j)).isSome = true) → (fillD d id T k).map (·.1) = d.map (·.1)
  | 0, _ => rfl
  | k + 1, h => by
    have ih := fillD_keys (d := d) (id := id) (T := T) (k := k) fun j hj => h j (by omega)
    show (putD (fillD d id T k) (id + k) _).map (·.1) = _
    rw [putD_keys, if_pos, ih]
    have h1 := h k (by omega)
    rcases hl : lookD (fillD d id T k) (id + k) with _ | q
    · rcases hq : lookD d (id + k) with _ | q
      · rw [hq] at h1; cases h1
      · have hm : id + (k : Int) ∈ d.map (·.1) := List.mem_map.2 ⟨_, lookD_mem hq, rfl⟩
        rw [← ih] at hm
        obtain ⟨x, hx, e⟩ := List.mem_map.1 hm
        exact absurd e (lookD_none.1 hl x hx)
    · rfl
theorem lookD_fill (d : List (Int × Page)) (id : Int) (T : Txt) : ∀ (k : Nat) (x : Int), lookD (fillD d id T k) x = if id ≤ x ∧ x < id + k then some (ovPg (piece T (x - id).toNat)) else lookD d x
  | 0, x => by rw [if_neg (by omega)]; rfl
  | k + 1, x => by
    show lookD (putD (fillD d id T k) (id + k) (ovPg (piece T k))) x = _
    rw [lookD_put, lookD_fill d id T k x]
    by_cases h : x = id + k
    · rw [if_pos h, if_pos (by omega), show (x - id).toNat = k from by omega]
    · rw [if_neg h]
      by_cases h2 : id ≤ x ∧ x < id + k
      · rw [if_pos h2, if_pos (by omega)]
      · rw [if_neg h2, if_neg (by omega)]
end Sp
end Go.Proofs.YtkcfmjlcijhieaaGreat
