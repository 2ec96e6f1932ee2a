/- The package's store: a page is read. A leaf with one item, made. The package's store: a page is added. -/
import Derived.Test.YtkcfmjlcijhieaaGreatQB08
import Derived.Test.YtkcfmjlcijhieaaGreatQB09
import Derived.Test.YtkcfmjlcijhieaaGreatQB11
import Derived.Test.YtkcfmjlcijhieaaGreatQB21
set_option linter.unusedSimpArgs false
set_option linter.unusedVariables false
namespace Go.Proofs.YtkcfmjlcijhieaaGreat
open Go.RowKit
attribute [local go_sem low] mk_extract
attribute [local go_sem] After.cell After.frozen mk_extract_end ByteArray.mk_append_mk
theorem pgZ_is : (.agg pgZ0 : Value) = .agg (pageV Sp.pg0 refs0).toArray := rfl
theorem readF_1 (x : Txt) : (Sp.readF x).1 = readPg x := by
  unfold Sp.readF readPg
  split <;> rfl
theorem readF_2 (x : Txt) : erO (Sp.readF x).2 = readE x := by
  unfold Sp.readF readE
  split <;> rfl
theorem Sp.Sto.read_out (s : Sp.Sto) (V : List Txt) (i : Int) (h : i < 2 ∨ s.most ≤ i) : s.read V i = (Sp.pg0, some 14) := if_pos h
theorem Sp.Sto.read_in (s : Sp.Sto) (V : List Txt) (i : Int) (h : ¬ (i < 2 ∨ s.most ≤ i)) : s.read V i = (match Sp.lookD s.d i with
    | some p => if p.kind = 0 then (Sp.pg0, some 12) else (p, none)
    | none => Sp.readF (Sp.atV V i) : Sp.Page × Option Int) := if_neg h
/-- No block of its is turned by others. -/
def LowB (w : World) (k : Nat) : Prop := k < w.heap.size
set_option maxRecDepth 100000 in
set_option maxHeartbeats 1600000 in
theorem stoRead1 (M : Nat → Prop) (t f m d : Nat) (fv : Value) (V : List Txt) (s : Sp.Sto) (i : Int) (w : World) (h : StAt w M t f m d fv V s) (hr : i < 2 ∨ s.most ≤ i) :
    Calls Tryz.prog 37 #[.pointer (some ⟨t, 0, none⟩), .int .i64 i] w fun e w' => ∃ r, e = .returned (.tuple #[.agg (pageV (s.read V i).1 r).toArray, erO (s.read V i).2]) ∧ PageRd w' (LowB w) (s.read V i).1 r ∧ Below w.heap.size w w' := by
  have hal : Below w.heap.size w (w.alloc (.cells pgZ0 PageT)) := (Below.refl _ _).alloc (Nat.le_refl _) _
  obtain ⟨uf, ua, hbt, _, _⟩ := (h.go hal).bt
  have c5 : (w.alloc (.cells pgZ0 PageT)).cell? ⟨t, 5, none⟩ = some (.int .i64 s.most) := hbt.cell 5
  have HZ := Lib.hid (Blk.new w PageT pgZ0)
  have HAL := Lib.hid hal
  have HR := Lib.hid (s.read_out V i hr)
  clear h hal hbt
  simp only [pgZ0] at *
  by_cases h2 : i < 2
  · clear hr
    go_enter Tryz.func37, Tryz.ntmps37
    go_wp2
    obtain ⟨⟨z0, z1, z2, z3, z4, z5, z6, z7, z8, z9, z10, z11, z12, z13⟩, _⟩ := HZ.out.at14
    refine bodyPost_ret (v := .tuple #[.agg (pageV Sp.pg0 refs0).toArray, erO (some 14)]) (by simp [results, Tryz.results37, go_sem, pageV, mtV, Sp.pg0, Sp.mt0, Sp.root0, refs0, erO, z0, z1, z2, z3, z4, z5, z6, z7, z8, z9, z10, z11, z12, z13]) rfl ⟨refs0, by rw [HR.out], by rw [HR.out]; exact pageRd0 _ _ _, HAL.out⟩
  · have h3 : s.most ≤ i := by omega
    clear hr
    go_enter Tryz.func37, Tryz.ntmps37
    go_wp2
    obtain ⟨⟨z0, z1, z2, z3, z4, z5, z6, z7, z8, z9, z10, z11, z12, z13⟩, _⟩ := HZ.out.at14
    refine bodyPost_ret (v := .tuple #[.agg (pageV Sp.pg0 refs0).toArray, erO (some 14)]) (by simp [results, Tryz.results37, go_sem, pageV, mtV, Sp.pg0, Sp.mt0, Sp.root0, refs0, erO, z0, z1, z2, z3, z4, z5, z6, z7, z8, z9, z10, z11, z12, z13]) rfl ⟨refs0, by rw [HR.out], by rw [HR.out]; exact pageRd0 _ _ _, HAL.out⟩
theorem MapV.lookP {w : World} {d : Nat} {D : List (Int × Value)} (h : MapV w d D) (i : Int) :
    (Instr.lookup PgMapT (.map (some d)) (.int .i64 i) true).run Tryz.prog w = .ok (.tuple #[(Sp.lookD D i).getD (.agg pgZ0), .bool (Sp.lookD D i).isSome]) w :=
  MapV.look Tryz.underlying123 h i (zeroPage w) true
set_option maxRecDepth 100000 in
set_option maxHeartbeats 1600000 in
theorem stoRead2 (M : Nat → Prop) (t f m d : Nat) (fv : Value) (V : List Txt) (s : Sp.Sto) (i : Int) (w : World) (hs : StAt w M t f m d fv V s) (hn : V.length ≤ 400) (h2 : 2 ≤ i) (h4 : i < s.most) (hm : s.most ≤ 400) (hno : Sp.lookD s.d i = none) :
    Calls Tryz.prog 37 #[.pointer (some ⟨t, 0, none⟩), .int .i64 i] w fun e w' => ∃ r, e = .returned (.tuple #[.agg (pageV (s.read V i).1 r).toArray, erO (s.read V i).2]) ∧ PageRd w' (LowB w) (s.read V i).1 r ∧ Below w.heap.size w w' := by
  have hal : Below w.heap.size w (w.alloc (.cells pgZ0 PageT)) := (Below.refl _ _).alloc (Nat.le_refl _) _
  have HRD := Lib.hid (show s.read V i = Sp.readF (Sp.atV V i) from (s.read_in V i (by omega)).trans (by rw [hno]))
  have HS := Lib.hid (hs.go hal)
  obtain ⟨uf, ua, hbt, _, _⟩ := HS.out.bt
  have c0 : (w.alloc (.cells pgZ0 PageT)).cell? ⟨t, 0, none⟩ = some (.pointer (some ⟨f, 0, none⟩)) := hbt.cell 0
  have c1 : (w.alloc (.cells pgZ0 PageT)).cell? ⟨t, 1, none⟩ = some (.map (some d)) := hbt.cell 1
  have c5 : (w.alloc (.cells pgZ0 PageT)).cell? ⟨t, 5, none⟩ = some (.int .i64 s.most) := hbt.cell 5
  obtain ⟨D, hD, hP⟩ := HS.out.dm
  have hlk := hD.lookP i
  have e : Sp.lookD D i = none := by
    rcases hP.look i with ⟨_, e⟩ | ⟨p, r, e, _⟩
    · exact e
    · rw [hno] at e; cases e
  rw [e] at hlk
  simp only [Option.getD_none, Option.isSome_none] at hlk
  have HBT := Lib.hid hbt
  have HZ := Lib.hid (Blk.new w PageT pgZ0)
  have HSZ := Lib.hid (atV_sz V i hs.fa.sz)
  have HAL := Lib.hid hal
  have hlt2 : ¬ (i < 2) := by omega
  have h400 : ¬ (s.most ≤ i) := by omega
  have hd1 : d < (w.alloc (.cells pgZ0 PageT)).heap.size := hD.lt
  clear hs hal hD hP hbt e hno
  simp only [pgZ0] at *
  go_enter Tryz.func37, Tryz.ntmps37
  go_upto_region 5 with (refine wpList_new PageT _ _ rfl rfl rfl rfl rfl rfl _ rfl (of_decide_eq_true (by kernel_rfl)) (by kernel_rfl) (by kernel_rfl) (by kernel_rfl) ?_)
  have hal2 : Below (w.alloc (.cells pgZ0 PageT)).heap.size (w.alloc (.cells pgZ0 PageT)) ((w.alloc (.cells pgZ0 PageT)).alloc (.cells pgZ0 PageT)) := (Below.refl _ _).alloc (Nat.le_refl _) _
  have HS2 := Lib.hid (HS.out.go hal2)
  have HZ2 := Lib.hid (HZ.out.below hal2 HZ.out.lt)
  have HAL2 := Lib.hid (HAL.out.trans (hal2.mono HAL.out.size))
  have e0 := (HBT.out.below hal2 HBT.out.lt).cell 0
  simp at e0
  clear c0 c1 c5 hlk HS HZ HAL hal2 hd1 HBT
  simp only [pgZ0] at *
  generalize ((w.alloc (.cells _ PageT)).alloc (.cells _ PageT)) = W2 at *
  go_wp2_with (first
    | (go_at_call 41; refine (fileRead_any f m fv V i _ HS2.out.fa (by omega)).mono ?_; rintro e w2 ⟨rfl, rfl⟩)
    | (go_at_call 63; refine (read_any (Sp.atV V i) _ HSZ.out).mono ?_; rintro e w3 ⟨r, rfl, hr, hb3⟩; rw [readV_is])
    | (refine wpList_store_row rfl PageT _ _ rfl w.heap.size _ rfl rfl PageT _ (HZ2.out.below hb3 HZ2.out.lt) (by kernel_rfl) rfl (pageV_all0 (readPg (Sp.atV V i)) r) ?_))
  obtain ⟨⟨z0, z1, z2, z3, z4, z5, z6, z7, z8, z9, z10, z11, z12, z13⟩, _⟩ := ((HZ2.out.below hb3 HZ2.out.lt).row (ds := #[.int .i64 (readPg (Sp.atV V i)).kind, .slice r.I (readPg (Sp.atV V i)).items.length r.i, .slice r.K (readPg (Sp.atV V i)).keys.length r.k, .slice r.D (readPg (Sp.atV V i)).kids.length r.d, .string ⟨(readPg (Sp.atV V i)).text.toArray⟩, .slice r.V (readPg (Sp.atV V i)).vals.length r.v, .slice r.F (readPg (Sp.atV V i)).free.length r.f, .int .i64 (readPg (Sp.atV V i)).next, .int .u64 (readPg (Sp.atV V i)).mt.txn, .int .i64 (readPg (Sp.atV V i)).mt.main.page, .int .i64 (readPg (Sp.atV V i)).mt.main.count, .int .i64 (readPg (Sp.atV V i)).mt.main.flags, .int .i64 (readPg (Sp.atV V i)).mt.free, .int .i64 (readPg (Sp.atV V i)).mt.last])).at14
  have hge : w.heap.size ≤ W2.heap.size := HAL2.out.size
  have hb4 : Below w.heap.size w (w3.setRow w.heap.size (pageV (readPg (Sp.atV V i)) r).toArray) := below_setRow (HAL2.out.trans (hb3.mono hge)) (Nat.le_refl _) _
  refine bodyPost_ret (v := .tuple #[.agg (pageV (readPg (Sp.atV V i)) r).toArray, readE (Sp.atV V i)]) (by simp [results, Tryz.results37, go_sem, pageV, mtV, z0, z1, z2, z3, z4, z5, z6, z7, z8, z9, z10, z11, z12, z13]) rfl ⟨r, by rw [HRD.out, readF_1, readF_2], ?_, hb4⟩
  rw [HRD.out, readF_1]
  have hz2 : w.heap.size < W2.heap.size := HZ2.out.lt
  have h1 := hr (fun k => k ≤ w.heap.size) (fun k hk h => by
    have h : k ≤ w.heap.size := h
    omega)
  exact (h1.chg ((chg_setRow0 w3 w.heap.size _).mono (fun k _ h => by
    have h : k = w.heap.size := h
    show k ≤ w.heap.size
    omega))).anti (fun k h => Nat.le_of_lt h)
set_option maxRecDepth 100000 in
set_option maxHeartbeats 1600000 in
theorem stoRead3 (M : Nat → Prop) (t f m d : Nat) (fv : Value) (V : List Txt) (s : Sp.Sto) (i : Int) (p : Sp.Page) (w : World) (hs : StAt w M t f m d fv V s) (h2 : 2 ≤ i) (h4 : i < s.most) (hm : s.most ≤ 400) (hno : Sp.lookD s.d i = some p) :
    Calls Tryz.prog 37 #[.pointer (some ⟨t, 0, none⟩), .int .i64 i] w fun e w' => ∃ r, e = .returned (.tuple #[.agg (pageV (s.read V i).1 r).toArray, erO (s.read V i).2]) ∧ PageRd w' (LowB w) (s.read V i).1 r ∧ Below w.heap.size w w' := by
  have hal : Below w.heap.size w (w.alloc (.cells pgZ0 PageT)) := (Below.refl _ _).alloc (Nat.le_refl _) _
  have HRD := Lib.hid (show s.read V i = (if p.kind = 0 then (Sp.pg0, some 12) else (p, none) : Sp.Page × Option Int) from (s.read_in V i (by omega)).trans (by rw [hno]))
  have HS := Lib.hid (hs.go hal)
  obtain ⟨uf, ua, hbt, _, _⟩ := HS.out.bt
  have c0 : (w.alloc (.cells pgZ0 PageT)).cell? ⟨t, 0, none⟩ = some (.pointer (some ⟨f, 0, none⟩)) := hbt.cell 0
  have c1 : (w.alloc (.cells pgZ0 PageT)).cell? ⟨t, 1, none⟩ = some (.map (some d)) := hbt.cell 1
  have c5 : (w.alloc (.cells pgZ0 PageT)).cell? ⟨t, 5, none⟩ = some (.int .i64 s.most) := hbt.cell 5
  obtain ⟨D, hD, hP⟩ := HS.out.dm
  have hlk := hD.lookP i
  obtain ⟨r, e, hpr, hsm⟩ : ∃ r, Sp.lookD D i = some (.agg (pageV p r).toArray) ∧ PageRd (w.alloc (.cells pgZ0 PageT)) M p r ∧ p.Small := by
    rcases hP.look i with ⟨e, _⟩ | ⟨q, r, e, h1, h2, h3⟩
    · rw [hno] at e; cases e
    · rw [hno] at e
      injection e with e
      subst e
      exact ⟨r, h1, h2, h3⟩
  rw [e] at hlk
  simp only [Option.getD_some, Option.isSome_some] at hlk
  have HBT := Lib.hid hbt
  have HZ := Lib.hid (Blk.new w PageT pgZ0)
  have HAL := Lib.hid hal
  have HPR := Lib.hid hpr
  have HSM := Lib.hid hsm
  have hlt2 : ¬ (i < 2) := by omega
  have h400 : ¬ (s.most ≤ i) := by omega
  have hd1 : d < (w.alloc (.cells pgZ0 PageT)).heap.size := hD.lt
  clear hs hal hD hP hbt e hno hpr hsm
  simp only [pgZ0, pageV, mtV, List.cons_append, List.nil_append] at hlk c0 c1 c5 hd1
  go_enter Tryz.func37, Tryz.ntmps37
  go_upto_region 4 with (refine wpList_new PageT _ _ rfl rfl rfl rfl rfl rfl _ rfl (of_decide_eq_true (by kernel_rfl)) (by kernel_rfl) (by kernel_rfl) (by kernel_rfl) ?_)
  have hal2 : Below (w.alloc (.cells pgZ0 PageT)).heap.size (w.alloc (.cells pgZ0 PageT)) ((w.alloc (.cells pgZ0 PageT)).alloc (.cells (pageV p r).toArray PageT)) := (Below.refl _ _).alloc (Nat.le_refl _) _
  have HZ2 := Lib.hid (HZ.out.below hal2 HZ.out.lt)
  have HAL2 := Lib.hid (HAL.out.trans (hal2.mono HAL.out.size))
  have HP2 := Lib.hid (show Blk ((w.alloc (.cells pgZ0 PageT)).alloc (.cells (pageV p r).toArray PageT)) (w.heap.size + 1) PageT (pageV p r).toArray from by
    have := Blk.new (w.alloc (.cells pgZ0 PageT)) PageT (pageV p r).toArray
    rwa [World.size_alloc] at this)
  have HPR2 := Lib.hid (HPR.out.go hal2)
  clear c0 c1 c5 hlk HS HZ HAL hal2 hd1 HBT HPR
  simp only [pgZ0, pageV, mtV, List.cons_append, List.nil_append] at HZ2 HAL2 HP2 HPR2
  generalize ((w.alloc (.cells _ PageT)).alloc (.cells _ PageT)) = W2 at *
  by_cases hk : p.kind = 0
  · have c0 : W2.cell? ⟨w.heap.size + 1, 0, none⟩ = some (.int .i64 0) := by have := HP2.out.cell 0; rw [hk] at this; exact this
    have HR := Lib.hid (HRD.out.trans (if_pos hk))
    clear hk
    go_wp2_with (refine wpList_store_row rfl PageT _ _ rfl w.heap.size _ rfl rfl PageT _ HZ2.out (by kernel_rfl) rfl (by kernel_rfl) ?_)
    obtain ⟨⟨z0, z1, z2, z3, z4, z5, z6, z7, z8, z9, z10, z11, z12, z13⟩, _⟩ := (HZ2.out.row (ds := #[.int .i64 0, .slice none 0 0, .slice none 0 0, .slice none 0 0, .string ⟨#[]⟩, .slice none 0 0, .slice none 0 0, .int .i64 0, .int .u64 0, .int .i64 0, .int .i64 0, .int .i64 0, .int .i64 0, .int .i64 0])).at14
    refine bodyPost_ret (v := .tuple #[.agg (pageV Sp.pg0 refs0).toArray, erO (some 12)]) (by simp [results, Tryz.results37, go_sem, pageV, mtV, Sp.pg0, Sp.mt0, Sp.root0, refs0, erO, z0, z1, z2, z3, z4, z5, z6, z7, z8, z9, z10, z11, z12, z13]) rfl ⟨refs0, by rw [HR.out], by rw [HR.out]; exact pageRd0 _ _ _, below_setRow HAL2.out (Nat.le_refl _) _⟩
  · have c0 : W2.cell? ⟨w.heap.size + 1, 0, none⟩ = some (.int .i64 p.kind) := HP2.out.cell 0
    have hk2 : (p.kind == 0) = false := by simpa using hk
    have HR := Lib.hid (HRD.out.trans (if_neg hk))
    have HK := Lib.hid hk
    clear hk
    go_wp2_with (first
      | (refine wpList_row PageT _ rfl (w.heap.size + 1) rfl rfl PageT _ (0, 0) _ HP2.out Tryz.underlying39 rfl rfl ?_)
      | (go_at_call 73; refine (copied_any p r _ HPR2.out HSM.out).mono ?_; rintro e w3 ⟨rc, rfl, hr, hb3⟩)
      | (refine wpList_store_row rfl PageT _ _ rfl w.heap.size _ rfl rfl PageT _ (HZ2.out.below hb3 HZ2.out.lt) (by kernel_rfl) rfl (pageV_all0 p rc) ?_))
    obtain ⟨⟨z0, z1, z2, z3, z4, z5, z6, z7, z8, z9, z10, z11, z12, z13⟩, _⟩ := ((HZ2.out.below hb3 HZ2.out.lt).row (ds := #[.int .i64 p.kind, .slice rc.I p.items.length rc.i, .slice rc.K p.keys.length rc.k, .slice rc.D p.kids.length rc.d, .string ⟨p.text.toArray⟩, .slice rc.V p.vals.length rc.v, .slice rc.F p.free.length rc.f, .int .i64 p.next, .int .u64 p.mt.txn, .int .i64 p.mt.main.page, .int .i64 p.mt.main.count, .int .i64 p.mt.main.flags, .int .i64 p.mt.free, .int .i64 p.mt.last])).at14
    have hge : w.heap.size ≤ W2.heap.size := HAL2.out.size
    have hb4 : Below w.heap.size w (w3.setRow w.heap.size (pageV p rc).toArray) := below_setRow (HAL2.out.trans (hb3.mono hge)) (Nat.le_refl _) _
    refine bodyPost_ret (v := .tuple #[.agg (pageV p rc).toArray, erO none]) (by simp [results, Tryz.results37, go_sem, pageV, mtV, erO, z0, z1, z2, z3, z4, z5, z6, z7, z8, z9, z10, z11, z12, z13]) rfl ⟨rc, by rw [HR.out], ?_, hb4⟩
    rw [HR.out]
    have hz2 : w.heap.size < W2.heap.size := HZ2.out.lt
    have h1 := hr.anti (M' := fun k => k ≤ w.heap.size) (fun k h => by
      have h : k ≤ w.heap.size := h
      omega)
    exact (h1.chg ((chg_setRow0 w3 w.heap.size _).mono (fun k _ h => by
      have h : k = w.heap.size := h
      show k ≤ w.heap.size
      omega))).anti (fun k h => Nat.le_of_lt h)
theorem stoRead_any (M : Nat → Prop) (t f m d : Nat) (fv : Value) (V : List Txt) (s : Sp.Sto) (i : Int) (w : World) (hs : StAt w M t f m d fv V s) (hok : s.Ok) (hn : V.length ≤ 400) :
    Calls Tryz.prog 37 #[.pointer (some ⟨t, 0, none⟩), .int .i64 i] w fun e w' => ∃ r, e = .returned (.tuple #[.agg (pageV (s.read V i).1 r).toArray, erO (s.read V i).2]) ∧ PageRd w' (LowB w) (s.read V i).1 r ∧ Below w.heap.size w w' := by
  by_cases hr : i < 2 ∨ s.most ≤ i
  · exact stoRead1 M t f m d fv V s i w hs hr
  · rcases hq : Sp.lookD s.d i with _ | p
    · exact stoRead2 M t f m d fv V s i w hs hn (by omega) (by omega) hok.most.2 hq
    · exact stoRead3 M t f m d fv V s i p w hs (by omega) (by omega) hok.most.2 hq
end Go.Proofs.YtkcfmjlcijhieaaGreat
namespace Go.Proofs.YtkcfmjlcijhieaaGreat
open Go.RowKit
attribute [local go_sem low] mk_extract
attribute [local go_sem] After.cell After.frozen mk_extract_end ByteArray.mk_append_mk
namespace Sp
def lfIt (key : Txt) : Item := ⟨key, 1, [], 0, 0, [], 0, root0⟩
/-- A leaf with one item. -/
def lfPg (key : Txt) : Page := ⟨1, [lfIt key], [], [], [], [], [], 0, mt0⟩
end Sp
set_option maxRecDepth 100000 in
set_option maxHeartbeats 1600000 in
theorem leaf_any (key : Txt) (w : World) :
    Calls Tryz.prog 30 #[.string ⟨key.toArray⟩] w fun e w' => ∃ r, e = .returned (.agg (pageV (Sp.lfPg key) r).toArray) ∧ PageRd w' (LowB w) (Sp.lfPg key) r ∧ Below w.heap.size w w' := by
  go_enter Tryz.func30, Tryz.ntmps30
  go_wp2
  have hb1 : Below w.heap.size w (w.alloc (.cells (pageV (Sp.lfPg key) ⟨some ⟨w.heap.size + 1, 0, none⟩, none, none, none, none, 1, 0, 0, 0, 0⟩).toArray PageT)) := (Below.refl _ _).alloc (Nat.le_refl _) _
  have hbk := Blk.new w PageT (pageV (Sp.lfPg key) ⟨some ⟨w.heap.size + 1, 0, none⟩, none, none, none, none, 1, 0, 0, 0, 0⟩).toArray
  generalize hW : w.alloc (.cells (pageV (Sp.lfPg key) ⟨some ⟨w.heap.size + 1, 0, none⟩, none, none, none, none, 1, 0, 0, 0, 0⟩).toArray PageT) = W at *
  have hsz : W.heap.size = w.heap.size + 1 := by rw [← hW]; simp
  have hb2 : Below w.heap.size w (W.alloc (.cells (itemV (Sp.lfIt key) none 0).toArray ItemT)) := hb1.alloc hb1.size _
  have hit : Blk (W.alloc (.cells (itemV (Sp.lfIt key) none 0).toArray ItemT)) (w.heap.size + 1) ItemT (itemV (Sp.lfIt key) none 0).toArray := by
    have := Blk.new W ItemT (itemV (Sp.lfIt key) none 0).toArray
    rwa [hsz] at this
  have hbk2 : Blk (W.alloc (.cells (itemV (Sp.lfIt key) none 0).toArray ItemT)) w.heap.size PageT #[.int .i64 1, .slice (some ⟨w.heap.size + 1, 0, none⟩) 1 1, .slice none 0 0, .slice none 0 0, .string ⟨#[]⟩, .slice none 0 0, .slice none 0 0, .int .i64 0, .int .u64 0, .int .i64 0, .int .i64 0, .int .i64 0, .int .i64 0, .int .i64 0] := hbk.alloc _
  have hpr : PageRd (W.alloc (.cells (itemV (Sp.lfIt key) none 0).toArray ItemT)) (LowB w) (Sp.lfPg key) ⟨some ⟨w.heap.size + 1, 0, none⟩, none, none, none, none, 1, 0, 0, 0, 0⟩ := by
    refine ⟨⟨by simp [Sp.lfPg], .inr ⟨w.heap.size + 1, 0, rfl, hit.lt, fun h => ?_, fun k hk => ?_⟩⟩, Row.nil_, Row.nil_, Row.nil_, Frees.nil_, by simp [Sp.lfPg, Sp.mt0]⟩
    · have h : w.heap.size + 1 < w.heap.size := h
      omega
    · have hk : k < 1 := hk
      obtain rfl : k = 0 := by omega
      refine ⟨none, 0, ?_, Row.nil_⟩
      have h10 := hit.at10.1
      simp only [Nat.zero_mul, Nat.zero_add, Nat.add_zero]
      obtain ⟨a0, a1, a2, a3, a4, a5, a6, a7, a8, a9⟩ := h10
      exact ⟨a0, a1, a2, a3, a4, a5, a6, a7, a8, a9⟩
  obtain ⟨⟨z0, z1, z2, z3, z4, z5, z6, z7, z8, z9, z10, z11, z12, z13⟩, _⟩ := hbk2.at14
  rw [← hW] at hbk2 hpr hb2 z0 z1 z2 z3 z4 z5 z6 z7 z8 z9 z10 z11 z12 z13
  refine bodyPost_ret (v := .agg (pageV (Sp.lfPg key) ⟨some ⟨w.heap.size + 1, 0, none⟩, none, none, none, none, 1, 0, 0, 0, 0⟩).toArray) ?_ rfl ⟨_, rfl, hpr, hb2⟩
  simp [results, Tryz.results30, go_sem, pageV, mtV, Sp.lfPg, Sp.mt0, Sp.root0, z0, z1, z2, z3, z4, z5, z6, z7, z8, z9, z10, z11, z12, z13]
end Go.Proofs.YtkcfmjlcijhieaaGreat
namespace Go.Proofs.YtkcfmjlcijhieaaGreat
open Go.RowKit
attribute [local go_sem low] mk_extract
attribute [local go_sem] After.cell After.frozen mk_extract_end ByteArray.mk_append_mk
open Go.Conc
theorem Sp.Sto.add_no (s : Sp.Sto) (p : Sp.Page) (h : Sp.isPage p = false) : s.add p = ((0, some 10), s) := if_pos h
theorem Sp.Sto.add_yes (s : Sp.Sto) (p : Sp.Page) (h : Sp.isPage p = true) : s.add p = (match s.numbers 1 with
    | ((id, none), s') => ((id, none), { s' with d := Sp.putD s'.d id p })
    | ((id, some e), s') => ((id, some e), s') : (Int × Option Int) × Sp.Sto) := if_neg (by rw [h]; simp)
/-- The store's two blocks. -/
def TwoM (t d k : Nat) : Prop := k = t ∨ k = d
/-- A page is put into the store's map. -/
theorem StAt.put_ {w : World} {M : Nat → Prop} {t f m d : Nat} {fv : Value} {V : List Txt} {s : Sp.Sto} (h : StAt w M t f m d fv V s) {p : Sp.Page} {r : Refs} (hp : PageRd w M p r) (hs : p.Small) (i : Int) :
    ∃ o, (Instr.mapUpdate PgMapT (.map (some d)) (.int .i64 i) (.agg (pageV p r).toArray)).run Tryz.prog w = .ok () (turnM w d o) ∧ StAt (turnM w d o) M t f m d fv V { s with d := Sp.putD s.d i p } ∧ Chg (OneM d) w (turnM w d o) := by
  obtain ⟨D, hD, hP⟩ := h.dm
  obtain ⟨o, h1, h2⟩ := hD.put Tryz.underlying123 i (.agg (pageV p r).toArray)
  have hk : Chg (OneM d) w (turnM w d o) := chg_setB w d o
  exact ⟨o, h1, h.turnD hk h2 ((hP.put hp hs).chg (hk.mono fun k _ e => by
    have e : k = d := e
    exact e ▸ h.hM.2)) rfl rfl rfl rfl, hk⟩
theorem exec_page {o : Oper} {a : Act} {w : World} (x : Operand) (ho : o.op = .load PageT x) (g : Nat) (hx : a.eval x = .pointer (some ⟨g, 0, none⟩)) (cs : Array Value) (hg : Blk w g PageT cs) (hi : cs.size = 14) : (execOp a.eval o).run Tryz.prog w = .ok (.value (.agg cs)) w := by
  have hsz : (Tryz.prog.info? PageT).map (·.size) = some cs.size := by rw [hi]; kernel_rfl
  have hl := run_loadVar_row (P := Tryz.prog) w g PageT PageT cs (0, 0) _ hg Tryz.underlying39 rfl hsz
  unfold execOp
  simp only [ho, hx, Instr.loadAt, Instr.sureAddr, Sem.run_bind, Sem.run_pure, Result.andThen_ok, hl]
set_option maxRecDepth 100000 in
set_option maxHeartbeats 1600000 in
theorem stoAdd_any (M : Nat → Prop) (t f m d : Nat) (fv : Value) (V : List Txt) (s : Sp.Sto) (p : Sp.Page) (r : Refs) {M' : Nat → Prop} (w : World) (h : StAt w M t f m d fv V s) (hok : s.Ok) (hp : PageRd w M' p r) (hM : ∀ k, TwoM t d k → M' k) :
    Calls Tryz.prog 29 #[.pointer (some ⟨t, 0, none⟩), .agg (pageV p r).toArray] w fun e w' => e = .returned (.tuple #[.int .i64 (s.add p).1.1, erO (s.add p).1.2]) ∧ StAt w' M t f m d fv V (s.add p).2 ∧ Chg (TwoM t d) w w' := by
  have hal : Below w.heap.size w (w.alloc (.cells (pageV p r).toArray PageT)) := (Below.refl _ _).alloc (Nat.le_refl _) _
  have HB := Lib.hid (Blk.new w PageT (pageV p r).toArray)
  have HAL := Lib.hid hal
  have H := Lib.hid (h.go hal)
  have HP := Lib.hid (hp.go hal)
  have HI := Lib.hid (isPage_any p r (w.alloc (.cells (pageV p r).toArray PageT)) HP.out)
  have HMM := Lib.hid hM
  have HOK := Lib.hid hok
  have htw := h.lt t h.hM.1
  have hdw := h.lt d h.hM.2
  clear h hal hp hM hok
  have hpv : (pageV p r).toArray = #[.int .i64 p.kind, .slice r.I p.items.length r.i, .slice r.K p.keys.length r.k, .slice r.D p.kids.length r.d, .string ⟨p.text.toArray⟩, .slice r.V p.vals.length r.v, .slice r.F p.free.length r.f, .int .i64 p.next, .int .u64 p.mt.txn, .int .i64 p.mt.main.page, .int .i64 p.mt.main.count, .int .i64 p.mt.main.flags, .int .i64 p.mt.free, .int .i64 p.mt.last] := rfl
  rcases hpg : Sp.isPage p with _ | _
  · have HA := Lib.hid (s.add_no p hpg)
    rw [hpg] at HI
    rw [hpv] at *
    clear hpg hpv
    go_enter Tryz.func29, Tryz.ntmps29
    go_upto_region 1 with fail
    go_wp2_with (first
      | (refine wpList_row PageT _ rfl w.heap.size rfl rfl PageT _ (0, 0) _ HB.out Tryz.underlying39 rfl rfl ?_)
      | (go_at_call 71; refine HI.out.mono ?_; rintro e w2 ⟨rfl, hb2⟩; have HB2 := Lib.hid hb2; clear hb2))
    refine bodyPost_ret (v := .tuple #[.int .i64 0, erO (some 10)]) (by simp [results, Tryz.results29, go_sem, erO]) rfl ⟨by rw [HA.out], by rw [HA.out]; exact H.out.go HB2.out, Chg.of_below (HAL.out.trans (HB2.out.mono HAL.out.size))⟩
  · have HA := Lib.hid (s.add_yes p hpg)
    have HSM := Lib.hid (Sp.isPage_small hpg)
    rw [hpg] at HI
    rw [hpv] at *
    clear hpg hpv
    go_enter Tryz.func29, Tryz.ntmps29
    go_upto_region 3 with (first
      | (refine wpList_row PageT _ rfl w.heap.size rfl rfl PageT _ (0, 0) _ HB.out Tryz.underlying39 rfl rfl ?_)
      | (go_at_call 71; refine HI.out.mono ?_; rintro e w2 ⟨rfl, hb2⟩; have HB2 := Lib.hid hb2; clear hb2))
    have HN := Lib.hid (numbers_any M t f m d fv V s 1 w2 (H.out.go HB2.out) HOK.out (by omega) (by omega))
    have HA2 := Lib.hid (HAL.out.trans (HB2.out.mono HAL.out.size))
    have HBk := Lib.hid (HB.out.below HB2.out HB.out.lt)
    have HP2 := Lib.hid (HP.out.go HB2.out)
    clear HI HAL HB HP
    go_upto_region 4 with (go_at_call 72; refine HN.out.mono ?_; rintro e w3 ⟨rfl, hst, hk3⟩; have HST := Lib.hid hst; have HK3 := Lib.hid hk3; clear hst hk3)
    have HBk3 := Lib.hid (HBk.out.chg HK3.out (fun e => by
      have e : w.heap.size = t := e
      omega))
    have HP3 := Lib.hid (HP2.out.chg (HK3.out.mono fun k _ e => HMM.out k (.inl e)))
    have htw3 : t < w3.heap.size := HST.out.lt t HST.out.hM.1
    have HCK := Lib.hid (((Chg.of_below HA2.out).trans HK3.out).mono fun k _ e => (show TwoM t d k from .inl e))
    clear HN HP2 HBk HA2 HB2 HK3
    generalize s.numbers 1 = r1 at *
    obtain ⟨⟨id, e⟩, s'⟩ := r1
    rcases e with _ | k
    · simp only [erO]
      go_upto_region 5 with fail
      have c1 : w3.cell? ⟨t, 1, none⟩ = some (.map (some d)) := by
        obtain ⟨uf, ua, hb, _, _⟩ := HST.out.bt
        exact hb.cell 1
      refine wp_region_in 8 7 (fun W => Below w3.heap.size w3 W) (by kernel_rfl) rfl ?_
      refine wpIn_take 0 (.pointer (some ⟨t, 0, none⟩)) rfl (by kernel_rfl) (by kernel_rfl) (by kernel_rfl) (by kernel_rfl) (by kernel_rfl) (by rfl) (fun _ _ _ h => h) (Below.refl w3.heap.size w3).drew (fun W hW => by go_simp; all_goals first | with_reducible rfl | rfl) ?_
      simp only [List.getElem_toArray, List.getElem_cons_zero, List.getElem_cons_succ, Act.put, List.setIfInBounds_toArray, List.set_cons_succ, List.set_cons_zero]
      refine wpIn_take 1 (.pointer (some ⟨t, 0, none⟩)) rfl (by kernel_rfl) (by kernel_rfl) (by kernel_rfl) (by kernel_rfl) (by kernel_rfl) (by rfl) (fun _ _ _ h => h) (Below.refl w3.heap.size w3).drew (fun W hW => by go_simp; all_goals first | with_reducible rfl | rfl) ?_
      simp only [List.getElem_toArray, List.getElem_cons_zero, List.getElem_cons_succ, Act.put, List.setIfInBounds_toArray, List.set_cons_succ, List.set_cons_zero]
      refine wpIn_take 2 (.pointer (some ⟨t, 1, none⟩)) rfl (by kernel_rfl) (by kernel_rfl) (by kernel_rfl) (by kernel_rfl) (by kernel_rfl) (by rfl) (fun _ _ _ h => h) (Below.refl w3.heap.size w3).drew (fun W hW => by go_simp; all_goals first | with_reducible rfl | rfl) ?_
      simp only [List.getElem_toArray, List.getElem_cons_zero, List.getElem_cons_succ, Act.put, List.setIfInBounds_toArray, List.set_cons_succ, List.set_cons_zero]
      refine wpIn_take 3 (.map (some d)) rfl (by kernel_rfl) (by kernel_rfl) (by kernel_rfl) (by kernel_rfl) (by kernel_rfl) (by rfl) (fun _ _ _ h => h) (Below.refl w3.heap.size w3).drew (fun W hW => by have hc := (hW.cell (p := ⟨t, 1, none⟩) htw3).trans c1; go_simp; all_goals first | with_reducible rfl | rfl) ?_
      simp only [List.getElem_toArray, List.getElem_cons_zero, List.getElem_cons_succ, Act.put, List.setIfInBounds_toArray, List.set_cons_succ, List.set_cons_zero]
      refine wpIn_take 4 (.int .i64 id) rfl (by kernel_rfl) (by kernel_rfl) (by kernel_rfl) (by kernel_rfl) (by kernel_rfl) (by rfl) (fun _ _ _ h => h) (Below.refl w3.heap.size w3).drew (fun W hW => by go_simp; all_goals first | with_reducible rfl | rfl) ?_
      simp only [List.getElem_toArray, List.getElem_cons_zero, List.getElem_cons_succ, Act.put, List.setIfInBounds_toArray, List.set_cons_succ, List.set_cons_zero]
      refine wpIn_take 5 (.agg #[.int .i64 p.kind, .slice r.I p.items.length r.i, .slice r.K p.keys.length r.k, .slice r.D p.kids.length r.d, .string ⟨p.text.toArray⟩, .slice r.V p.vals.length r.v, .slice r.F p.free.length r.f, .int .i64 p.next, .int .u64 p.mt.txn, .int .i64 p.mt.main.page, .int .i64 p.mt.main.count, .int .i64 p.mt.main.flags, .int .i64 p.mt.free, .int .i64 p.mt.last]) rfl (by kernel_rfl) (by kernel_rfl) (by kernel_rfl) (by kernel_rfl) (by kernel_rfl) (by rfl) (fun _ _ _ h => h) (Below.refl w3.heap.size w3).drew (fun W hW => by exact exec_page _ rfl w.heap.size rfl _ (HBk3.out.below hW HBk3.out.lt) rfl) ?_
      simp only [List.getElem_toArray, List.getElem_cons_zero, List.getElem_cons_succ, Act.put, List.setIfInBounds_toArray, List.set_cons_succ, List.set_cons_zero]
      refine wpIn_one 6 rfl (by kernel_rfl) (fun _ => (Below.refl w3.heap.size w3).drew) (by rfl) ?_
      go_simp
      refine (copied_any p r w3.drew (HP3.out.go (Below.refl _ _).drew) HSM.out).mono ?_
      rintro e w5 ⟨rc, rfl, hr, hb5⟩
      have hB5 : Below w3.heap.size w3 w5 := (Below.refl w3.heap.size w3).drew.trans hb5
      have hB5' := Lib.hid hB5
      obtain ⟨o, hup, hst6, hk6⟩ := (HST.out.go hB5).put_ (hr.anti (M' := M) (fun k hk => by
        have := HST.out.lt k hk
        exact this)) HSM.out id
      have HST6 := Lib.hid hst6
      have HK6 := Lib.hid (HCK.out.trans ((Chg.of_below hB5).trans (hk6.mono fun k _ e => (show TwoM t d k from .inr e))))
      clear hst6 hk6 hr hb5
      simp only [List.getElem_toArray, List.getElem_cons_zero, List.getElem_cons_succ, Act.put, List.setIfInBounds_toArray, List.set_cons_succ, List.set_cons_zero]
      refine wpIn_one 7 rfl (by kernel_rfl) (fun _ => hB5) (by rfl) ?_
      go_simp
      refine wpIn_done (by kernel_rfl) (by kernel_rfl) ?_ _
      simp only [Exit.then]
      go_wp2_with fail
      refine bodyPost_ret (v := .tuple #[.int .i64 id, erO none]) (by simp [results, Tryz.results29, go_sem, erO]) rfl ⟨by rw [HA.out], by rw [HA.out]; exact HST6.out, HK6.out⟩
    · simp only [erO]
      go_wp2_with fail
      refine bodyPost_ret (v := .tuple #[.int .i64 id, erO (some k)]) (by simp [results, Tryz.results29, go_sem, erO]) rfl ⟨by rw [HA.out], by rw [HA.out]; exact HST.out, HCK.out⟩
end Go.Proofs.YtkcfmjlcijhieaaGreat
