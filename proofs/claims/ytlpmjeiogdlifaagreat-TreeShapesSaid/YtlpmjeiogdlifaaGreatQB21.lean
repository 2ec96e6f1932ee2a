/- The package's store: a page is read. The package's store: a page is put in place of another. The package's ids: Has. The package's store: a page is let go. The package's store in plain Lean: it stays as it may be. The package's store: a page that may be set. The package's store: numbers side by side. The package's store: its rows and numbers, told. The package's store: its rows and numbers, told. The package's store: its rows and numbers, told; a new one. -/
import Derived.Test.YtlpmjeiogdlifaaGreatQB10
import Derived.Test.YtlpmjeiogdlifaaGreatQB18
import Derived.Test.YtlpmjeiogdlifaaGreatQB20
import Derived.Shelf.SlIterI.Sorted
import Derived.Shelf.Sort.Plain
import Derived.Shelf.Slices.In.SortNone
import Derived.WideShapes
import Derived.TacticsIn
import Derived.Shelf.SlIterI.Nil
set_option linter.unusedSimpArgs false
set_option linter.unusedVariables false
namespace Go.Proofs.YtlpmjeiogdlifaaGreat
open Go.RowKit
attribute [local go_sem low] mk_extract
attribute [local go_sem] After.cell After.frozen mk_extract_end ByteArray.mk_append_mk
theorem readF_1 (x : Txt) : (Sp.readF x).1 = readPg x := by
  unfold Sp.readF readPg
  split <;> rfl
theorem readF_2 (x : Txt) : erO (Sp.readF x).2 = readE x := by
  unfold Sp.readF readE
  split <;> rfl
theorem Sp.Sto.read_out (s : Sp.Sto) (V : List Txt) (i : Int) (h : i < 2 ∨ s.most ≤ i) : s.read V i = (Sp.pg0, some 14) := if_pos h
theorem Sp.Sto.read_in (s : Sp.Sto) (V : List Txt) (i : Int) (h : ¬ (i < 2 ∨ s.most ≤ i)) : s.read V i = (match Sp.lookD s.d i with
    | some p => if p.kind = 0 then (Sp.pg0, some 12) else (p, none)
    | none => Sp.readF (Sp.atV V i) : Sp.Page × Option Int) := if_neg h
def LowB (w : World) (k : Nat) : Prop := k < w.heap.size
set_option maxRecDepth 100000 in
set_option maxHeartbeats 1600000 in
theorem stoRead1 (M : Nat → Prop) (t f m d : Nat) (fv : Value) (V : List Txt) (s : Sp.Sto) (i : Int) (w : World) (h : StAt w M t f m d fv V s) (hr : i < 2 ∨ s.most ≤ i) :
    Calls Tryz.prog 28 #[.pointer (some ⟨t, 0, none⟩), .int .i64 i] w fun e w' => ∃ r, e = .returned (.tuple #[.agg (pageV (s.read V i).1 r).toArray, erO (s.read V i).2]) ∧ PageRd w' (LowB w) (s.read V i).1 r ∧ Below w.heap.size w w' := by
  have hal : Below w.heap.size w (w.alloc (.cells pgZ0 PageT)) := (Below.refl _ _).alloc (Nat.le_refl _) _
  obtain ⟨uf, ua, hbt, _, _⟩ := (h.go hal).bt
  have c5 : (w.alloc (.cells pgZ0 PageT)).cell? ⟨t, 5, none⟩ = some (.int .i64 s.most) := hbt.cell 5
  have HZ := Lib.hid (Blk.new w PageT pgZ0)
  have HAL := Lib.hid hal
  have HR := Lib.hid (s.read_out V i hr)
  clear h hal hbt
  simp only [pgZ0] at *
  by_cases h2 : i < 2
  · clear hr
    go_enter Tryz.func28, Tryz.ntmps28
    go_wp2
    obtain ⟨⟨z0, z1, z2, z3, z4, z5, z6, z7, z8, z9, z10, z11, z12, z13⟩, _⟩ := HZ.out.at14
    refine bodyPost_ret (v := .tuple #[.agg (pageV Sp.pg0 refs0).toArray, erO (some 14)]) (by simp [results, Tryz.results28, go_sem, pageV, mtV, Sp.pg0, Sp.mt0, Sp.root0, refs0, erO, z0, z1, z2, z3, z4, z5, z6, z7, z8, z9, z10, z11, z12, z13]) rfl ⟨refs0, by rw [HR.out], by rw [HR.out]; exact pageRd0 _ _ _, HAL.out⟩
  · have h3 : s.most ≤ i := by omega
    clear hr
    go_enter Tryz.func28, Tryz.ntmps28
    go_wp2
    obtain ⟨⟨z0, z1, z2, z3, z4, z5, z6, z7, z8, z9, z10, z11, z12, z13⟩, _⟩ := HZ.out.at14
    refine bodyPost_ret (v := .tuple #[.agg (pageV Sp.pg0 refs0).toArray, erO (some 14)]) (by simp [results, Tryz.results28, go_sem, pageV, mtV, Sp.pg0, Sp.mt0, Sp.root0, refs0, erO, z0, z1, z2, z3, z4, z5, z6, z7, z8, z9, z10, z11, z12, z13]) rfl ⟨refs0, by rw [HR.out], by rw [HR.out]; exact pageRd0 _ _ _, HAL.out⟩
theorem MapV.lookP {w : World} {d : Nat} {D : List (Int × Value)} (h : MapV w d D) (i : Int) :
    (Instr.lookup PgMapT (.map (some d)) (.int .i64 i) true).run Tryz.prog w = .ok (.tuple #[(Sp.lookD D i).getD (.agg pgZ0), .bool (Sp.lookD D i).isSome]) w :=
  MapV.look Tryz.underlying97 h i (zeroPage w) true
set_option maxRecDepth 100000 in
set_option maxHeartbeats 1600000 in
theorem stoRead2 (M : Nat → Prop) (t f m d : Nat) (fv : Value) (V : List Txt) (s : Sp.Sto) (i : Int) (w : World) (hs : StAt w M t f m d fv V s) (hn : V.length ≤ 400) (h2 : 2 ≤ i) (h4 : i < s.most) (hm : s.most ≤ 400) (hno : Sp.lookD s.d i = none) :
    Calls Tryz.prog 28 #[.pointer (some ⟨t, 0, none⟩), .int .i64 i] w fun e w' => ∃ r, e = .returned (.tuple #[.agg (pageV (s.read V i).1 r).toArray, erO (s.read V i).2]) ∧ PageRd w' (LowB w) (s.read V i).1 r ∧ Below w.heap.size w w' := by
  have hal : Below w.heap.size w (w.alloc (.cells pgZ0 PageT)) := (Below.refl _ _).alloc (Nat.le_refl _) _
  have HRD := Lib.hid (show s.read V i = Sp.readF (Sp.atV V i) from (s.read_in V i (by omega)).trans (by rw [hno]))
  have HS := Lib.hid (hs.go hal)
  obtain ⟨uf, ua, hbt, _, _⟩ := HS.out.bt
  have c0 : (w.alloc (.cells pgZ0 PageT)).cell? ⟨t, 0, none⟩ = some (.pointer (some ⟨f, 0, none⟩)) := hbt.cell 0
  have c1 : (w.alloc (.cells pgZ0 PageT)).cell? ⟨t, 1, none⟩ = some (.map (some d)) := hbt.cell 1
  have c5 : (w.alloc (.cells pgZ0 PageT)).cell? ⟨t, 5, none⟩ = some (.int .i64 s.most) := hbt.cell 5
  obtain ⟨D, hD, hP⟩ := HS.out.dm
  have hlk := hD.lookP i
  have e : Sp.lookD D i = none := by
    rcases hP.look i with ⟨_, e⟩ | ⟨p, r, e, _⟩
    · exact e
    · rw [hno] at e; cases e
  rw [e] at hlk
  simp only [Option.getD_none, Option.isSome_none] at hlk
  have HBT := Lib.hid hbt
  have HZ := Lib.hid (Blk.new w PageT pgZ0)
  have HSZ := Lib.hid (atV_sz V i hs.fa.sz)
  have HAL := Lib.hid hal
  have hlt2 : ¬ (i < 2) := by omega
  have h400 : ¬ (s.most ≤ i) := by omega
  have hd1 : d < (w.alloc (.cells pgZ0 PageT)).heap.size := hD.lt
  clear hs hal hD hP hbt e hno
  simp only [pgZ0] at *
  go_enter Tryz.func28, Tryz.ntmps28
  go_upto_region 5 with (refine wpList_new PageT _ _ rfl rfl rfl rfl rfl rfl _ rfl (of_decide_eq_true (by kernel_rfl)) (by kernel_rfl) (by kernel_rfl) (by kernel_rfl) ?_)
  have hal2 : Below (w.alloc (.cells pgZ0 PageT)).heap.size (w.alloc (.cells pgZ0 PageT)) ((w.alloc (.cells pgZ0 PageT)).alloc (.cells pgZ0 PageT)) := (Below.refl _ _).alloc (Nat.le_refl _) _
  have HS2 := Lib.hid (HS.out.go hal2)
  have HZ2 := Lib.hid (HZ.out.below hal2 HZ.out.lt)
  have HAL2 := Lib.hid (HAL.out.trans (hal2.mono HAL.out.size))
  have e0 := (HBT.out.below hal2 HBT.out.lt).cell 0
  simp at e0
  clear c0 c1 c5 hlk HS HZ HAL hal2 hd1 HBT
  simp only [pgZ0] at *
  generalize ((w.alloc (.cells _ PageT)).alloc (.cells _ PageT)) = W2 at *
  go_wp2_with (first
    | (go_at_call 68; refine (fileRead_any f m fv V i _ HS2.out.fa (by omega)).mono ?_; rintro e w2 ⟨rfl, rfl⟩)
    | (go_at_call 67; refine (read_any (Sp.atV V i) _ HSZ.out).mono ?_; rintro e w3 ⟨r, rfl, hr, hb3⟩; rw [readV_is])
    | (refine wpList_store_row rfl PageT _ _ rfl w.heap.size _ rfl rfl PageT _ (HZ2.out.below hb3 HZ2.out.lt) (by kernel_rfl) rfl (pageV_all0 (readPg (Sp.atV V i)) r) ?_))
  obtain ⟨⟨z0, z1, z2, z3, z4, z5, z6, z7, z8, z9, z10, z11, z12, z13⟩, _⟩ := ((HZ2.out.below hb3 HZ2.out.lt).row (ds := #[.int .i64 (readPg (Sp.atV V i)).kind, .slice r.I (readPg (Sp.atV V i)).items.length r.i, .slice r.K (readPg (Sp.atV V i)).keys.length r.k, .slice r.D (readPg (Sp.atV V i)).kids.length r.d, .string ⟨(readPg (Sp.atV V i)).text.toArray⟩, .slice r.V (readPg (Sp.atV V i)).vals.length r.v, .slice r.F (readPg (Sp.atV V i)).free.length r.f, .int .i64 (readPg (Sp.atV V i)).next, .int .u64 (readPg (Sp.atV V i)).mt.txn, .int .i64 (readPg (Sp.atV V i)).mt.main.page, .int .i64 (readPg (Sp.atV V i)).mt.main.count, .int .i64 (readPg (Sp.atV V i)).mt.main.flags, .int .i64 (readPg (Sp.atV V i)).mt.free, .int .i64 (readPg (Sp.atV V i)).mt.last])).at14
  have hge : w.heap.size ≤ W2.heap.size := HAL2.out.size
  have hb4 : Below w.heap.size w (w3.setRow w.heap.size (pageV (readPg (Sp.atV V i)) r).toArray) := below_setRow (HAL2.out.trans (hb3.mono hge)) (Nat.le_refl _) _
  refine bodyPost_ret (v := .tuple #[.agg (pageV (readPg (Sp.atV V i)) r).toArray, readE (Sp.atV V i)]) (by simp [results, Tryz.results28, go_sem, pageV, mtV, z0, z1, z2, z3, z4, z5, z6, z7, z8, z9, z10, z11, z12, z13]) rfl ⟨r, by rw [HRD.out, readF_1, readF_2], ?_, hb4⟩
  rw [HRD.out, readF_1]
  have hz2 : w.heap.size < W2.heap.size := HZ2.out.lt
  have h1 := hr (fun k => k ≤ w.heap.size) (fun k hk h => by
    have h : k ≤ w.heap.size := h
    omega)
  exact (h1.chg ((chg_setRow0 w3 w.heap.size _).mono (fun k _ h => by
    have h : k = w.heap.size := h
    show k ≤ w.heap.size
    omega))).anti (fun k h => Nat.le_of_lt h)
set_option maxRecDepth 100000 in
set_option maxHeartbeats 1600000 in
theorem stoRead3 (M : Nat → Prop) (t f m d : Nat) (fv : Value) (V : List Txt) (s : Sp.Sto) (i : Int) (p : Sp.Page) (w : World) (hs : StAt w M t f m d fv V s) (h2 : 2 ≤ i) (h4 : i < s.most) (hm : s.most ≤ 400) (hno : Sp.lookD s.d i = some p) :
    Calls Tryz.prog 28 #[.pointer (some ⟨t, 0, none⟩), .int .i64 i] w fun e w' => ∃ r, e = .returned (.tuple #[.agg (pageV (s.read V i).1 r).toArray, erO (s.read V i).2]) ∧ PageRd w' (LowB w) (s.read V i).1 r ∧ Below w.heap.size w w' := by
  have hal : Below w.heap.size w (w.alloc (.cells pgZ0 PageT)) := (Below.refl _ _).alloc (Nat.le_refl _) _
  have HRD := Lib.hid (show s.read V i = (if p.kind = 0 then (Sp.pg0, some 12) else (p, none) : Sp.Page × Option Int) from (s.read_in V i (by omega)).trans (by rw [hno]))
  have HS := Lib.hid (hs.go hal)
  obtain ⟨uf, ua, hbt, _, _⟩ := HS.out.bt
  have c0 : (w.alloc (.cells pgZ0 PageT)).cell? ⟨t, 0, none⟩ = some (.pointer (some ⟨f, 0, none⟩)) := hbt.cell 0
  have c1 : (w.alloc (.cells pgZ0 PageT)).cell? ⟨t, 1, none⟩ = some (.map (some d)) := hbt.cell 1
  have c5 : (w.alloc (.cells pgZ0 PageT)).cell? ⟨t, 5, none⟩ = some (.int .i64 s.most) := hbt.cell 5
  obtain ⟨D, hD, hP⟩ := HS.out.dm
  have hlk := hD.lookP i
  obtain ⟨r, e, hpr, hsm⟩ : ∃ r, Sp.lookD D i = some (.agg (pageV p r).toArray) ∧ PageRd (w.alloc (.cells pgZ0 PageT)) M p r ∧ p.Small := by
    rcases hP.look i with ⟨e, _⟩ | ⟨q, r, e, h1, h2, h3⟩
    · rw [hno] at e; cases e
    · rw [hno] at e
      injection e with e
      subst e
      exact ⟨r, h1, h2, h3⟩
  rw [e] at hlk
  simp only [Option.getD_some, Option.isSome_some] at hlk
  have HBT := Lib.hid hbt
  have HZ := Lib.hid (Blk.new w PageT pgZ0)
  have HAL := Lib.hid hal
  have HPR := Lib.hid hpr
  have HSM := Lib.hid hsm
  have hlt2 : ¬ (i < 2) := by omega
  have h400 : ¬ (s.most ≤ i) := by omega
  have hd1 : d < (w.alloc (.cells pgZ0 PageT)).heap.size := hD.lt
  clear hs hal hD hP hbt e hno hpr hsm
  simp only [pgZ0, pageV, mtV, List.cons_append, List.nil_append] at hlk c0 c1 c5 hd1
  go_enter Tryz.func28, Tryz.ntmps28
  go_upto_region 4 with (refine wpList_new PageT _ _ rfl rfl rfl rfl rfl rfl _ rfl (of_decide_eq_true (by kernel_rfl)) (by kernel_rfl) (by kernel_rfl) (by kernel_rfl) ?_)
  have hal2 : Below (w.alloc (.cells pgZ0 PageT)).heap.size (w.alloc (.cells pgZ0 PageT)) ((w.alloc (.cells pgZ0 PageT)).alloc (.cells (pageV p r).toArray PageT)) := (Below.refl _ _).alloc (Nat.le_refl _) _
  have HZ2 := Lib.hid (HZ.out.below hal2 HZ.out.lt)
  have HAL2 := Lib.hid (HAL.out.trans (hal2.mono HAL.out.size))
  have HP2 := Lib.hid (show Blk ((w.alloc (.cells pgZ0 PageT)).alloc (.cells (pageV p r).toArray PageT)) (w.heap.size + 1) PageT (pageV p r).toArray from by
    have := Blk.new (w.alloc (.cells pgZ0 PageT)) PageT (pageV p r).toArray
    rwa [World.size_alloc] at this)
  have HPR2 := Lib.hid (HPR.out.go hal2)
  clear c0 c1 c5 hlk HS HZ HAL hal2 hd1 HBT HPR
  simp only [pgZ0, pageV, mtV, List.cons_append, List.nil_append] at HZ2 HAL2 HP2 HPR2
  generalize ((w.alloc (.cells _ PageT)).alloc (.cells _ PageT)) = W2 at *
  by_cases hk : p.kind = 0
  · have c0 : W2.cell? ⟨w.heap.size + 1, 0, none⟩ = some (.int .i64 0) := by have := HP2.out.cell 0; rw [hk] at this; exact this
    have HR := Lib.hid (HRD.out.trans (if_pos hk))
    clear hk
    go_wp2_with (refine wpList_store_row rfl PageT _ _ rfl w.heap.size _ rfl rfl PageT _ HZ2.out (by kernel_rfl) rfl (by kernel_rfl) ?_)
    obtain ⟨⟨z0, z1, z2, z3, z4, z5, z6, z7, z8, z9, z10, z11, z12, z13⟩, _⟩ := (HZ2.out.row (ds := #[.int .i64 0, .slice none 0 0, .slice none 0 0, .slice none 0 0, .string ⟨#[]⟩, .slice none 0 0, .slice none 0 0, .int .i64 0, .int .u64 0, .int .i64 0, .int .i64 0, .int .i64 0, .int .i64 0, .int .i64 0])).at14
    refine bodyPost_ret (v := .tuple #[.agg (pageV Sp.pg0 refs0).toArray, erO (some 12)]) (by simp [results, Tryz.results28, go_sem, pageV, mtV, Sp.pg0, Sp.mt0, Sp.root0, refs0, erO, z0, z1, z2, z3, z4, z5, z6, z7, z8, z9, z10, z11, z12, z13]) rfl ⟨refs0, by rw [HR.out], by rw [HR.out]; exact pageRd0 _ _ _, below_setRow HAL2.out (Nat.le_refl _) _⟩
  · have c0 : W2.cell? ⟨w.heap.size + 1, 0, none⟩ = some (.int .i64 p.kind) := HP2.out.cell 0
    have hk2 : (p.kind == 0) = false := by simpa using hk
    have HR := Lib.hid (HRD.out.trans (if_neg hk))
    have HK := Lib.hid hk
    clear hk
    go_wp2_with (first
      | (refine wpList_row PageT _ rfl (w.heap.size + 1) rfl rfl PageT _ (0, 0) _ HP2.out Tryz.underlying59 rfl rfl ?_)
      | (go_at_call 69; refine (copied_any p r _ HPR2.out HSM.out).mono ?_; rintro e w3 ⟨rc, rfl, hr, hb3⟩)
      | (refine wpList_store_row rfl PageT _ _ rfl w.heap.size _ rfl rfl PageT _ (HZ2.out.below hb3 HZ2.out.lt) (by kernel_rfl) rfl (pageV_all0 p rc) ?_))
    obtain ⟨⟨z0, z1, z2, z3, z4, z5, z6, z7, z8, z9, z10, z11, z12, z13⟩, _⟩ := ((HZ2.out.below hb3 HZ2.out.lt).row (ds := #[.int .i64 p.kind, .slice rc.I p.items.length rc.i, .slice rc.K p.keys.length rc.k, .slice rc.D p.kids.length rc.d, .string ⟨p.text.toArray⟩, .slice rc.V p.vals.length rc.v, .slice rc.F p.free.length rc.f, .int .i64 p.next, .int .u64 p.mt.txn, .int .i64 p.mt.main.page, .int .i64 p.mt.main.count, .int .i64 p.mt.main.flags, .int .i64 p.mt.free, .int .i64 p.mt.last])).at14
    have hge : w.heap.size ≤ W2.heap.size := HAL2.out.size
    have hb4 : Below w.heap.size w (w3.setRow w.heap.size (pageV p rc).toArray) := below_setRow (HAL2.out.trans (hb3.mono hge)) (Nat.le_refl _) _
    refine bodyPost_ret (v := .tuple #[.agg (pageV p rc).toArray, erO none]) (by simp [results, Tryz.results28, go_sem, pageV, mtV, erO, z0, z1, z2, z3, z4, z5, z6, z7, z8, z9, z10, z11, z12, z13]) rfl ⟨rc, by rw [HR.out], ?_, hb4⟩
    rw [HR.out]
    have hz2 : w.heap.size < W2.heap.size := HZ2.out.lt
    have h1 := hr.anti (M' := fun k => k ≤ w.heap.size) (fun k h => by
      have h : k ≤ w.heap.size := h
      omega)
    exact (h1.chg ((chg_setRow0 w3 w.heap.size _).mono (fun k _ h => by
      have h : k = w.heap.size := h
      show k ≤ w.heap.size
      omega))).anti (fun k h => Nat.le_of_lt h)
theorem stoRead_any (M : Nat → Prop) (t f m d : Nat) (fv : Value) (V : List Txt) (s : Sp.Sto) (i : Int) (w : World) (hs : StAt w M t f m d fv V s) (hok : s.Ok) (hn : V.length ≤ 400) :
    Calls Tryz.prog 28 #[.pointer (some ⟨t, 0, none⟩), .int .i64 i] w fun e w' => ∃ r, e = .returned (.tuple #[.agg (pageV (s.read V i).1 r).toArray, erO (s.read V i).2]) ∧ PageRd w' (LowB w) (s.read V i).1 r ∧ Below w.heap.size w w' := by
  by_cases hr : i < 2 ∨ s.most ≤ i
  · exact stoRead1 M t f m d fv V s i w hs hr
  · rcases hq : Sp.lookD s.d i with _ | p
    · exact stoRead2 M t f m d fv V s i w hs hn (by omega) (by omega) hok.most.2 hq
    · exact stoRead3 M t f m d fv V s i p w hs (by omega) (by omega) hok.most.2 hq
end Go.Proofs.YtlpmjeiogdlifaaGreat
namespace Go.Proofs.YtlpmjeiogdlifaaGreat
open Go.RowKit
attribute [local go_sem low] mk_extract
attribute [local go_sem] After.cell After.frozen mk_extract_end ByteArray.mk_append_mk
open Go.Conc
theorem Sp.Sto.set_yes (s : Sp.Sto) (i : Int) (p q : Sp.Page) (h : Sp.lookD s.d i = some q) (hp : Sp.isPage p = true) : s.set_ i p = (none, { s with d := Sp.putD s.d i p }) := by
  unfold Sp.Sto.set_
  rw [if_pos]
  exact ⟨by rw [h]; rfl, hp⟩
theorem StAt.look {w : World} {M : Nat → Prop} {t f m d : Nat} {fv : Value} {V : List Txt} {s : Sp.Sto} (h : StAt w M t f m d fv V s) (i : Int) :
    (Sp.lookD s.d i = none ∧ (Instr.lookup PgMapT (.map (some d)) (.int .i64 i) true).run Tryz.prog w = .ok (.tuple #[.agg pgZ0, .bool false]) w) ∨
    ∃ q r, Sp.lookD s.d i = some q ∧ (Instr.lookup PgMapT (.map (some d)) (.int .i64 i) true).run Tryz.prog w = .ok (.tuple #[.agg (pageV q r).toArray, .bool true]) w := by
  obtain ⟨D, hD, hP⟩ := h.dm
  have hlk := hD.lookP i
  rcases hP.look i with ⟨e1, e2⟩ | ⟨q, r, e1, e2, _⟩
  · rw [e2] at hlk
    exact .inl ⟨e1, hlk⟩
  · rw [e2] at hlk
    exact .inr ⟨q, r, e1, hlk⟩
theorem StAt.c1 {w : World} {M : Nat → Prop} {t f m d : Nat} {fv : Value} {V : List Txt} {s : Sp.Sto} (h : StAt w M t f m d fv V s) : w.cell? ⟨t, 1, none⟩ = some (.map (some d)) := by
  obtain ⟨uf, ua, hb, _, _⟩ := h.bt
  exact hb.cell 1
end Go.Proofs.YtlpmjeiogdlifaaGreat
namespace Go.Proofs.YtlpmjeiogdlifaaGreat
open Go.RowKit
attribute [local go_sem low] mk_extract
attribute [local go_sem] After.cell After.frozen mk_extract_end ByteArray.mk_append_mk
end Go.Proofs.YtlpmjeiogdlifaaGreat
namespace Go.Proofs.YtlpmjeiogdlifaaGreat
open Go.RowKit
attribute [local go_sem low] mk_extract
attribute [local go_sem] After.cell After.frozen mk_extract_end ByteArray.mk_append_mk
theorem Sp.Sto.drop_made (s : Sp.Sto) (i : Int) (q : Sp.Page) (h : Sp.lookD s.d i = some q) : s.drop i = { s with d := Sp.delD s.d i, avail := Sp.insI i s.avail } := by
  unfold Sp.Sto.drop
  rw [if_pos (by rw [h]; rfl)]
theorem Sp.Sto.drop_else (s : Sp.Sto) (i : Int) (h : Sp.lookD s.d i = none) : s.drop i = if 2 ≤ i ∧ i < s.last ∧ i ∉ s.avail then { s with freed := Sp.insI i s.freed } else s := by
  unfold Sp.Sto.drop
  rw [if_neg (by rw [h]; simp)]
end Go.Proofs.YtlpmjeiogdlifaaGreat
namespace Go.Proofs.YtlpmjeiogdlifaaGreat
open Go.RowKit
attribute [local go_sem low] mk_extract
attribute [local go_sem] After.cell After.frozen mk_extract_end ByteArray.mk_append_mk
namespace Sp
theorem Sto.Ok.put {s : Sto} (h : s.Ok) {i : Int} (p : Page) (hi : 2 ≤ i ∧ i < 400) (hc : (lookD s.d i).isSome = true ∨ s.d.length < 120) : ({ s with d := putD s.d i p } : Sto).Ok :=
  { h with
    nodup := putD_nodup h.nodup
    keys := fun x hx => by
      rcases putD_mem hx with rfl | hx
      · exact hi
      · exact h.keys x hx
    cnt := by
      rcases hc with hc | hc
      · show (putD s.d i p).length ≤ 120
        rw [putD_has hc]; exact h.cnt
      · have := putD_len s.d i p
        show (putD s.d i p).length ≤ 120
        omega }
theorem Sto.Ok.add {s : Sto} (h : s.Ok) (p : Page) : (s.add p).2.Ok := by
  rcases hp : isPage p with _ | _
  · rw [s.add_no p hp]; exact h
  · rw [s.add_yes p hp]
    obtain ⟨h1, h2, _, _, h3⟩ := h.numbers (n := 1) (by omega)
    generalize s.numbers 1 = r at *
    obtain ⟨⟨id, e⟩, s'⟩ := r
    rcases e with _ | k
    · obtain ⟨h4, h5, h6⟩ := h3 rfl
      dsimp only at h1 h2 h4 h5 h6 ⊢
      exact h1.put p ⟨h4, by omega⟩ (.inr (by rw [h2]; omega))
    · exact h1
theorem Sto.Ok.set_ {s : Sto} (h : s.Ok) (i : Int) (p : Page) : (s.set_ i p).2.Ok := by
  unfold Sto.set_
  split
  · rename_i hc
    obtain ⟨q, hq⟩ := Option.isSome_iff_exists.1 hc.1
    exact h.put p (h.keys _ (lookD_mem hq)) (.inl hc.1)
  · exact h
theorem Sto.Ok.drop {s : Sto} (h : s.Ok) (i : Int) : (s.drop i).Ok := by
  rcases hl : lookD s.d i with _ | q
  · rw [s.drop_else i hl]
    split
    · rename_i hc
      have := h.last
      exact { h with freed := h.freed.ins hc.1 (by omega) }
    · exact h
  · rw [s.drop_made i q hl]
    have hi := h.keys _ (lookD_mem hl)
    exact { h with
      avail := h.avail.ins hi.1 hi.2
      nodup := delD_nodup h.nodup
      keys := fun x hx => h.keys x (List.mem_filter.1 hx).1
      cnt := Nat.le_trans (List.length_filter_le _ _) h.cnt }
theorem Sto.touch_made (s : Sto) (V : List Txt) (i : Int) (q : Page) (h : lookD s.d i = some q) : s.touch V i = ((i, none), s) := by
  unfold Sto.touch
  rw [if_pos (by rw [h]; rfl)]
theorem Sto.touch_else (s : Sto) (V : List Txt) (i : Int) (h : lookD s.d i = none) : s.touch V i = (match s.read V i with
    | (_, some e) => ((0, some e), s)
    | (p, none) => match s.add p with
      | ((n, none), s') => ((n, none), s'.drop i)
      | ((n, some e), s') => ((n, some e), s') : (Int × Option Int) × Sto) := by
  unfold Sto.touch
  rw [if_neg (by rw [h]; simp)]
  rfl
theorem Sto.Ok.touch {s : Sto} (h : s.Ok) (V : List Txt) (i : Int) : (s.touch V i).2.Ok := by
  rcases hl : lookD s.d i with _ | q
  · rw [s.touch_else V i hl]
    generalize s.read V i = r
    obtain ⟨p, e⟩ := r
    rcases e with _ | k
    · have h1 := h.add p
      dsimp only
      generalize s.add p = a at *
      obtain ⟨⟨n, e⟩, s'⟩ := a
      rcases e with _ | k
      · exact h1.drop i
      · exact h1
    · exact h
  · rw [s.touch_made V i q hl]; exact h
theorem runD_ok (id : Int) : ∀ (k : Nat) {s : Sto}, s.Ok → (∀ j : Nat, j < k → 2 ≤ id + j ∧ id + j < 400) → s.d.length + k ≤ 120 → ({ s with d := runD s.d id k } : Sto).Ok ∧ (runD s.d id k).length ≤ s.d.length + k
  | 0, s, h, _, _ => ⟨h, Nat.le_refl _⟩
  | k + 1, s, h, hr, hc => by
    obtain ⟨h1, h2⟩ := runD_ok id k h (fun j hj => hr j (by omega)) (by omega)
    have h3 := h1.put (i := id + k) pg0 (hr k (by omega)) (.inr (by show (runD s.d id k).length < 120; omega))
    refine ⟨h3, ?_⟩
    have := putD_len (runD s.d id k) (id + k) pg0
    show (putD (runD s.d id k) (id + k) pg0).length ≤ _
    omega
theorem Sto.run_mid (s : Sto) (n : Int) (h1 : 1 ≤ n) (h2 : n ≤ 120) : s.run n = (match s.numbers n with
    | ((id, none), s') => ((id, none), { s' with d := runD s'.d id n.toNat })
    | ((_, some e), s') => ((0, some e), s') : (Int × Option Int) × Sto) := by
  unfold Sto.run
  rw [if_neg (by omega), if_neg (by omega)]
  rfl
theorem Sto.Ok.run {s : Sto} (h : s.Ok) (n : Int) : (s.run n).2.Ok := by
  by_cases h1 : n < 1
  · unfold Sto.run; rw [if_pos h1]; exact h
  by_cases h2 : 120 < n
  · unfold Sto.run; rw [if_neg h1, if_pos h2]; exact h
  rw [s.run_mid n (by omega) (by omega)]
  obtain ⟨g1, g2, _, _, g3⟩ := h.numbers (n := n) (by omega)
  generalize s.numbers n = r at *
  obtain ⟨⟨id, e⟩, s'⟩ := r
  rcases e with _ | k
  · obtain ⟨h4, h5, h6⟩ := g3 rfl
    dsimp only at g1 g2 h4 h5 h6 ⊢
    exact (runD_ok id n.toNat g1 (fun j hj => by omega) (by rw [g2]; omega)).1
  · exact g1
end Sp
end Go.Proofs.YtlpmjeiogdlifaaGreat
namespace Go.Proofs.YtlpmjeiogdlifaaGreat
open Go.RowKit
attribute [local go_sem low] mk_extract
attribute [local go_sem] After.cell After.frozen mk_extract_end ByteArray.mk_append_mk
theorem pv14 (p : Sp.Page) (r : Refs) : (pageV p r).toArray = #[.int .i64 p.kind, .slice r.I p.items.length r.i, .slice r.K p.keys.length r.k, .slice r.D p.kids.length r.d, .string ⟨p.text.toArray⟩, .slice r.V p.vals.length r.v, .slice r.F p.free.length r.f, .int .i64 p.next, .int .u64 p.mt.txn, .int .i64 p.mt.main.page, .int .i64 p.mt.main.count, .int .i64 p.mt.main.flags, .int .i64 p.mt.free, .int .i64 p.mt.last] := rfl
end Go.Proofs.YtlpmjeiogdlifaaGreat
namespace Go.Proofs.YtlpmjeiogdlifaaGreat
open Go.RowKit
attribute [local go_sem low] mk_extract
attribute [local go_sem] After.cell After.frozen mk_extract_end ByteArray.mk_append_mk
structure RunS (w : World) (M : Nat → Prop) (t f m d : Nat) (fv : Value) (V : List Txt) (s : Sp.Sto) (id : Int) (k : Nat) (W : World) : Prop where
  st : StAt W M t f m d fv V { s with d := Sp.runD s.d id k }
  ck : Chg (TwoM t d) w W
end Go.Proofs.YtlpmjeiogdlifaaGreat
namespace Go.Proofs.YtlpmjeiogdlifaaGreat
open Go.RowKit
attribute [local go_sem low] mk_extract
attribute [local go_sem] After.cell After.frozen mk_extract_end ByteArray.mk_append_mk
open Go.Sort Go.Maps
def renSort : Go.Shelf.Ren := ⟨fun | 189 => 97 | 125 => 157 | 257 => 156 | 128 => 207 | 129 => 208 | 294 => 199 | 295 => 200 | 296 => 201 | 297 => 202 | 298 => 203 | 299 => 204 | 216 => 151 | 300 => 205 | 301 => 206 | 328 => 236 | 329 => 237 | 330 => 238 | 331 => 239 | 332 => 240 | 215 => 197 | 343 => 257 | n => n, fun | 28 => 32 | 3 => 3 | 46 => 170 | 0 => 0 | 51 => 259 | 53 => 55 | 4 => 4 | 183 => 253 | 182 => 252 | 131 => 159 | 5 => 5 | 9 => 9 | 218 => 275 | 222 => 278 | 228 => 292 | 229 => 91 | n => n, fun | n => n⟩
theorem laySort : Lays.n189 Tryz.prog renSort := {
  mixed := by kernel_rfl
  f125 := Tryz.func157.trans (congrArg some (by kernel_rfl))
  f128 := Tryz.func207.trans (congrArg some (by kernel_rfl))
  f129 := Tryz.func208.trans (congrArg some (by kernel_rfl))
  f189 := Tryz.func97.trans (congrArg some (by kernel_rfl))
  f215 := Tryz.func197.trans (congrArg some (by kernel_rfl))
  f216 := Tryz.func151.trans (congrArg some (by kernel_rfl))
  f257 := Tryz.func156.trans (congrArg some (by kernel_rfl))
  f294 := Tryz.func199.trans (congrArg some (by kernel_rfl))
  f295 := Tryz.func200.trans (congrArg some (by kernel_rfl))
  f296 := Tryz.func201.trans (congrArg some (by kernel_rfl))
  f297 := Tryz.func202.trans (congrArg some (by kernel_rfl))
  f298 := Tryz.func203.trans (congrArg some (by kernel_rfl))
  f299 := Tryz.func204.trans (congrArg some (by kernel_rfl))
  f300 := Tryz.func205.trans (congrArg some (by kernel_rfl))
  f301 := Tryz.func206.trans (congrArg some (by kernel_rfl))
  f328 := Tryz.func236.trans (congrArg some (by kernel_rfl))
  f329 := Tryz.func237.trans (congrArg some (by kernel_rfl))
  f330 := Tryz.func238.trans (congrArg some (by kernel_rfl))
  f331 := Tryz.func239.trans (congrArg some (by kernel_rfl))
  f332 := Tryz.func240.trans (congrArg some (by kernel_rfl))
  f343 := Tryz.func257.trans (congrArg some (by kernel_rfl))
  t0 := Tryz.underlying0
  a0 := Tryz.isAgg0
  z0 := Tryz.sizeOf0
  v0 := Tryz.zeroValue0
  t3 := Tryz.underlying3
  a3 := Tryz.isAgg3
  z3 := Tryz.sizeOf3
  v3 := Tryz.zeroValue3
  t4 := Tryz.underlying4
  a4 := Tryz.isAgg4
  z4 := Tryz.sizeOf4
  v4 := Tryz.zeroValue4
  t5 := Tryz.underlying5
  a5 := Tryz.isAgg5
  z5 := Tryz.sizeOf5
  v5 := Tryz.zeroValue5
  t9 := Tryz.underlying9
  a9 := Tryz.isAgg9
  z9 := Tryz.sizeOf9
  v9 := Tryz.zeroValue9
  t28 := Tryz.underlying32
  a28 := Tryz.isAgg32
  z28 := Tryz.sizeOf32
  v28 := Tryz.zeroValue32
  t46 := Tryz.underlying170
  a46 := Tryz.isAgg170
  z46 := Tryz.sizeOf170
  v46 := Tryz.zeroValue170
  t51 := Tryz.underlying259
  a51 := Tryz.isAgg259
  z51 := Tryz.sizeOf259
  v51 := Tryz.zeroValue259
  t53 := Tryz.underlying55
  a53 := Tryz.isAgg55
  z53 := Tryz.sizeOf55
  v53 := Tryz.zeroValue55
  t131 := Tryz.underlying159
  a131 := Tryz.isAgg159
  z131 := Tryz.sizeOf159
  v131 := Tryz.zeroValue159
  t182 := Tryz.underlying252
  a182 := Tryz.isAgg252
  z182 := Tryz.sizeOf252
  v182 := Tryz.zeroValue252
  t183 := Tryz.underlying253
  a183 := Tryz.isAgg253
  z183 := Tryz.sizeOf253
  v183 := Tryz.zeroValue253
  t218 := Tryz.underlying275
  a218 := Tryz.isAgg275
  z218 := Tryz.sizeOf275
  v218 := Tryz.zeroValue275
  t222 := Tryz.underlying278
  a222 := Tryz.isAgg278
  z222 := Tryz.sizeOf278
  v222 := Tryz.zeroValue278
  t228 := Tryz.underlying292
  a228 := Tryz.isAgg292
  z228 := Tryz.sizeOf292
  v228 := Tryz.zeroValue292
  t229 := Tryz.underlying91
  a229 := Tryz.isAgg91
  z229 := Tryz.sizeOf91
  v229 := Tryz.zeroValue91 }
def renKeys : Go.Shelf.Ren := ⟨fun | 7 => 71 | 10 => 127 | n => n, fun | 0 => 0 | 3 => 59 | 4 => 4 | 23 => 97 | 26 => 3 | 27 => 133 | 28 => 134 | 33 => 167 | n => n, fun | n => n⟩
def renSorted : Go.Shelf.Ren := ⟨fun | 6 => 70 | 8 => 126 | 9 => 97 | 11 => 186 | n => n, fun | 0 => 0 | 24 => 32 | 26 => 3 | 28 => 134 | 33 => 167 | n => n, fun | n => n⟩
theorem sortI_any (blk off cap : Nat) (zs : List Int) (w : World) (hH : Holds (Value.int .i64) w blk off zs.toArray) (hblk : blk < w.heap.size) (hsz : zs.length < 4611686018427387904) :
    Calls Tryz.prog 97 #[.slice (some ⟨blk, off, none⟩) zs.length cap] w fun e w' =>
      e = .returned (.tuple #[]) ∧ ∃ n os, w' = grow (putRow (Value.int .i64) (Sort.ahead w n) blk off (zs.mergeSort fun x y => decide (x ≤ y)).toArray) os := Any.slices_Sort_int laySort blk off cap zs w hH hblk hsz
end Go.Proofs.YtlpmjeiogdlifaaGreat
namespace Go.Proofs.YtlpmjeiogdlifaaGreat
open Go.RowKit
attribute [local go_sem low] mk_extract
attribute [local go_sem] After.cell After.frozen mk_extract_end ByteArray.mk_append_mk
open Go.Sort Go.Maps
namespace Sp
def Sto.dirty (s : Sto) : List Int := (s.d.map (·.1)).mergeSort fun x y => decide (x ≤ y)
end Sp
def blindR (_ : Value) : Option (DataW Unit × List MemPlace) := some (.lit (.bool true), [])
end Go.Proofs.YtlpmjeiogdlifaaGreat
namespace Go.Proofs.YtlpmjeiogdlifaaGreat
open Go.RowKit
attribute [local go_sem low] mk_extract
attribute [local go_sem] After.cell After.frozen mk_extract_end ByteArray.mk_append_mk
namespace Sp
def newStep (b : Int) (a : List Int) (n : Int) : List Int := if 2 ≤ n ∧ n < b then insI n a else a
def Sto.new (last most : Int) (L : List Int) : Sto :=
  { d := [], freed := [], avail := L.foldl (newStep (min (min (max last 2) 400) (min (max most 2) 400))) [], last := min (max last 2) 400, most := min (max most 2) 400 }
theorem newStep_rise {b n : Int} {a : List Int} (h : Rise a) (hb : b ≤ 400) : Rise (newStep b a n) := by
  unfold newStep
  split
  · rename_i hc
    exact h.ins hc.1 (by omega)
  · exact h
theorem foldl_rise {b : Int} (hb : b ≤ 400) : ∀ (L : List Int) {a : List Int}, Rise a → Rise (L.foldl (newStep b) a)
  | [], _, h => h
  | x :: L, a, h => by
    rw [List.foldl_cons]
    exact foldl_rise hb L (newStep_rise h hb)
theorem Sto.new_ok (last most : Int) (L : List Int) : (Sto.new last most L).Ok where
  last := by show 2 ≤ min (max last 2) 400 ∧ min (max last 2) 400 ≤ 400; omega
  most := by show 2 ≤ min (max most 2) 400 ∧ min (max most 2) 400 ≤ 400; omega
  avail := foldl_rise (by omega) L Rise.nil
  freed := Rise.nil
  nodup := List.nodup_nil
  keys := fun x h => by cases h
  cnt := Nat.zero_le _
end Sp
section
variable (M : Nat → Prop) (t f m d : Nat) (fv : Value) (V : List Txt) (s : Sp.Sto) (w : World) (h : StAt w M t f m d fv V s)
include h
end
structure NwS (w : World) (M : Nat → Prop) (t f m d : Nat) (fv : Value) (V : List Txt) (a b : Int) (L : List Int) (W : World) : Prop where
  st : StAt W M t f m d fv V { d := [], freed := [], avail := L, last := a, most := b }
  hb : Below w.heap.size w W
set_option maxRecDepth 100000 in
set_option maxHeartbeats 1600000 in
theorem stoNew_any (f m : Nat) (fv : Value) (V : List Txt) (last most : Int) (u : Value) (L : List Int) (w : World) (hf : FileAt w f fv m V) (hu : IV w u L) :
    Calls Tryz.prog 17 #[.pointer (some ⟨f, 0, none⟩), .int .i64 last, .int .i64 most, u] w fun e w' => ∃ t d M, e = .returned (.pointer (some ⟨t, 0, none⟩)) ∧ StAt w' M t f m d fv V (Sp.Sto.new last most L) ∧ (∀ k, k < w.heap.size → M k) ∧ Below w.heap.size w w' ∧ w.heap.size ≤ t ∧ w.heap.size ≤ d := by
  have HF := Lib.hid hf
  have HU := Lib.hid hu
  have HNE := Lib.hid (show Sp.Sto.new last most L = { d := [], freed := [], avail := L.foldl (Sp.newStep (min (min (max last 2) 400) (min (max most 2) 400))) [], last := min (max last 2) 400, most := min (max most 2) 400 } from rfl)
  generalize Sp.Sto.new last most L = N at *
  obtain ⟨A, c, rfl, hA⟩ := hu.form
  have hlen := hu.len
  have hmm := @run_makeMap Tryz.prog
  have HA := Lib.hid hA
  have HML := Lib.hid hf.map.lt
  clear hf hu hA
  go_enter Tryz.func17, Tryz.ntmps17
  go_upto_region 2 with fail
  have hl : min (max last 2) 400 ≤ 400 ∧ 2 ≤ min (max last 2) 400 := by omega
  have hm : min (max most 2) 400 ≤ 400 ∧ 2 ≤ min (max most 2) 400 := by omega
  generalize min (max last 2) 400 = l at *
  generalize min (max most 2) 400 = mo at *
  refine wp_gen (fun W => ∃ M, NwS w M (w.heap.size + 1) f m w.heap.size fv V l mo [] W ∧ ∀ k, k < w.heap.size → M k) ?_ ?_
  · have hb : Below w.heap.size w ((w.alloc (.map #[] 0)).alloc (.cells #[.pointer (some ⟨f, 0, none⟩), .map (some w.heap.size), .slice none 0 0, .slice none 0 0, .int .i64 l, .int .i64 mo] StoT)) := ((Below.refl _ _).alloc (Nat.le_refl _) _).alloc (by simp) _
    have hnil : ∀ W : World, RowAt W (.slice none 0 0) [] := fun W => ⟨⟨rfl, .inl ⟨rfl, rfl⟩⟩, Sp.Rise.nil⟩
    refine ⟨LowB ((w.alloc (.map #[] 0)).alloc (.cells #[.pointer (some ⟨f, 0, none⟩), .map (some w.heap.size), .slice none 0 0, .slice none 0 0, .int .i64 l, .int .i64 mo] StoT)), ⟨⟨⟨_, _, blk_second w _ _ _, hnil _, hnil _⟩, HF.out.go hb, ⟨[], ⟨#[], 0, ?_, rfl, ?_⟩, rfl⟩, ?_, ⟨?_, ?_⟩, fun k hk => hk⟩, hb⟩, fun k hk => ?_⟩
    · have := heap_alloc_new w (.map #[] 0)
      exact (((Below.refl _ _).alloc (Nat.le_refl _) _ : Below (w.alloc (.map #[] 0)).heap.size (w.alloc (.map #[] 0)) _).block _ (by rw [World.size_alloc]; omega)).trans this
    · simp [MapKept.Stamped]
    · have := HML.out; omega
    · show _ < _
      simp
    · show _ < _
      simp
      omega
    · show k < _
      simp
      omega
  rintro w1 ⟨M, hs, hMM⟩
  have S := Lib.hid hs
  have HMM := Lib.hid hMM
  clear hs hMM HF hmm
  go_wp2_with fail
  go_loopw [24] (fun i wr => ∃ j : Nat, i = .int .i64 j ∧ j ≤ L.length ∧ NwS w M (w.heap.size + 1) f m w.heap.size fv V l mo ((L.take j).foldl (Sp.newStep (min l mo)) []) wr) (fun i _ => L.length - (intOf i).toNat)
  case atStart => exact ⟨0, rfl, Nat.zero_le _, S.out⟩
  case round =>
    obtain ⟨j, rfl, hj, hs⟩ := hrel
    replace S := Lib.hid hs
    clear hs
    by_cases hjl : j < L.length
    · obtain ⟨b, off, rfl, hc⟩ : ∃ b off, A = some ⟨b, off, none⟩ ∧ ∀ j, j < L.length → w.cell? ⟨b, off + j, none⟩ = some (.int .i64 (L.getD j 0)) := by
        rcases HA.out with ⟨_, e⟩ | h
        · rw [e] at hjl; simp at hjl
        · exact h
      have hx := (S.out.hb.cell (p := ⟨b, off + j, none⟩) (cell_lt' (hc j hjl))).trans (hc j hjl)
      have HTK := Lib.hid (show (L.take (j + 1)).foldl (Sp.newStep (min l mo)) [] = Sp.newStep (min l mo) ((L.take j).foldl (Sp.newStep (min l mo)) []) (L.getD j 0) from by
        rw [List.take_succ_eq_append_getElem hjl, List.foldl_append, List.foldl_cons, List.foldl_nil, List.getD_eq_getElem?_getD, List.getElem?_eq_getElem hjl]
        rfl)
      obtain ⟨uf, ua, hb, _, ha⟩ := S.out.st.bt
      have HT := Lib.hid hb
      have HU := Lib.hid ha
      have c3 : wr.cell? ⟨w.heap.size + 1, 3, none⟩ = some ua := hb.cell 3
      have c4 : wr.cell? ⟨w.heap.size + 1, 4, none⟩ = some (.int .i64 l) := hb.cell 4
      have c5 : wr.cell? ⟨w.heap.size + 1, 5, none⟩ = some (.int .i64 mo) := hb.cell 5
      have htw := hb.lt
      clear hb ha hc HA
      generalize (L.take j).foldl (Sp.newStep (min l mo)) [] = acc at *
      generalize L.getD j 0 = x at *
      go_upto_region 5 with fail
      by_cases h2 : 2 ≤ x
      · by_cases h4 : x < min l mo
        · have HST := Lib.hid (HTK.out.trans (if_pos ⟨h2, h4⟩))
          have hx4 : x < 400 := by omega
          go_region
          have HRI := Lib.hid HU.out.ok
          have S2 := Lib.hid (show NwS w M (w.heap.size + 1) f m w.heap.size fv V l mo acc wr.drew from ⟨S.out.st.go (Below.refl _ _).drew, below_drewN S.out.hb 1⟩)
          have HT2 := Lib.hid (show Blk wr.drew (w.heap.size + 1) StoT #[.pointer (some ⟨f, 0, none⟩), .map (some w.heap.size), uf, ua, .int .i64 l, .int .i64 mo] from HT.out)
          have HU2 := Lib.hid (HU.out.iv.go (Below.refl _ _).drew)
          have htw2 : w.heap.size + 1 < wr.drew.heap.size := htw
          have hmeas : wr.drew.heap.size = wr.heap.size := rfl
          clear c3 c4 c5 hx HT HU S htw hmeas
          generalize wr.drew = w3 at *
          have c3 : w3.cell? ⟨w.heap.size + 1, 3, none⟩ = some ua := HT2.out.cell 3
          go_wp2_with (go_at_call 45; refine (idsWith_any ua acc x w3 HU2.out HRI.out.1).mono ?_; rintro e w4 ⟨ru, rfl, ho, hb4⟩; obtain ⟨Ao, co, rfl⟩ := own_slice ho; have HO := Lib.hid ho; have HB4 := Lib.hid hb4; clear ho hb4; have c34 : w4.cell? ⟨w.heap.size + 1, 3, none⟩ = some ua := (HT2.out.below HB4.out htw2).cell 3; have f34 := (HT2.out.below HB4.out htw2).frozen 3)
          have hst := (S2.out.st.go HB4.out).avail_ (L := Sp.insI x acc) ⟨own_base HO.out (Nat.zero_le _), HRI.out.ins h2 hx4⟩
          have hb4 : Below w.heap.size w w4 := S2.out.hb.trans (HB4.out.mono (by have := S2.out.hb.size; omega))
          have hb5 : Below w.heap.size w (w4.setCell ⟨w.heap.size + 1, 3, none⟩ (.slice Ao (Sp.insI x acc).length co)) := hb4.trans ((Chg.set1 w4 (w.heap.size + 1) 3 _).below hb4.size (fun k hk e => by
            have e : k = w.heap.size + 1 := e
            omega))
          go_roundw
          case rel => exact ⟨j + 1, by go_num, by omega, by rw [HST.out]; exact ⟨hst, hb5⟩⟩
          case measure => simp [intOf]; omega
        · have HST := Lib.hid (HTK.out.trans (if_neg fun h => h4 h.2))
          go_region
          go_wp2_with fail
          go_roundw
          case rel => exact ⟨j + 1, by go_num, by omega, by rw [HST.out]; exact ⟨S.out.st.go (Below.refl _ _).drew, below_drewN S.out.hb 1⟩⟩
          case measure => simp [intOf]; omega
      · have HST := Lib.hid (HTK.out.trans (if_neg fun h => h2 h.1))
        go_region
        go_wp2_with fail
        go_roundw
        case rel => exact ⟨j + 1, by go_num, by omega, by rw [HST.out]; exact ⟨S.out.st.go (Below.refl _ _).drew, below_drewN S.out.hb 1⟩⟩
        case measure => simp [intOf]; omega
    · have hje : j = L.length := by omega
      subst hje
      have HNE2 := Lib.hid (show N = { d := [], freed := [], avail := (L.take L.length).foldl (Sp.newStep (min l mo)) [], last := l, most := mo } from by rw [List.take_length]; exact HNE.out)
      go_wp2_with fail
      go_ret
      exact ⟨w.heap.size + 1, w.heap.size, M, by simp, by rw [HNE2.out]; exact S.out.st, HMM.out, S.out.hb, by omega, Nat.le_refl _⟩
end Go.Proofs.YtlpmjeiogdlifaaGreat
