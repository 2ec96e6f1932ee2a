/- The document's item. isFree. -/
import Derived.Test.YtmcpkhknjdiocaaGreatDoorQB01
import Derived.Test.YtmcpkhknjdiocaaGreatDoorQB04
import Derived.Deep.DeepCutAuto
set_option linter.unusedSimpArgs false
set_option linter.unusedVariables false
namespace Go.Proofs.YtmcpkhknjdiocaaGreatDoor
open Go.RowKit
attribute [local go_sem low] mk_extract
attribute [local go_sem] After.cell After.frozen mk_extract_end ByteArray.mk_append_mk
namespace Sp
def fV (x : Item) : Bool := decide (x.val ≠ [])
def fL (x : Item) : Bool := decide (x.run ≠ 0) || decide (x.len ≠ 0)
def fD (x : Item) : Bool := decide (x.vals ≠ []) || decide (x.dup ≠ 0)
def fR (x : Item) : Bool := decide (x.root ≠ root0)
theorem item1 {x : Item} (h : x.kind = 1) : isItem x = (short x.key && decide (x.val.length ≤ 12) && !fL x && !fD x && !fR x) := by
  obtain ⟨key, kind, val, run, len, vals, dup, rt⟩ := x
  simp only at h
  subst h
  rw [Bool.eq_iff_iff]
  simp [isItem, sameItem, own, kindOk, fL, fD, fR]
  grind
theorem item2 {x : Item} (h : x.kind = 2) : isItem x = (short x.key && !fV x && isID x.run && decide (12 < x.len) && decide (x.len ≤ 1000) && !fD x && !fR x) := by
  obtain ⟨key, kind, val, run, len, vals, dup, rt⟩ := x
  simp only at h
  subst h
  rw [Bool.eq_iff_iff]
  simp [isItem, sameItem, own, kindOk, fV, fD, fR]
  grind
theorem item3 {x : Item} (h : x.kind = 3) : isItem x = (short x.key && !fV x && !fL x && !fR x && (decide (x.dup = 0) && isVals x.vals 1 3 || isID x.dup && decide (x.vals.length = 0))) := by
  obtain ⟨key, kind, val, run, len, vals, dup, rt⟩ := x
  simp only at h
  subst h
  rw [Bool.eq_iff_iff]
  simp [isItem, sameItem, own, kindOk, fV, fL, fR]
  grind
theorem item4 {x : Item} (h : x.kind = 4) : isItem x = (short x.key && !fV x && !fL x && !fD x && isRoot x.root) := by
  obtain ⟨key, kind, val, run, len, vals, dup, rt⟩ := x
  simp only at h
  subst h
  rw [Bool.eq_iff_iff]
  simp [isItem, sameItem, own, kindOk, fV, fL, fD]
  grind
theorem item5 {x : Item} (h1 : x.kind ≠ 1) (h2 : x.kind ≠ 2) (h3 : x.kind ≠ 3) (h4 : x.kind ≠ 4) : isItem x = false := by
  simp [isItem, kindOk, h1, h2, h3, h4]
end Sp
theorem Sp.root_eq' (a b : Sp.Root) : decide (a = b) = (a.page == b.page && (a.count == b.count && a.flags == b.flags)) := by
  obtain ⟨a1, a2, a3⟩ := a
  obtain ⟨b1, b2, b3⟩ := b
  by_cases h1 : a1 = b1 <;> by_cases h2 : a2 = b2 <;> by_cases h3 : a3 = b3 <;> simp [h1, h2, h3]
theorem eqRoot2 (m n : Sp.Root) (W : World) : (Op.equalIn 10000 47 (.agg (rootV m).toArray) (.agg (rootV n).toArray)).run Tryz.prog W = .ok (decide (m = n)) W := by
  have hS : Tryz.prog.underlying 47 = some (.struct (Tryz.prog.fieldsOf 47)) := by kernel_rfl
  have hp : Tryz.prog.stoodInHeld 47 = false := by kernel_rfl
  have u3 := Tryz.underlying3
  rw [show (10000 : Nat) = 9999 + 1 from rfl, run_equalIn_agg W 9999 47 _ _ hS hp, Sp.root_eq']
  simp only [Program.fieldsOf, Tryz.underlying47, Op.eqFields, rootV]
  go_simp
  by_cases h1 : m.page = n.page <;> by_cases h2 : m.count = n.count <;> by_cases h3 : m.flags = n.flags <;> simp [h1, h2, h3]
theorem Blk.at10i {w : World} {g : Nat} {t : TypeId} {x : Sp.Item} {V : Option Addr} {c : Nat} (h : Blk w g t (itemV x V c).toArray) :
    w.cell? ⟨g, 0, none⟩ = some (.string ⟨x.key.toArray⟩) ∧ w.cell? ⟨g, 1, none⟩ = some (.int .i64 x.kind) ∧ w.cell? ⟨g, 2, none⟩ = some (.string ⟨x.val.toArray⟩) ∧ w.cell? ⟨g, 3, none⟩ = some (.int .i64 x.run) ∧ w.cell? ⟨g, 4, none⟩ = some (.int .i64 x.len) ∧ w.cell? ⟨g, 5, none⟩ = some (.slice V x.vals.length c) ∧ w.cell? ⟨g, 6, none⟩ = some (.int .i64 x.dup) ∧ w.cell? ⟨g, 7, none⟩ = some (.int .i64 x.root.page) ∧ w.cell? ⟨g, 8, none⟩ = some (.int .i64 x.root.count) ∧ w.cell? ⟨g, 9, none⟩ = some (.int .i64 x.root.flags) :=
  ⟨h.cell 0, h.cell 1, h.cell 2, h.cell 3, h.cell 4, h.cell 5, h.cell 6, h.cell 7, h.cell 8, h.cell 9⟩
set_option maxRecDepth 100000 in
set_option maxHeartbeats 1600000 in
theorem ditem_any (x : Sp.Item) (V : Option Addr) (c : Nat) {M : Nat → Prop} (w : World) (hx : Txts w M V x.vals) :
    Calls Tryz.prog 111 #[.agg (itemV x V c).toArray] w fun e w' => e = .returned (.bool (Sp.isItem x)) ∧ Below w.heap.size w w' := by
  have Hx := Lib.hid hx
  clear hx
  have hq := fun W => eqRoot2 x.root Sp.root0 W
  simp only [rootV, Sp.root0] at hq
  have hsz : w.heap.size < w.heap.size + 1 := by omega
  simp only [itemV]
  go_enter Tryz.func111, Tryz.ntmps111
  go_upto_region 1 with fail
  go_cut [3, 4, 5, 6] (fun s3 s4 s5 s6 W => s3 = .bool (Sp.fV x) ∧ s4 = .bool (Sp.fL x) ∧ s5 = .bool (Sp.fD x) ∧ s6 = .bool (Sp.fR x) ∧ Below (w.heap.size + 1) (w.alloc (.cells (itemV x V c).toArray 83)) W)
  case first =>
    rcases Nat.eq_zero_or_pos x.vals.length with h2 | h2
    all_goals
      by_cases h1 : x.run = 0
      · refine wp_region_after (by kernel_rfl) (by kernel_rfl) (w.heap.size + 1) ?_
        repeat (go_big_quiet_step (fail))
        refine wpQuiet_nil ?_
        intro w2 hb2
        go_wp2
        go_meet
        case rel => exact ⟨congrArg Value.bool (by simp [Sp.fV]; cases x.val <;> simp), congrArg Value.bool (by unfold Sp.fL; by_cases h5 : x.len = 0 <;> simp [h1, h5]), congrArg Value.bool (by simp [Sp.fD, List.length_eq_zero_iff, bne]; grind [List.length_pos_iff, List.length_eq_zero_iff]), congrArg Value.bool (by unfold Sp.fR Sp.root0; by_cases hr : x.root = ⟨0, 0, 0⟩ <;> simp [hr]), hb2⟩
      · have e1 : (x.run != 0) = true := by simp [h1]
        refine wp_region_after (by kernel_rfl) (by kernel_rfl) (w.heap.size + 1) ?_
        repeat (go_big_quiet_step (fail))
        refine wpQuiet_nil ?_
        intro w2 hb2
        go_wp2
        go_meet
        case rel => exact ⟨congrArg Value.bool (by simp [Sp.fV]; cases x.val <;> simp), congrArg Value.bool (by unfold Sp.fL; by_cases h5 : x.len = 0 <;> simp [h1, h5]), congrArg Value.bool (by simp [Sp.fD, List.length_eq_zero_iff, bne]; grind [List.length_pos_iff, List.length_eq_zero_iff]), congrArg Value.bool (by unfold Sp.fR Sp.root0; by_cases hr : x.root = ⟨0, 0, 0⟩ <;> simp [hr]), hb2⟩
  case rest =>
    obtain ⟨rfl, rfl, rfl, rfl, hb⟩ := hcut
    have hB : Below w.heap.size w wc := Below.trans (b := w.alloc _) (by go_grown) (hb.mono (by omega))
    obtain ⟨c0, c1, c2, c3, c4, c5, c6, c7, c8, c9⟩ := Blk.at10i (Blk.below (Blk.new w 83 (itemV x V c).toArray) hb (by omega))
    have hsz : w.heap.size < wc.heap.size := by have := hb.size; simp at this; omega
    clear hb hq
    rcases (by omega : x.kind = 1 ∨ x.kind = 2 ∨ x.kind = 3 ∨ x.kind = 4 ∨ (x.kind ≠ 1 ∧ x.kind ≠ 2 ∧ x.kind ≠ 3 ∧ x.kind ≠ 4)) with hk | hk | hk | hk | hk
    · have e1 : (x.kind == 1) = true := beq_iff_eq.2 hk
      have HI := Lib.hid (Sp.item1 hk)
      clear hk
      generalize Sp.fV x = fv at *
      generalize Sp.fL x = fl at *
      generalize Sp.fD x = fd at *
      generalize Sp.fR x = fr at *
      go_wp2_with (first
        | (go_at_call 103; refine (dShort_any x.key _).mono ?_; rintro e w2 ⟨rfl, hb2⟩; have hz := hb2.size; have hsz : w.heap.size < w2.heap.size := Nat.lt_of_lt_of_le (by first | exact hsz | omega | (simp; done) | (simp; omega)) hz; obtain ⟨hc2, hf2⟩ := bcell hb2)
        | (go_at_call 112; refine (dpage_any _ _).mono ?_; rintro e w2 ⟨rfl, hb2⟩; have hz := hb2.size; have hsz : w.heap.size < w2.heap.size := Nat.lt_of_lt_of_le (by first | exact hsz | omega | (simp; done) | (simp; omega)) hz; obtain ⟨hc2, hf2⟩ := bcell hb2)
        | (go_at_call 113; refine (dvals_any x.vals V c 1 3 _ (Hx.out.go (by (repeat (first | (with_reducible exact Below.refl _ _) | (with_reducible assumption) | (refine below_step (by assumption) (by first | omega | (simp; done) | (simp; omega)) ?_) | (with_reducible refine Below.alloc ?_ (by first | omega | (simp; done) | (simp; omega)) _) | (with_reducible refine Below.drew ?_) | (with_reducible refine below_drewN ?_ _) | (with_reducible refine Below.setCell ?_ (by first | omega | (simp; done) | (simp; omega)) _)))))).mono ?_; rintro e w2 ⟨rfl, hb2⟩; have hz := hb2.size; have hsz : w.heap.size < w2.heap.size := Nat.lt_of_lt_of_le (by first | exact hsz | omega | (simp; done) | (simp; omega)) hz; obtain ⟨hc2, hf2⟩ := bcell hb2)
        | (go_at_call 115; refine (droot_any x.root _).mono ?_; rintro e w2 ⟨rfl, hb2⟩; have hz := hb2.size; have hsz : w.heap.size < w2.heap.size := Nat.lt_of_lt_of_le (by first | exact hsz | omega | (simp; done) | (simp; omega)) hz; obtain ⟨hc2, hf2⟩ := bcell hb2))
      all_goals
        go_ret
        refine ⟨ret_bool ?_, by (repeat (first | (with_reducible exact Below.refl _ _) | (with_reducible assumption) | (refine below_step (by assumption) (by first | omega | (simp; done) | (simp; omega)) ?_) | (with_reducible refine Below.alloc ?_ (by first | omega | (simp; done) | (simp; omega)) _) | (with_reducible refine Below.drew ?_) | (with_reducible refine below_drewN ?_ _) | (with_reducible refine Below.setCell ?_ (by first | omega | (simp; done) | (simp; omega)) _)))⟩
        rw [HI.out]
        go_light
        first | rfl | grind
    · have e1 : (x.kind == 1) = false := by rw [beq_eq_false_iff_ne]; omega
      have e2 : (x.kind == 2) = true := beq_iff_eq.2 hk
      have HI := Lib.hid (Sp.item2 hk)
      clear hk
      generalize Sp.fV x = fv at *
      generalize Sp.fL x = fl at *
      generalize Sp.fD x = fd at *
      generalize Sp.fR x = fr at *
      go_wp2_with (first
        | (go_at_call 103; refine (dShort_any x.key _).mono ?_; rintro e w2 ⟨rfl, hb2⟩; have hz := hb2.size; have hsz : w.heap.size < w2.heap.size := Nat.lt_of_lt_of_le (by first | exact hsz | omega | (simp; done) | (simp; omega)) hz; obtain ⟨hc2, hf2⟩ := bcell hb2)
        | (go_at_call 112; refine (dpage_any _ _).mono ?_; rintro e w2 ⟨rfl, hb2⟩; have hz := hb2.size; have hsz : w.heap.size < w2.heap.size := Nat.lt_of_lt_of_le (by first | exact hsz | omega | (simp; done) | (simp; omega)) hz; obtain ⟨hc2, hf2⟩ := bcell hb2)
        | (go_at_call 113; refine (dvals_any x.vals V c 1 3 _ (Hx.out.go (by (repeat (first | (with_reducible exact Below.refl _ _) | (with_reducible assumption) | (refine below_step (by assumption) (by first | omega | (simp; done) | (simp; omega)) ?_) | (with_reducible refine Below.alloc ?_ (by first | omega | (simp; done) | (simp; omega)) _) | (with_reducible refine Below.drew ?_) | (with_reducible refine below_drewN ?_ _) | (with_reducible refine Below.setCell ?_ (by first | omega | (simp; done) | (simp; omega)) _)))))).mono ?_; rintro e w2 ⟨rfl, hb2⟩; have hz := hb2.size; have hsz : w.heap.size < w2.heap.size := Nat.lt_of_lt_of_le (by first | exact hsz | omega | (simp; done) | (simp; omega)) hz; obtain ⟨hc2, hf2⟩ := bcell hb2)
        | (go_at_call 115; refine (droot_any x.root _).mono ?_; rintro e w2 ⟨rfl, hb2⟩; have hz := hb2.size; have hsz : w.heap.size < w2.heap.size := Nat.lt_of_lt_of_le (by first | exact hsz | omega | (simp; done) | (simp; omega)) hz; obtain ⟨hc2, hf2⟩ := bcell hb2))
      all_goals
        go_ret
        refine ⟨ret_bool ?_, by (repeat (first | (with_reducible exact Below.refl _ _) | (with_reducible assumption) | (refine below_step (by assumption) (by first | omega | (simp; done) | (simp; omega)) ?_) | (with_reducible refine Below.alloc ?_ (by first | omega | (simp; done) | (simp; omega)) _) | (with_reducible refine Below.drew ?_) | (with_reducible refine below_drewN ?_ _) | (with_reducible refine Below.setCell ?_ (by first | omega | (simp; done) | (simp; omega)) _)))⟩
        rw [HI.out]
        go_light
        first | rfl | grind
    · have e1 : (x.kind == 1) = false := by rw [beq_eq_false_iff_ne]; omega
      have e2 : (x.kind == 2) = false := by rw [beq_eq_false_iff_ne]; omega
      have e3 : (x.kind == 3) = true := beq_iff_eq.2 hk
      have HI := Lib.hid (Sp.item3 hk)
      clear hk
      generalize Sp.fV x = fv at *
      generalize Sp.fL x = fl at *
      generalize Sp.fD x = fd at *
      generalize Sp.fR x = fr at *
      go_wp2_with (first
        | (go_at_call 103; refine (dShort_any x.key _).mono ?_; rintro e w2 ⟨rfl, hb2⟩; have hz := hb2.size; have hsz : w.heap.size < w2.heap.size := Nat.lt_of_lt_of_le (by first | exact hsz | omega | (simp; done) | (simp; omega)) hz; obtain ⟨hc2, hf2⟩ := bcell hb2)
        | (go_at_call 112; refine (dpage_any _ _).mono ?_; rintro e w2 ⟨rfl, hb2⟩; have hz := hb2.size; have hsz : w.heap.size < w2.heap.size := Nat.lt_of_lt_of_le (by first | exact hsz | omega | (simp; done) | (simp; omega)) hz; obtain ⟨hc2, hf2⟩ := bcell hb2)
        | (go_at_call 113; refine (dvals_any x.vals V c 1 3 _ (Hx.out.go (by (repeat (first | (with_reducible exact Below.refl _ _) | (with_reducible assumption) | (refine below_step (by assumption) (by first | omega | (simp; done) | (simp; omega)) ?_) | (with_reducible refine Below.alloc ?_ (by first | omega | (simp; done) | (simp; omega)) _) | (with_reducible refine Below.drew ?_) | (with_reducible refine below_drewN ?_ _) | (with_reducible refine Below.setCell ?_ (by first | omega | (simp; done) | (simp; omega)) _)))))).mono ?_; rintro e w2 ⟨rfl, hb2⟩; have hz := hb2.size; have hsz : w.heap.size < w2.heap.size := Nat.lt_of_lt_of_le (by first | exact hsz | omega | (simp; done) | (simp; omega)) hz; obtain ⟨hc2, hf2⟩ := bcell hb2)
        | (go_at_call 115; refine (droot_any x.root _).mono ?_; rintro e w2 ⟨rfl, hb2⟩; have hz := hb2.size; have hsz : w.heap.size < w2.heap.size := Nat.lt_of_lt_of_le (by first | exact hsz | omega | (simp; done) | (simp; omega)) hz; obtain ⟨hc2, hf2⟩ := bcell hb2))
      all_goals
        go_ret
        refine ⟨ret_bool ?_, by (repeat (first | (with_reducible exact Below.refl _ _) | (with_reducible assumption) | (refine below_step (by assumption) (by first | omega | (simp; done) | (simp; omega)) ?_) | (with_reducible refine Below.alloc ?_ (by first | omega | (simp; done) | (simp; omega)) _) | (with_reducible refine Below.drew ?_) | (with_reducible refine below_drewN ?_ _) | (with_reducible refine Below.setCell ?_ (by first | omega | (simp; done) | (simp; omega)) _)))⟩
        rw [HI.out]
        go_light
        first | rfl | grind
    · have e1 : (x.kind == 1) = false := by rw [beq_eq_false_iff_ne]; omega
      have e2 : (x.kind == 2) = false := by rw [beq_eq_false_iff_ne]; omega
      have e3 : (x.kind == 3) = false := by rw [beq_eq_false_iff_ne]; omega
      have e4 : (x.kind == 4) = true := beq_iff_eq.2 hk
      have HI := Lib.hid (Sp.item4 hk)
      clear hk
      generalize Sp.fV x = fv at *
      generalize Sp.fL x = fl at *
      generalize Sp.fD x = fd at *
      generalize Sp.fR x = fr at *
      go_wp2_with (first
        | (go_at_call 103; refine (dShort_any x.key _).mono ?_; rintro e w2 ⟨rfl, hb2⟩; have hz := hb2.size; have hsz : w.heap.size < w2.heap.size := Nat.lt_of_lt_of_le (by first | exact hsz | omega | (simp; done) | (simp; omega)) hz; obtain ⟨hc2, hf2⟩ := bcell hb2)
        | (go_at_call 112; refine (dpage_any _ _).mono ?_; rintro e w2 ⟨rfl, hb2⟩; have hz := hb2.size; have hsz : w.heap.size < w2.heap.size := Nat.lt_of_lt_of_le (by first | exact hsz | omega | (simp; done) | (simp; omega)) hz; obtain ⟨hc2, hf2⟩ := bcell hb2)
        | (go_at_call 113; refine (dvals_any x.vals V c 1 3 _ (Hx.out.go (by (repeat (first | (with_reducible exact Below.refl _ _) | (with_reducible assumption) | (refine below_step (by assumption) (by first | omega | (simp; done) | (simp; omega)) ?_) | (with_reducible refine Below.alloc ?_ (by first | omega | (simp; done) | (simp; omega)) _) | (with_reducible refine Below.drew ?_) | (with_reducible refine below_drewN ?_ _) | (with_reducible refine Below.setCell ?_ (by first | omega | (simp; done) | (simp; omega)) _)))))).mono ?_; rintro e w2 ⟨rfl, hb2⟩; have hz := hb2.size; have hsz : w.heap.size < w2.heap.size := Nat.lt_of_lt_of_le (by first | exact hsz | omega | (simp; done) | (simp; omega)) hz; obtain ⟨hc2, hf2⟩ := bcell hb2)
        | (go_at_call 115; refine (droot_any x.root _).mono ?_; rintro e w2 ⟨rfl, hb2⟩; have hz := hb2.size; have hsz : w.heap.size < w2.heap.size := Nat.lt_of_lt_of_le (by first | exact hsz | omega | (simp; done) | (simp; omega)) hz; obtain ⟨hc2, hf2⟩ := bcell hb2))
      all_goals
        go_ret
        refine ⟨ret_bool ?_, by (repeat (first | (with_reducible exact Below.refl _ _) | (with_reducible assumption) | (refine below_step (by assumption) (by first | omega | (simp; done) | (simp; omega)) ?_) | (with_reducible refine Below.alloc ?_ (by first | omega | (simp; done) | (simp; omega)) _) | (with_reducible refine Below.drew ?_) | (with_reducible refine below_drewN ?_ _) | (with_reducible refine Below.setCell ?_ (by first | omega | (simp; done) | (simp; omega)) _)))⟩
        rw [HI.out]
        go_light
        first | rfl | grind
    · have e1 : (x.kind == 1) = false := by rw [beq_eq_false_iff_ne]; omega
      have e2 : (x.kind == 2) = false := by rw [beq_eq_false_iff_ne]; omega
      have e3 : (x.kind == 3) = false := by rw [beq_eq_false_iff_ne]; omega
      have e4 : (x.kind == 4) = false := by rw [beq_eq_false_iff_ne]; omega
      have HI := Lib.hid (Sp.item5 (x := x) (by omega) (by omega) (by omega) (by omega))
      clear hk
      generalize Sp.fV x = fv at *
      generalize Sp.fL x = fl at *
      generalize Sp.fD x = fd at *
      generalize Sp.fR x = fr at *
      go_wp2_with (first
        | (go_at_call 103; refine (dShort_any x.key _).mono ?_; rintro e w2 ⟨rfl, hb2⟩; have hz := hb2.size; have hsz : w.heap.size < w2.heap.size := Nat.lt_of_lt_of_le (by first | exact hsz | omega | (simp; done) | (simp; omega)) hz; obtain ⟨hc2, hf2⟩ := bcell hb2)
        | (go_at_call 112; refine (dpage_any _ _).mono ?_; rintro e w2 ⟨rfl, hb2⟩; have hz := hb2.size; have hsz : w.heap.size < w2.heap.size := Nat.lt_of_lt_of_le (by first | exact hsz | omega | (simp; done) | (simp; omega)) hz; obtain ⟨hc2, hf2⟩ := bcell hb2)
        | (go_at_call 113; refine (dvals_any x.vals V c 1 3 _ (Hx.out.go (by (repeat (first | (with_reducible exact Below.refl _ _) | (with_reducible assumption) | (refine below_step (by assumption) (by first | omega | (simp; done) | (simp; omega)) ?_) | (with_reducible refine Below.alloc ?_ (by first | omega | (simp; done) | (simp; omega)) _) | (with_reducible refine Below.drew ?_) | (with_reducible refine below_drewN ?_ _) | (with_reducible refine Below.setCell ?_ (by first | omega | (simp; done) | (simp; omega)) _)))))).mono ?_; rintro e w2 ⟨rfl, hb2⟩; have hz := hb2.size; have hsz : w.heap.size < w2.heap.size := Nat.lt_of_lt_of_le (by first | exact hsz | omega | (simp; done) | (simp; omega)) hz; obtain ⟨hc2, hf2⟩ := bcell hb2)
        | (go_at_call 115; refine (droot_any x.root _).mono ?_; rintro e w2 ⟨rfl, hb2⟩; have hz := hb2.size; have hsz : w.heap.size < w2.heap.size := Nat.lt_of_lt_of_le (by first | exact hsz | omega | (simp; done) | (simp; omega)) hz; obtain ⟨hc2, hf2⟩ := bcell hb2))
      all_goals
        go_ret
        refine ⟨ret_bool ?_, by (repeat (first | (with_reducible exact Below.refl _ _) | (with_reducible assumption) | (refine below_step (by assumption) (by first | omega | (simp; done) | (simp; omega)) ?_) | (with_reducible refine Below.alloc ?_ (by first | omega | (simp; done) | (simp; omega)) _) | (with_reducible refine Below.drew ?_) | (with_reducible refine below_drewN ?_ _) | (with_reducible refine Below.setCell ?_ (by first | omega | (simp; done) | (simp; omega)) _)))⟩
        rw [HI.out]
end Go.Proofs.YtmcpkhknjdiocaaGreatDoor
namespace Go.Proofs.YtmcpkhknjdiocaaGreatDoor
open Go.RowKit
attribute [local go_sem low] mk_extract
attribute [local go_sem] After.cell After.frozen mk_extract_end ByteArray.mk_append_mk
namespace Sp
theorem isFree_def (p : Page) : isFree p = (allTo p.free.length (freeAt p.free) && decide (total p.free ≤ 20) && noneOr p.next) := rfl
end Sp
set_option maxRecDepth 100000 in
set_option maxHeartbeats 1600000 in
theorem isFree_any (p : Sp.Page) (r : Refs) {M : Nat → Prop} (w : World) (hp : PageRd w M p r) :
    Calls Tryz.prog 158 #[.agg (pageV p r).toArray] w fun e w' => e = .returned (.bool (Sp.isFree p)) ∧ Below w.heap.size w w' := by
  have Hf := Lib.hid hp.free
  clear hp
  have hlen := Hf.out.len
  have HB := Lib.hid (Sp.isFree_def p)
  obtain ⟨I, K, D, V, F, ci, ck, cd, cv, cf⟩ := r
  simp only [pageV] at *
  go_enter Tryz.func158, Tryz.ntmps158
  go_wp2
  go_loopw [3, 11] (fun n i wr => ∃ k : Nat, k ≤ p.free.length ∧ i = .int .i64 k ∧ n = .int .i64 (Sp.total (p.free.take k)) ∧ Below w.heap.size w wr ∧ w.heap.size < wr.heap.size ∧ wr.cell? ⟨w.heap.size, 6, none⟩ = some (.slice F p.free.length cf) ∧ wr.cell? ⟨w.heap.size, 7, none⟩ = some (.int .i64 p.next) ∧ Hid (∀ j, j < k → Sp.freeAt p.free j = true)) (fun _ i _ => p.free.length - (intOf i).toNat)
  case atStart => exact ⟨0, Nat.zero_le _, rfl, rfl, by go_grown, by simp, by simp [go_sem], by simp [go_sem], fun j h => absurd h (by omega)⟩
  case round =>
    obtain ⟨k, hk, rfl, rfl, hb, hsz, hbox, hbox7, hok⟩ := hrel
    by_cases hlt : k < p.free.length
    · obtain ⟨fb, fo, rfl, hfb, hfc⟩ := Hf.out.at_ hlt
      obtain ⟨V2, c2, ⟨hc0, hc1⟩, hids, htx0, htx1⟩ := hfc k hlt
      have hp1 : 0 < k → wr.cell? ⟨fb, fo + (k - 1) * 2, none⟩ = some (.int .u64 (p.free.getD (k - 1) Sp.free0).txn) := fun h => by
        obtain ⟨V3, c3, ⟨hc0, hc1⟩, _⟩ := hfc (k - 1) (by omega)
        exact (hb.cell (p := ⟨_, _, none⟩) hfb).trans hc0
      clear hfc
      have hc0 := (hb.cell (p := ⟨_, _, none⟩) hfb).trans hc0
      have hc1 := (hb.cell (p := ⟨_, _, none⟩) hfb).trans hc1
      have hil := hids.len
      have Hids := Lib.hid (hids.go hb)
      have HT := Lib.hid (Sp.total_take hlt)
      have hfbw : fb < wr.heap.size := by omega
      clear hids htx0 htx1
      have HV := Lib.hid (Sp.freeAt_def p.free k)
      have hfalse : ∀ w2, Sp.freeAt p.free k = false → Below w.heap.size w w2 → ∃ b : Bool, b = false ∧ b = Sp.isFree p := fun w2 hv _ => ⟨false, rfl, by rw [HB.out, Sp.allTo_false hlt hv]; rfl⟩
      have hfalse : Sp.freeAt p.free k = false → false = Sp.isFree p := fun hv => by rw [HB.out, Sp.allTo_false hlt hv]; rfl
      have Hfalse := Lib.hid hfalse
      clear hfalse
      have hnext : Sp.freeAt p.free k = true → ∀ j, j < k + 1 → Sp.freeAt p.free j = true := fun hv j hj => by
        rcases Nat.lt_succ_iff_lt_or_eq.1 hj with h | rfl
        · exact hok.out j h
        · exact hv
      have Hnext := Lib.hid hnext
      clear hnext
      have htot : Sp.total (p.free.take k) ≤ 398 * k := Sp.total_le k (by omega) fun j hj => by
        have := hok.out j hj
        rw [Sp.freeAt_def] at this
        simp only [Bool.and_eq_true] at this
        exact Sp.isIDs_short this.2
      generalize Sp.total (p.free.take k) = tt at *
      generalize p.free.getD k Sp.free0 = x at *
      generalize (p.free.getD (k - 1) Sp.free0).txn = y at *
      obtain ⟨tx, ids⟩ := x
      simp only at *
      by_cases hi0 : ids.length = 0
      · have hi1 : ((ids.length : Int) == 0) = true := by simp [hi0]
        have HI0 := Lib.hid hi0
        clear hi0
        go_wp2
        refine wp_region_after (by kernel_rfl) (by kernel_rfl) (wr.heap.size + 1) ?_
        repeat (go_big_quiet_step (fail))
        refine wpQuiet_nil ?_
        intro w2 hb2
        go_wp2
        go_ret
        refine ⟨ret_bool (Hfalse.out ?_), by (repeat (first | (with_reducible exact Below.refl _ _) | (with_reducible assumption) | (refine below_step (by assumption) (by first | omega | (simp; done) | (simp; omega)) ?_) | (with_reducible refine Below.alloc ?_ (by first | omega | (simp; done) | (simp; omega)) _) | (with_reducible refine Below.drew ?_) | (with_reducible refine below_drewN ?_ _) | (with_reducible refine Below.setCell ?_ (by first | omega | (simp; done) | (simp; omega)) _)))⟩
        rw [HV.out, List.eq_nil_of_length_eq_zero HI0.out]
        rfl
      · have hi1 : ((ids.length : Int) == 0) = false := by rw [beq_eq_false_iff_ne]; omega
        have hne : decide (ids ≠ []) = true := by
          rw [decide_eq_true_eq]
          intro h
          exact hi0 (by rw [h]; rfl)
        rw [hne] at HV
        clear hne
        by_cases hbad : 0 < k ∧ tx < y
        · obtain ⟨hk0, hty⟩ := hbad
          have hpv := hp1 hk0
          clear hp1
          go_wp2
          refine wp_region_after (by kernel_rfl) (by kernel_rfl) (wr.heap.size + 1) ?_
          repeat (go_big_quiet_step (fail))
          refine wpQuiet_nil ?_
          intro w2 hb2
          go_wp2
          go_ret
          refine ⟨ret_bool (Hfalse.out ?_), by (repeat (first | (with_reducible exact Below.refl _ _) | (with_reducible assumption) | (refine below_step (by assumption) (by first | omega | (simp; done) | (simp; omega)) ?_) | (with_reducible refine Below.alloc ?_ (by first | omega | (simp; done) | (simp; omega)) _) | (with_reducible refine Below.drew ?_) | (with_reducible refine below_drewN ?_ _) | (with_reducible refine Below.setCell ?_ (by first | omega | (simp; done) | (simp; omega)) _)))⟩
          rw [HV.out, decide_eq_false (show ¬ k = 0 by omega), decide_eq_false (show ¬ y ≤ tx by omega)]
          rfl
        · have hgo : ∀ K : Prop, (0 < k → ¬ tx < y → wr.cell? ⟨fb, fo + (k - 1) * 2, none⟩ = some (.int .u64 y) → K) → (k = 0 → K) → K := fun K h1 h2 => by
            by_cases h : 0 < k
            · exact h1 h (fun h' => hbad ⟨h, h'⟩) (hp1 h)
            · exact h2 (by omega)
          have hv2 : (decide (k = 0) || decide (y ≤ tx)) = true := by
            rcases Nat.eq_zero_or_pos k with h | h
            · simp [h]
            · have : y ≤ tx := Int.not_lt.1 fun h' => hbad ⟨h, h'⟩
              simp [this]
          rw [hv2] at HV
          have HGO := Lib.hid hgo
          clear hgo hp1 hv2 hbad
          refine HGO.out _ (fun hk0 hty hpv => ?_) (fun hk0 => ?_)
          · have hkx : 0 < k := hk0
            clear HGO
            have HK := Lib.hid True.intro
            obtain ⟨wo, rfl⟩ : ∃ wo : World, wo = wr := ⟨_, rfl⟩
            go_wp2
            refine wp_region_after (by kernel_rfl) (by kernel_rfl) (wo.heap.size + 1) ?_
            repeat (go_big_quiet_step (fail))
            refine wpQuiet_nil ?_
            intro w2 hb2
            obtain ⟨hc2, hf2⟩ := bcell hb2
            have hz2 := hb2.size
            simp only [World.size_alloc] at hz2
            go_wp2
            have hlb : w2.cell? ⟨wo.heap.size, 1, none⟩ = some (.slice V2 ids.length c2) := (hc2 _ _ (by simp)).trans (by simp [go_sem])
            have hbx6 := (hc2 w.heap.size 6 (by omega)).trans ((World.cell?_alloc_lt wo _ ⟨w.heap.size, 6, none⟩ hsz).trans hbox)
            have hbx7 := (hc2 w.heap.size 7 (by omega)).trans ((World.cell?_alloc_lt wo _ ⟨w.heap.size, 7, none⟩ hsz).trans hbox7)
            have hb3 : Below w.heap.size w w2 := Below.trans (b := wo.alloc _) (Below.alloc hb (by omega) _) (hb2.mono (by omega))
            have Hids2 := Lib.hid (Hids.out.go (Below.trans (b := wo.alloc _) (by go_grown) (hb2.mono (by omega))))
            clear hc2 hf2 hbox hbox7
            go_loopw [39] (fun i wr => ∃ j : Nat, j ≤ ids.length ∧ i = .int .i64 j ∧ Below w2.heap.size w2 wr ∧ Hid (∀ i, i < j → Sp.idAt ids i = true)) (fun i _ => ids.length - (intOf i).toNat)
            case atStart => exact ⟨0, Nat.zero_le _, rfl, Below.refl _ _, fun j h => absurd h (by omega)⟩
            case round =>
              obtain ⟨j, hj, rfl, hbq, hokj⟩ := hrel
              have hzq := hbq.size
              have hlbq := ((bcell hbq).1 (wo.heap.size) 1 (by omega)).trans hlb
              have hszq : w.heap.size < wr.heap.size := by omega
              by_cases hjl : j < ids.length
              · obtain ⟨ib, io, rfl, hib, hic⟩ := Hids2.out.at_ hjl
                have hic0 := (hbq.cell (p := ⟨_, _, none⟩) hib).trans (hic j hjl)
                have hic1 := (hbq.cell (p := ⟨_, _, none⟩) hib).trans (hic (j - 1) (by omega))
                clear hic
                have HJ := Lib.hid (Sp.idAt_def ids j)
                have hfl : Sp.idAt ids j = false → false = Sp.isFree p := fun h => Hfalse.out (by rw [HV.out, Sp.isIDs, Sp.allTo_false hjl h]; rfl)
                have Hfl := Lib.hid hfl
                have hnx : Sp.idAt ids j = true → ∀ i, i < j + 1 → Sp.idAt ids i = true := fun hv i hi => by
                  rcases Nat.lt_succ_iff_lt_or_eq.1 hi with h | rfl
                  · exact hokj.out i h
                  · exact hv
                have Hnx := Lib.hid hnx
                clear hfl hnx
                generalize ids.getD j 0 = u at *
                generalize ids.getD (j - 1) 0 = v at *
                have hszl : wo.heap.size < wr.heap.size := by omega
                have hibq : ib < wr.heap.size := by omega
                go_wp2_with (go_at_call 182; refine (isID_any _ _).mono ?_; rintro e w4 ⟨rfl, hb4⟩; obtain ⟨hc4, hf4⟩ := bcell hb4; have hz4 := hb4.size)
                all_goals first
                  | (go_ret
                     refine ⟨ret_bool (Hfl.out ?_), by (repeat (first | (with_reducible exact Below.refl _ _) | (with_reducible assumption) | (refine below_step (by assumption) (by first | omega | (simp; done) | (simp; omega)) ?_) | (with_reducible refine Below.alloc ?_ (by first | omega | (simp; done) | (simp; omega)) _) | (with_reducible refine Below.drew ?_) | (with_reducible refine below_drewN ?_ _) | (with_reducible refine Below.setCell ?_ (by first | omega | (simp; done) | (simp; omega)) _)))⟩
                     rw [HJ.out]
                     go_light
                     grind)
                  | (refine ⟨⟨j + 1, by omega, by go_num, by (repeat (first | (with_reducible exact Below.refl _ _) | (with_reducible assumption) | (refine below_step (by assumption) (by first | omega | (simp; done) | (simp; omega)) ?_) | (with_reducible refine Below.alloc ?_ (by first | omega | (simp; done) | (simp; omega)) _) | (with_reducible refine Below.drew ?_) | (with_reducible refine below_drewN ?_ _) | (with_reducible refine Below.setCell ?_ (by first | omega | (simp; done) | (simp; omega)) _))), Hnx.out ?_⟩, by simp [intOf]; omega⟩
                     rw [HJ.out]
                     go_light
                     grind)
              · have hjj : j = ids.length := by omega
                have hfok : Sp.freeAt p.free k = true := by
                  rw [HV.out, Sp.isIDs, Sp.allTo_true fun i hi => hokj.out i (by omega)]
                  rfl
                have HFO := Lib.hid hfok
                have hsh : ids.length ≤ 398 := by
                  have h := hfok
                  rw [Sp.freeAt_def] at h
                  have h2 : Sp.isIDs ids = true := Sp.allTo_true fun i hi => hokj.out i (by omega)
                  exact Sp.isIDs_short h2
                have hbx6q := ((bcell hbq).1 (w.heap.size) 6 (by omega)).trans hbx6
                have hbx7q := ((bcell hbq).1 (w.heap.size) 7 (by omega)).trans hbx7
                clear hfok
                go_wp2
                refine ⟨⟨k + 1, by omega, by go_num, by rw [HT.out]; go_num, hb3.trans (hbq.mono (by omega)), hszq, hbx6q, hbx7q, Hnext.out HFO.out⟩, by simp [intOf]; omega⟩
          · have hkz : ¬ 0 < k := by omega
            have HK := Lib.hid hk0
            clear hk0 HGO
            obtain ⟨wo, rfl⟩ : ∃ wo : World, wo = wr := ⟨_, rfl⟩
            go_wp2
            refine wp_region_after (by kernel_rfl) (by kernel_rfl) (wo.heap.size + 1) ?_
            repeat (go_big_quiet_step (fail))
            refine wpQuiet_nil ?_
            intro w2 hb2
            obtain ⟨hc2, hf2⟩ := bcell hb2
            have hz2 := hb2.size
            simp only [World.size_alloc] at hz2
            go_wp2
            have hlb : w2.cell? ⟨wo.heap.size, 1, none⟩ = some (.slice V2 ids.length c2) := (hc2 _ _ (by simp)).trans (by simp [go_sem])
            have hbx6 := (hc2 w.heap.size 6 (by omega)).trans ((World.cell?_alloc_lt wo _ ⟨w.heap.size, 6, none⟩ hsz).trans hbox)
            have hbx7 := (hc2 w.heap.size 7 (by omega)).trans ((World.cell?_alloc_lt wo _ ⟨w.heap.size, 7, none⟩ hsz).trans hbox7)
            have hb3 : Below w.heap.size w w2 := Below.trans (b := wo.alloc _) (Below.alloc hb (by omega) _) (hb2.mono (by omega))
            have Hids2 := Lib.hid (Hids.out.go (Below.trans (b := wo.alloc _) (by go_grown) (hb2.mono (by omega))))
            clear hc2 hf2 hbox hbox7
            go_loopw [39] (fun i wr => ∃ j : Nat, j ≤ ids.length ∧ i = .int .i64 j ∧ Below w2.heap.size w2 wr ∧ Hid (∀ i, i < j → Sp.idAt ids i = true)) (fun i _ => ids.length - (intOf i).toNat)
            case atStart => exact ⟨0, Nat.zero_le _, rfl, Below.refl _ _, fun j h => absurd h (by omega)⟩
            case round =>
              obtain ⟨j, hj, rfl, hbq, hokj⟩ := hrel
              have hzq := hbq.size
              have hlbq := ((bcell hbq).1 (wo.heap.size) 1 (by omega)).trans hlb
              have hszq : w.heap.size < wr.heap.size := by omega
              by_cases hjl : j < ids.length
              · obtain ⟨ib, io, rfl, hib, hic⟩ := Hids2.out.at_ hjl
                have hic0 := (hbq.cell (p := ⟨_, _, none⟩) hib).trans (hic j hjl)
                have hic1 := (hbq.cell (p := ⟨_, _, none⟩) hib).trans (hic (j - 1) (by omega))
                clear hic
                have HJ := Lib.hid (Sp.idAt_def ids j)
                have hfl : Sp.idAt ids j = false → false = Sp.isFree p := fun h => Hfalse.out (by rw [HV.out, Sp.isIDs, Sp.allTo_false hjl h]; rfl)
                have Hfl := Lib.hid hfl
                have hnx : Sp.idAt ids j = true → ∀ i, i < j + 1 → Sp.idAt ids i = true := fun hv i hi => by
                  rcases Nat.lt_succ_iff_lt_or_eq.1 hi with h | rfl
                  · exact hokj.out i h
                  · exact hv
                have Hnx := Lib.hid hnx
                clear hfl hnx
                generalize ids.getD j 0 = u at *
                generalize ids.getD (j - 1) 0 = v at *
                have hszl : wo.heap.size < wr.heap.size := by omega
                have hibq : ib < wr.heap.size := by omega
                go_wp2_with (go_at_call 182; refine (isID_any _ _).mono ?_; rintro e w4 ⟨rfl, hb4⟩; obtain ⟨hc4, hf4⟩ := bcell hb4; have hz4 := hb4.size)
                all_goals first
                  | (go_ret
                     refine ⟨ret_bool (Hfl.out ?_), by (repeat (first | (with_reducible exact Below.refl _ _) | (with_reducible assumption) | (refine below_step (by assumption) (by first | omega | (simp; done) | (simp; omega)) ?_) | (with_reducible refine Below.alloc ?_ (by first | omega | (simp; done) | (simp; omega)) _) | (with_reducible refine Below.drew ?_) | (with_reducible refine below_drewN ?_ _) | (with_reducible refine Below.setCell ?_ (by first | omega | (simp; done) | (simp; omega)) _)))⟩
                     rw [HJ.out]
                     go_light
                     grind)
                  | (refine ⟨⟨j + 1, by omega, by go_num, by (repeat (first | (with_reducible exact Below.refl _ _) | (with_reducible assumption) | (refine below_step (by assumption) (by first | omega | (simp; done) | (simp; omega)) ?_) | (with_reducible refine Below.alloc ?_ (by first | omega | (simp; done) | (simp; omega)) _) | (with_reducible refine Below.drew ?_) | (with_reducible refine below_drewN ?_ _) | (with_reducible refine Below.setCell ?_ (by first | omega | (simp; done) | (simp; omega)) _))), Hnx.out ?_⟩, by simp [intOf]; omega⟩
                     rw [HJ.out]
                     go_light
                     grind)
              · have hjj : j = ids.length := by omega
                have hfok : Sp.freeAt p.free k = true := by
                  rw [HV.out, Sp.isIDs, Sp.allTo_true fun i hi => hokj.out i (by omega)]
                  rfl
                have HFO := Lib.hid hfok
                have hsh : ids.length ≤ 398 := by
                  have h := hfok
                  rw [Sp.freeAt_def] at h
                  have h2 : Sp.isIDs ids = true := Sp.allTo_true fun i hi => hokj.out i (by omega)
                  exact Sp.isIDs_short h2
                have hbx6q := ((bcell hbq).1 (w.heap.size) 6 (by omega)).trans hbx6
                have hbx7q := ((bcell hbq).1 (w.heap.size) 7 (by omega)).trans hbx7
                clear hfok
                go_wp2
                refine ⟨⟨k + 1, by omega, by go_num, by rw [HT.out]; go_num, hb3.trans (hbq.mono (by omega)), hszq, hbx6q, hbx7q, Hnext.out HFO.out⟩, by simp [intOf]; omega⟩
    · have hkl : k = p.free.length := by omega
      have htot : Sp.total (p.free.take k) ≤ 398 * k := Sp.total_le k (by omega) fun j hj => by
        have := hok.out j hj
        rw [Sp.freeAt_def] at this
        simp only [Bool.and_eq_true] at this
        exact Sp.isIDs_short this.2
      have htk : p.free.take k = p.free := List.take_of_length_le (by omega)
      rw [htk] at htot ⊢
      have HB2 := HB.out
      rw [Sp.allTo_true fun j hj => hok.out j (by omega)] at HB2
      have HB := Lib.hid HB2
      clear HB2 htk
      generalize Sp.total p.free = tt at *
      go_wp2_with (go_at_call 160; refine (noneOr_any _ _).mono ?_; rintro e w2 ⟨rfl, hb2⟩; have hz := hb2.size; have hsz : w.heap.size < w2.heap.size := Nat.lt_of_lt_of_le (by first | exact hsz | omega | (simp; done) | (simp; omega)) hz; obtain ⟨hc2, hf2⟩ := bcell hb2)
      all_goals
        go_ret
        refine ⟨ret_bool ?_, by (repeat (first | (with_reducible exact Below.refl _ _) | (with_reducible assumption) | (refine below_step (by assumption) (by first | omega | (simp; done) | (simp; omega)) ?_) | (with_reducible refine Below.alloc ?_ (by first | omega | (simp; done) | (simp; omega)) _) | (with_reducible refine Below.drew ?_) | (with_reducible refine below_drewN ?_ _) | (with_reducible refine Below.setCell ?_ (by first | omega | (simp; done) | (simp; omega)) _)))⟩
        rw [HB.out]
        go_light
        grind
end Go.Proofs.YtmcpkhknjdiocaaGreatDoor
