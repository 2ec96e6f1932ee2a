/- The document's item. -/
import Derived.Test.YtkcfmjlcijhieaaGreatQB07
import Derived.Test.YtkcfmjlcijhieaaGreatQB11
import Derived.Deep.DeepCutAuto
set_option linter.unusedSimpArgs false
set_option linter.unusedVariables false
namespace Go.Proofs.YtkcfmjlcijhieaaGreat
open Go.RowKit
attribute [local go_sem low] mk_extract
attribute [local go_sem] After.cell After.frozen mk_extract_end ByteArray.mk_append_mk
namespace Sp
def fV (x : Item) : Bool := decide (x.val ≠ [])
def fL (x : Item) : Bool := decide (x.run ≠ 0) || decide (x.len ≠ 0)
def fD (x : Item) : Bool := decide (x.vals ≠ []) || decide (x.dup ≠ 0)
def fR (x : Item) : Bool := decide (x.root ≠ root0)
theorem item1 {x : Item} (h : x.kind = 1) : isItem x = (short x.key && decide (x.val.length ≤ 12) && !fL x && !fD x && !fR x) := by
  obtain ⟨key, kind, val, run, len, vals, dup, rt⟩ := x
  simp only at h
  subst h
  rw [Bool.eq_iff_iff]
  simp [isItem, sameItem, own, kindOk, fL, fD, fR]
  grind
theorem item2 {x : Item} (h : x.kind = 2) : isItem x = (short x.key && !fV x && isID x.run && decide (12 < x.len) && decide (x.len ≤ 1000) && !fD x && !fR x) := by
  obtain ⟨key, kind, val, run, len, vals, dup, rt⟩ := x
  simp only at h
  subst h
  rw [Bool.eq_iff_iff]
  simp [isItem, sameItem, own, kindOk, fV, fD, fR]
  grind
theorem item3 {x : Item} (h : x.kind = 3) : isItem x = (short x.key && !fV x && !fL x && !fR x && (decide (x.dup = 0) && isVals x.vals 1 3 || isID x.dup && decide (x.vals.length = 0))) := by
  obtain ⟨key, kind, val, run, len, vals, dup, rt⟩ := x
  simp only at h
  subst h
  rw [Bool.eq_iff_iff]
  simp [isItem, sameItem, own, kindOk, fV, fL, fR]
  grind
theorem item4 {x : Item} (h : x.kind = 4) : isItem x = (short x.key && !fV x && !fL x && !fD x && isRoot x.root) := by
  obtain ⟨key, kind, val, run, len, vals, dup, rt⟩ := x
  simp only at h
  subst h
  rw [Bool.eq_iff_iff]
  simp [isItem, sameItem, own, kindOk, fV, fL, fD]
  grind
theorem item5 {x : Item} (h1 : x.kind ≠ 1) (h2 : x.kind ≠ 2) (h3 : x.kind ≠ 3) (h4 : x.kind ≠ 4) : isItem x = false := by
  simp [isItem, kindOk, h1, h2, h3, h4]
end Sp
theorem Sp.root_eq' (a b : Sp.Root) : decide (a = b) = (a.page == b.page && (a.count == b.count && a.flags == b.flags)) := by
  obtain ⟨a1, a2, a3⟩ := a
  obtain ⟨b1, b2, b3⟩ := b
  by_cases h1 : a1 = b1 <;> by_cases h2 : a2 = b2 <;> by_cases h3 : a3 = b3 <;> simp [h1, h2, h3]
theorem eqRoot2 (m n : Sp.Root) (W : World) : (Op.equalIn 10000 35 (.agg (rootV m).toArray) (.agg (rootV n).toArray)).run Tryz.prog W = .ok (decide (m = n)) W := by
  have hS : Tryz.prog.underlying 35 = some (.struct (Tryz.prog.fieldsOf 35)) := by kernel_rfl
  have hp : Tryz.prog.stoodInHeld 35 = false := by kernel_rfl
  have u3 := Tryz.underlying3
  rw [show (10000 : Nat) = 9999 + 1 from rfl, run_equalIn_agg W 9999 35 _ _ hS hp, Sp.root_eq']
  simp only [Program.fieldsOf, Tryz.underlying35, Op.eqFields, rootV]
  go_simp
  by_cases h1 : m.page = n.page <;> by_cases h2 : m.count = n.count <;> by_cases h3 : m.flags = n.flags <;> simp [h1, h2, h3]
theorem Blk.at10i {w : World} {g : Nat} {t : TypeId} {x : Sp.Item} {V : Option Addr} {c : Nat} (h : Blk w g t (itemV x V c).toArray) :
    w.cell? ⟨g, 0, none⟩ = some (.string ⟨x.key.toArray⟩) ∧ w.cell? ⟨g, 1, none⟩ = some (.int .i64 x.kind) ∧ w.cell? ⟨g, 2, none⟩ = some (.string ⟨x.val.toArray⟩) ∧ w.cell? ⟨g, 3, none⟩ = some (.int .i64 x.run) ∧ w.cell? ⟨g, 4, none⟩ = some (.int .i64 x.len) ∧ w.cell? ⟨g, 5, none⟩ = some (.slice V x.vals.length c) ∧ w.cell? ⟨g, 6, none⟩ = some (.int .i64 x.dup) ∧ w.cell? ⟨g, 7, none⟩ = some (.int .i64 x.root.page) ∧ w.cell? ⟨g, 8, none⟩ = some (.int .i64 x.root.count) ∧ w.cell? ⟨g, 9, none⟩ = some (.int .i64 x.root.flags) :=
  ⟨h.cell 0, h.cell 1, h.cell 2, h.cell 3, h.cell 4, h.cell 5, h.cell 6, h.cell 7, h.cell 8, h.cell 9⟩
set_option maxRecDepth 100000 in
set_option maxHeartbeats 1600000 in
theorem ditem_any (x : Sp.Item) (V : Option Addr) (c : Nat) {M : Nat → Prop} (w : World) (hx : Txts w M V x.vals) :
    Calls Tryz.prog 85 #[.agg (itemV x V c).toArray] w fun e w' => e = .returned (.bool (Sp.isItem x)) ∧ Below w.heap.size w w' := by
  have Hx := Lib.hid hx
  clear hx
  have hq := fun W => eqRoot2 x.root Sp.root0 W
  simp only [rootV, Sp.root0] at hq
  have hsz : w.heap.size < w.heap.size + 1 := by omega
  simp only [itemV]
  go_enter Tryz.func85, Tryz.ntmps85
  go_upto_region 1 with fail
  go_cut [3, 4, 5, 6] (fun s3 s4 s5 s6 W => s3 = .bool (Sp.fV x) ∧ s4 = .bool (Sp.fL x) ∧ s5 = .bool (Sp.fD x) ∧ s6 = .bool (Sp.fR x) ∧ Below (w.heap.size + 1) (w.alloc (.cells (itemV x V c).toArray 90)) W)
  case first =>
    rcases Nat.eq_zero_or_pos x.vals.length with h2 | h2
    all_goals
      by_cases h1 : x.run = 0
      · refine wp_region_after (by kernel_rfl) (by kernel_rfl) (w.heap.size + 1) ?_
        repeat (go_big_quiet_step (fail))
        refine wpQuiet_nil ?_
        intro w2 hb2
        go_wp2
        go_meet
        case rel => exact ⟨congrArg Value.bool (by simp [Sp.fV]; cases x.val <;> simp), congrArg Value.bool (by unfold Sp.fL; by_cases h5 : x.len = 0 <;> simp [h1, h5]), congrArg Value.bool (by simp [Sp.fD, List.length_eq_zero_iff, bne]; grind [List.length_pos_iff, List.length_eq_zero_iff]), congrArg Value.bool (by unfold Sp.fR Sp.root0; by_cases hr : x.root = ⟨0, 0, 0⟩ <;> simp [hr]), hb2⟩
      · have e1 : (x.run != 0) = true := by simp [h1]
        refine wp_region_after (by kernel_rfl) (by kernel_rfl) (w.heap.size + 1) ?_
        repeat (go_big_quiet_step (fail))
        refine wpQuiet_nil ?_
        intro w2 hb2
        go_wp2
        go_meet
        case rel => exact ⟨congrArg Value.bool (by simp [Sp.fV]; cases x.val <;> simp), congrArg Value.bool (by unfold Sp.fL; by_cases h5 : x.len = 0 <;> simp [h1, h5]), congrArg Value.bool (by simp [Sp.fD, List.length_eq_zero_iff, bne]; grind [List.length_pos_iff, List.length_eq_zero_iff]), congrArg Value.bool (by unfold Sp.fR Sp.root0; by_cases hr : x.root = ⟨0, 0, 0⟩ <;> simp [hr]), hb2⟩
  case rest =>
    obtain ⟨rfl, rfl, rfl, rfl, hb⟩ := hcut
    have hB : Below w.heap.size w wc := Below.trans (b := w.alloc _) (by go_grown) (hb.mono (by omega))
    obtain ⟨c0, c1, c2, c3, c4, c5, c6, c7, c8, c9⟩ := Blk.at10i (Blk.below (Blk.new w 90 (itemV x V c).toArray) hb (by omega))
    have hsz : w.heap.size < wc.heap.size := by have := hb.size; simp at this; omega
    clear hb hq
    rcases (by omega : x.kind = 1 ∨ x.kind = 2 ∨ x.kind = 3 ∨ x.kind = 4 ∨ (x.kind ≠ 1 ∧ x.kind ≠ 2 ∧ x.kind ≠ 3 ∧ x.kind ≠ 4)) with hk | hk | hk | hk | hk
    · have e1 : (x.kind == 1) = true := beq_iff_eq.2 hk
      have HI := Lib.hid (Sp.item1 hk)
      clear hk
      generalize Sp.fV x = fv at *
      generalize Sp.fL x = fl at *
      generalize Sp.fD x = fd at *
      generalize Sp.fR x = fr at *
      go_wp2_with (first
        | (go_at_call 87; refine (dShort_any x.key _).mono ?_; rintro e w2 ⟨rfl, hb2⟩; have hz := hb2.size; have hsz : w.heap.size < w2.heap.size := Nat.lt_of_lt_of_le (by first | exact hsz | omega | (simp; done) | (simp; omega)) hz; obtain ⟨hc2, hf2⟩ := bcell hb2)
        | (go_at_call 86; refine (dpage_any _ _).mono ?_; rintro e w2 ⟨rfl, hb2⟩; have hz := hb2.size; have hsz : w.heap.size < w2.heap.size := Nat.lt_of_lt_of_le (by first | exact hsz | omega | (simp; done) | (simp; omega)) hz; obtain ⟨hc2, hf2⟩ := bcell hb2)
        | (go_at_call 88; refine (dvals_any x.vals V c 1 3 _ (Hx.out.go (by (repeat (first | (with_reducible exact Below.refl _ _) | (with_reducible assumption) | (refine below_step (by assumption) (by first | omega | (simp; done) | (simp; omega)) ?_) | (with_reducible refine Below.alloc ?_ (by first | omega | (simp; done) | (simp; omega)) _) | (with_reducible refine Below.drew ?_) | (with_reducible refine below_drewN ?_ _) | (with_reducible refine Below.setCell ?_ (by first | omega | (simp; done) | (simp; omega)) _)))))).mono ?_; rintro e w2 ⟨rfl, hb2⟩; have hz := hb2.size; have hsz : w.heap.size < w2.heap.size := Nat.lt_of_lt_of_le (by first | exact hsz | omega | (simp; done) | (simp; omega)) hz; obtain ⟨hc2, hf2⟩ := bcell hb2)
        | (go_at_call 90; refine (droot_any x.root _).mono ?_; rintro e w2 ⟨rfl, hb2⟩; have hz := hb2.size; have hsz : w.heap.size < w2.heap.size := Nat.lt_of_lt_of_le (by first | exact hsz | omega | (simp; done) | (simp; omega)) hz; obtain ⟨hc2, hf2⟩ := bcell hb2))
      all_goals
        go_ret
        refine ⟨ret_bool ?_, by (repeat (first | (with_reducible exact Below.refl _ _) | (with_reducible assumption) | (refine below_step (by assumption) (by first | omega | (simp; done) | (simp; omega)) ?_) | (with_reducible refine Below.alloc ?_ (by first | omega | (simp; done) | (simp; omega)) _) | (with_reducible refine Below.drew ?_) | (with_reducible refine below_drewN ?_ _) | (with_reducible refine Below.setCell ?_ (by first | omega | (simp; done) | (simp; omega)) _)))⟩
        rw [HI.out]
        go_light
        first | rfl | grind
    · have e1 : (x.kind == 1) = false := by rw [beq_eq_false_iff_ne]; omega
      have e2 : (x.kind == 2) = true := beq_iff_eq.2 hk
      have HI := Lib.hid (Sp.item2 hk)
      clear hk
      generalize Sp.fV x = fv at *
      generalize Sp.fL x = fl at *
      generalize Sp.fD x = fd at *
      generalize Sp.fR x = fr at *
      go_wp2_with (first
        | (go_at_call 87; refine (dShort_any x.key _).mono ?_; rintro e w2 ⟨rfl, hb2⟩; have hz := hb2.size; have hsz : w.heap.size < w2.heap.size := Nat.lt_of_lt_of_le (by first | exact hsz | omega | (simp; done) | (simp; omega)) hz; obtain ⟨hc2, hf2⟩ := bcell hb2)
        | (go_at_call 86; refine (dpage_any _ _).mono ?_; rintro e w2 ⟨rfl, hb2⟩; have hz := hb2.size; have hsz : w.heap.size < w2.heap.size := Nat.lt_of_lt_of_le (by first | exact hsz | omega | (simp; done) | (simp; omega)) hz; obtain ⟨hc2, hf2⟩ := bcell hb2)
        | (go_at_call 88; refine (dvals_any x.vals V c 1 3 _ (Hx.out.go (by (repeat (first | (with_reducible exact Below.refl _ _) | (with_reducible assumption) | (refine below_step (by assumption) (by first | omega | (simp; done) | (simp; omega)) ?_) | (with_reducible refine Below.alloc ?_ (by first | omega | (simp; done) | (simp; omega)) _) | (with_reducible refine Below.drew ?_) | (with_reducible refine below_drewN ?_ _) | (with_reducible refine Below.setCell ?_ (by first | omega | (simp; done) | (simp; omega)) _)))))).mono ?_; rintro e w2 ⟨rfl, hb2⟩; have hz := hb2.size; have hsz : w.heap.size < w2.heap.size := Nat.lt_of_lt_of_le (by first | exact hsz | omega | (simp; done) | (simp; omega)) hz; obtain ⟨hc2, hf2⟩ := bcell hb2)
        | (go_at_call 90; refine (droot_any x.root _).mono ?_; rintro e w2 ⟨rfl, hb2⟩; have hz := hb2.size; have hsz : w.heap.size < w2.heap.size := Nat.lt_of_lt_of_le (by first | exact hsz | omega | (simp; done) | (simp; omega)) hz; obtain ⟨hc2, hf2⟩ := bcell hb2))
      all_goals
        go_ret
        refine ⟨ret_bool ?_, by (repeat (first | (with_reducible exact Below.refl _ _) | (with_reducible assumption) | (refine below_step (by assumption) (by first | omega | (simp; done) | (simp; omega)) ?_) | (with_reducible refine Below.alloc ?_ (by first | omega | (simp; done) | (simp; omega)) _) | (with_reducible refine Below.drew ?_) | (with_reducible refine below_drewN ?_ _) | (with_reducible refine Below.setCell ?_ (by first | omega | (simp; done) | (simp; omega)) _)))⟩
        rw [HI.out]
        go_light
        first | rfl | grind
    · have e1 : (x.kind == 1) = false := by rw [beq_eq_false_iff_ne]; omega
      have e2 : (x.kind == 2) = false := by rw [beq_eq_false_iff_ne]; omega
      have e3 : (x.kind == 3) = true := beq_iff_eq.2 hk
      have HI := Lib.hid (Sp.item3 hk)
      clear hk
      generalize Sp.fV x = fv at *
      generalize Sp.fL x = fl at *
      generalize Sp.fD x = fd at *
      generalize Sp.fR x = fr at *
      go_wp2_with (first
        | (go_at_call 87; refine (dShort_any x.key _).mono ?_; rintro e w2 ⟨rfl, hb2⟩; have hz := hb2.size; have hsz : w.heap.size < w2.heap.size := Nat.lt_of_lt_of_le (by first | exact hsz | omega | (simp; done) | (simp; omega)) hz; obtain ⟨hc2, hf2⟩ := bcell hb2)
        | (go_at_call 86; refine (dpage_any _ _).mono ?_; rintro e w2 ⟨rfl, hb2⟩; have hz := hb2.size; have hsz : w.heap.size < w2.heap.size := Nat.lt_of_lt_of_le (by first | exact hsz | omega | (simp; done) | (simp; omega)) hz; obtain ⟨hc2, hf2⟩ := bcell hb2)
        | (go_at_call 88; refine (dvals_any x.vals V c 1 3 _ (Hx.out.go (by (repeat (first | (with_reducible exact Below.refl _ _) | (with_reducible assumption) | (refine below_step (by assumption) (by first | omega | (simp; done) | (simp; omega)) ?_) | (with_reducible refine Below.alloc ?_ (by first | omega | (simp; done) | (simp; omega)) _) | (with_reducible refine Below.drew ?_) | (with_reducible refine below_drewN ?_ _) | (with_reducible refine Below.setCell ?_ (by first | omega | (simp; done) | (simp; omega)) _)))))).mono ?_; rintro e w2 ⟨rfl, hb2⟩; have hz := hb2.size; have hsz : w.heap.size < w2.heap.size := Nat.lt_of_lt_of_le (by first | exact hsz | omega | (simp; done) | (simp; omega)) hz; obtain ⟨hc2, hf2⟩ := bcell hb2)
        | (go_at_call 90; refine (droot_any x.root _).mono ?_; rintro e w2 ⟨rfl, hb2⟩; have hz := hb2.size; have hsz : w.heap.size < w2.heap.size := Nat.lt_of_lt_of_le (by first | exact hsz | omega | (simp; done) | (simp; omega)) hz; obtain ⟨hc2, hf2⟩ := bcell hb2))
      all_goals
        go_ret
        refine ⟨ret_bool ?_, by (repeat (first | (with_reducible exact Below.refl _ _) | (with_reducible assumption) | (refine below_step (by assumption) (by first | omega | (simp; done) | (simp; omega)) ?_) | (with_reducible refine Below.alloc ?_ (by first | omega | (simp; done) | (simp; omega)) _) | (with_reducible refine Below.drew ?_) | (with_reducible refine below_drewN ?_ _) | (with_reducible refine Below.setCell ?_ (by first | omega | (simp; done) | (simp; omega)) _)))⟩
        rw [HI.out]
        go_light
        first | rfl | grind
    · have e1 : (x.kind == 1) = false := by rw [beq_eq_false_iff_ne]; omega
      have e2 : (x.kind == 2) = false := by rw [beq_eq_false_iff_ne]; omega
      have e3 : (x.kind == 3) = false := by rw [beq_eq_false_iff_ne]; omega
      have e4 : (x.kind == 4) = true := beq_iff_eq.2 hk
      have HI := Lib.hid (Sp.item4 hk)
      clear hk
      generalize Sp.fV x = fv at *
      generalize Sp.fL x = fl at *
      generalize Sp.fD x = fd at *
      generalize Sp.fR x = fr at *
      go_wp2_with (first
        | (go_at_call 87; refine (dShort_any x.key _).mono ?_; rintro e w2 ⟨rfl, hb2⟩; have hz := hb2.size; have hsz : w.heap.size < w2.heap.size := Nat.lt_of_lt_of_le (by first | exact hsz | omega | (simp; done) | (simp; omega)) hz; obtain ⟨hc2, hf2⟩ := bcell hb2)
        | (go_at_call 86; refine (dpage_any _ _).mono ?_; rintro e w2 ⟨rfl, hb2⟩; have hz := hb2.size; have hsz : w.heap.size < w2.heap.size := Nat.lt_of_lt_of_le (by first | exact hsz | omega | (simp; done) | (simp; omega)) hz; obtain ⟨hc2, hf2⟩ := bcell hb2)
        | (go_at_call 88; refine (dvals_any x.vals V c 1 3 _ (Hx.out.go (by (repeat (first | (with_reducible exact Below.refl _ _) | (with_reducible assumption) | (refine below_step (by assumption) (by first | omega | (simp; done) | (simp; omega)) ?_) | (with_reducible refine Below.alloc ?_ (by first | omega | (simp; done) | (simp; omega)) _) | (with_reducible refine Below.drew ?_) | (with_reducible refine below_drewN ?_ _) | (with_reducible refine Below.setCell ?_ (by first | omega | (simp; done) | (simp; omega)) _)))))).mono ?_; rintro e w2 ⟨rfl, hb2⟩; have hz := hb2.size; have hsz : w.heap.size < w2.heap.size := Nat.lt_of_lt_of_le (by first | exact hsz | omega | (simp; done) | (simp; omega)) hz; obtain ⟨hc2, hf2⟩ := bcell hb2)
        | (go_at_call 90; refine (droot_any x.root _).mono ?_; rintro e w2 ⟨rfl, hb2⟩; have hz := hb2.size; have hsz : w.heap.size < w2.heap.size := Nat.lt_of_lt_of_le (by first | exact hsz | omega | (simp; done) | (simp; omega)) hz; obtain ⟨hc2, hf2⟩ := bcell hb2))
      all_goals
        go_ret
        refine ⟨ret_bool ?_, by (repeat (first | (with_reducible exact Below.refl _ _) | (with_reducible assumption) | (refine below_step (by assumption) (by first | omega | (simp; done) | (simp; omega)) ?_) | (with_reducible refine Below.alloc ?_ (by first | omega | (simp; done) | (simp; omega)) _) | (with_reducible refine Below.drew ?_) | (with_reducible refine below_drewN ?_ _) | (with_reducible refine Below.setCell ?_ (by first | omega | (simp; done) | (simp; omega)) _)))⟩
        rw [HI.out]
        go_light
        first | rfl | grind
    · have e1 : (x.kind == 1) = false := by rw [beq_eq_false_iff_ne]; omega
      have e2 : (x.kind == 2) = false := by rw [beq_eq_false_iff_ne]; omega
      have e3 : (x.kind == 3) = false := by rw [beq_eq_false_iff_ne]; omega
      have e4 : (x.kind == 4) = false := by rw [beq_eq_false_iff_ne]; omega
      have HI := Lib.hid (Sp.item5 (x := x) (by omega) (by omega) (by omega) (by omega))
      clear hk
      generalize Sp.fV x = fv at *
      generalize Sp.fL x = fl at *
      generalize Sp.fD x = fd at *
      generalize Sp.fR x = fr at *
      go_wp2_with (first
        | (go_at_call 87; refine (dShort_any x.key _).mono ?_; rintro e w2 ⟨rfl, hb2⟩; have hz := hb2.size; have hsz : w.heap.size < w2.heap.size := Nat.lt_of_lt_of_le (by first | exact hsz | omega | (simp; done) | (simp; omega)) hz; obtain ⟨hc2, hf2⟩ := bcell hb2)
        | (go_at_call 86; refine (dpage_any _ _).mono ?_; rintro e w2 ⟨rfl, hb2⟩; have hz := hb2.size; have hsz : w.heap.size < w2.heap.size := Nat.lt_of_lt_of_le (by first | exact hsz | omega | (simp; done) | (simp; omega)) hz; obtain ⟨hc2, hf2⟩ := bcell hb2)
        | (go_at_call 88; refine (dvals_any x.vals V c 1 3 _ (Hx.out.go (by (repeat (first | (with_reducible exact Below.refl _ _) | (with_reducible assumption) | (refine below_step (by assumption) (by first | omega | (simp; done) | (simp; omega)) ?_) | (with_reducible refine Below.alloc ?_ (by first | omega | (simp; done) | (simp; omega)) _) | (with_reducible refine Below.drew ?_) | (with_reducible refine below_drewN ?_ _) | (with_reducible refine Below.setCell ?_ (by first | omega | (simp; done) | (simp; omega)) _)))))).mono ?_; rintro e w2 ⟨rfl, hb2⟩; have hz := hb2.size; have hsz : w.heap.size < w2.heap.size := Nat.lt_of_lt_of_le (by first | exact hsz | omega | (simp; done) | (simp; omega)) hz; obtain ⟨hc2, hf2⟩ := bcell hb2)
        | (go_at_call 90; refine (droot_any x.root _).mono ?_; rintro e w2 ⟨rfl, hb2⟩; have hz := hb2.size; have hsz : w.heap.size < w2.heap.size := Nat.lt_of_lt_of_le (by first | exact hsz | omega | (simp; done) | (simp; omega)) hz; obtain ⟨hc2, hf2⟩ := bcell hb2))
      all_goals
        go_ret
        refine ⟨ret_bool ?_, by (repeat (first | (with_reducible exact Below.refl _ _) | (with_reducible assumption) | (refine below_step (by assumption) (by first | omega | (simp; done) | (simp; omega)) ?_) | (with_reducible refine Below.alloc ?_ (by first | omega | (simp; done) | (simp; omega)) _) | (with_reducible refine Below.drew ?_) | (with_reducible refine below_drewN ?_ _) | (with_reducible refine Below.setCell ?_ (by first | omega | (simp; done) | (simp; omega)) _)))⟩
        rw [HI.out]
end Go.Proofs.YtkcfmjlcijhieaaGreat
