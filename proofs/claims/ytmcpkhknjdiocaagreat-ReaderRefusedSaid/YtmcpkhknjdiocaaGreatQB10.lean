/- The document's numbers and texts as bytes, its sums, its small words. The document's vals. The document's item. The document's frees. -/
import Derived.Test.YtmcpkhknjdiocaaGreatQB09
import Derived.RegionTactic
import Derived.ChangeAlike
import Derived.BigRegion
import Derived.Deep.DeepCutAuto
set_option linter.unusedSimpArgs false
set_option linter.unusedVariables false
namespace Go.Proofs.YtmcpkhknjdiocaaGreat
open Go.RowKit
attribute [local go_sem low] mk_extract
attribute [local go_sem] After.cell After.frozen mk_extract_end ByteArray.mk_append_mk
set_option maxRecDepth 100000 in
set_option maxHeartbeats 1600000 in
theorem dNum_any (n : Int) (h0 : 0 ≤ n) (h1 : n < 18446744073709551616) (w : World) :
    Calls Tryz.prog 68 #[.int .u64 n] w fun e w' => e = .returned (.string ⟨(Sp.le8 n).toArray⟩) ∧ Below w.heap.size w w' := by
  have hmk : ∀ w, (Instr.makeSlice 60 (.int .i64 8) (.int .i64 8)).run Tryz.prog w = .ok (.slice (some ⟨w.heap.size, 0, none⟩) 8 8) (w.alloc (.cells #[.int .u8 0, .int .u8 0, .int .u8 0, .int .u8 0, .int .u8 0, .int .u8 0, .int .u8 0, .int .u8 0] 5)) := fun _ => by kernel_rfl
  have hcv := conv8
  go_enter Tryz.func68, Tryz.ntmps68
  go_wp2
  go_rounds 9
  go_ret
  refine ⟨?_, (Below.refl _ _).alloc (Nat.le_refl _) _⟩
  refine congrArg (fun s => Ending.returned (.string s)) ?_
  have h7 : n / 256 / 256 / 256 / 256 / 256 / 256 / 256 % 256 = n / 256 / 256 / 256 / 256 / 256 / 256 / 256 := by omega
  have e2 : n / 65536 = n / 256 / 256 := by omega
  have e3 : n / 16777216 = n / 256 / 256 / 256 := by omega
  have e4 : n / 4294967296 = n / 256 / 256 / 256 / 256 := by omega
  have e5 : n / 1099511627776 = n / 256 / 256 / 256 / 256 / 256 := by omega
  have e6 : n / 281474976710656 = n / 256 / 256 / 256 / 256 / 256 / 256 := by omega
  have e7 : n / 72057594037927936 = n / 256 / 256 / 256 / 256 / 256 / 256 / 256 := by omega
  rw [e2, e3, e4, e5, e6, e7]
  simp [Sp.le8, Sp.leN, h7]
set_option maxRecDepth 100000 in
set_option maxHeartbeats 400000 in
theorem dnum_any (n : Int) (h0 : 0 ≤ n) (h1 : n < 4611686018427387904) (w : World) :
    Calls Tryz.prog 64 #[.int .i64 n] w fun e w' => e = .returned (.string ⟨(Sp.le8 n).toArray⟩) ∧ Below w.heap.size w w' := by
  go_enter Tryz.func64, Tryz.ntmps64
  go_wp2_with (go_at_call 68; refine (dNum_any _ (by omega) (by omega) _).mono ?_; rintro e w' ⟨rfl, hb⟩)
  go_ret
  exact ⟨rfl, hb⟩
theorem conv2d (w : World) (x0 x1 : Int) : (convert 60 9 (.slice (some ⟨w.heap.size, 0, none⟩) 2 2)).run Tryz.prog ((w.alloc (.cells #[.int .u8 x0, .int .u8 x1] 5)).drew) =
    .ok (.string ⟨[UInt8.ofNat x0.toNat, UInt8.ofNat x1.toNat].toArray⟩) ((w.alloc (.cells #[.int .u8 x0, .int .u8 x1] 5)).drew) := conv2 w.drew x0 x1
set_option maxRecDepth 100000 in
set_option maxHeartbeats 400000 in
theorem dText_any (s : Txt) (w : World) :
    Calls Tryz.prog 66 #[.string ⟨s.toArray⟩] w fun e w' => e = .returned (.string ⟨(Sp.text s).toArray⟩) ∧ Below w.heap.size w w' := by
  have hcv := conv2d
  go_enter Tryz.func66, Tryz.ntmps66
  go_wp2
  all_goals go_region
  all_goals
    go_wp2
    go_ret
    refine ⟨?_, ((Below.refl _ _).alloc (Nat.le_refl _) _).drew⟩
    refine congrArg (fun s => Ending.returned (.string s)) ?_
    simp only [Sp.text, Sp.cutText]
    first
      | (rw [List.take_of_length_le (by omega)]; rw [Sp.leN2 _ (by omega)]; simp; done)
      | (rw [List.take_of_length_le (by omega)]; rw [Sp.leN2 _ (by omega)]; rfl)
      | (have hl : (s.take 65535).length = 65535 := by simp; omega
         rw [hl]; rfl)
set_option maxRecDepth 100000 in
set_option maxHeartbeats 400000 in
theorem dSum_any (s : Txt) (w : World) (hs : s.length ≤ 4611686018427387904) :
    Calls Tryz.prog 70 #[.string ⟨s.toArray⟩] w fun e w' => e = .returned (.int .u64 (Sp.sum s)) ∧ w = w' := by
  go_enter Tryz.func70, Tryz.ntmps70
  go_wp2
  go_loop [3, 4] (fun n i => ∃ k : Nat, k ≤ s.length ∧ i = .int .i64 k ∧ n = .int .u64 (Sp.sum (s.take k))) (fun _ i => s.length - (intOf i).toNat)
  case atStart => exact ⟨0, Nat.zero_le _, rfl, rfl⟩
  case round =>
    obtain ⟨k, hk, rfl, rfl⟩ := hrel
    by_cases hlt : k < s.length
    · have hm := Sp.sum_range (s.take k)
      have HS := Lib.hid (Sp.sum_succ s k hlt)
      generalize Sp.sum (s.take k) = m at *
      go_wp2
      refine ⟨⟨k + 1, by omega, by go_num, ?_⟩, by simp [intOf]; omega⟩
      rw [HS.out]
      rfl
    · have hkl : k = s.length := by omega
      go_wp2
      go_ret
      exact ⟨rfl, rfl⟩
set_option maxRecDepth 100000 in
set_option maxHeartbeats 400000 in
theorem dShort_any (s : Txt) (w : World) :
    Calls Tryz.prog 81 #[.string ⟨s.toArray⟩] w fun e w' => e = .returned (.bool (Sp.short s)) ∧ Below w.heap.size w w' := by
  go_enter Tryz.func81, Tryz.ntmps81
  go_wp2
  all_goals
    go_ret
    go_light
    exact ⟨ret_bool (by grind [Sp.short, List.length_pos_iff]), Below.refl _ _⟩
set_option maxRecDepth 100000 in
set_option maxHeartbeats 400000 in
theorem dpage_any (n : Int) (w : World) :
    Calls Tryz.prog 93 #[.int .i64 n] w fun e w' => e = .returned (.bool (Sp.isID n)) ∧ Below w.heap.size w w' := by
  go_enter Tryz.func93, Tryz.ntmps93
  go_wp2
  all_goals
    go_ret
    go_light
    exact ⟨ret_bool (by grind [Sp.isID]), Below.refl _ _⟩
set_option maxRecDepth 100000 in
set_option maxHeartbeats 400000 in
theorem droot_any (r : Sp.Root) (w : World) :
    Calls Tryz.prog 96 #[.agg (rootV r).toArray] w fun e w' => e = .returned (.bool (Sp.isRoot r)) ∧ Below w.heap.size w w' := by
  obtain ⟨p, n, f⟩ := r
  simp only [rootV]
  go_enter Tryz.func96, Tryz.ntmps96
  go_wp2_with (go_at_call 93; refine (dpage_any _ _).mono ?_; rintro e w1 ⟨rfl, hb⟩; obtain ⟨hc, hf⟩ := bcell hb)
  all_goals
    go_ret
    go_light
    first
      | exact ⟨ret_bool (by grind [Sp.isRoot, Sp.noneOr]), ((Below.refl _ _).alloc (Nat.le_refl _) _).trans (hb.mono (by simp))⟩
      | exact ⟨ret_bool (by grind [Sp.isRoot, Sp.noneOr]), (Below.refl _ _).alloc (Nat.le_refl _) _⟩
set_option maxRecDepth 100000 in
set_option maxHeartbeats 400000 in
theorem dPlace_any (n : Int) (h0 : 0 ≤ n) (h1 : n < 18446744073709551616) (w : World) : Calls Tryz.prog 18 #[.int .u64 n] w fun e w' => e = .returned (.int .i64 (n % 2)) ∧ w = w' := by
  have H1 := Lib.hid h1
  clear h1
  go_enter Tryz.func18, Tryz.ntmps18
  go_wp2
  go_ret
  refine ⟨ret_int ?_, rfl⟩
  have := H1.out
  first | rfl | (simp [IntKind.wrap_u64, IntKind.wrap_i64, Int.tmod_eq_emod_of_nonneg h0]; omega) | omega
end Go.Proofs.YtmcpkhknjdiocaaGreat
namespace Go.Proofs.YtmcpkhknjdiocaaGreat
open Go.RowKit
attribute [local go_sem low] mk_extract
attribute [local go_sem] After.cell After.frozen mk_extract_end ByteArray.mk_append_mk
set_option maxRecDepth 100000 in
set_option maxHeartbeats 1600000 in
theorem dvals_any (l : List Txt) (A : Option Addr) (c : Nat) (least most : Int) {M : Nat → Prop} (w : World) (hr : Txts w M A l) :
    Calls Tryz.prog 94 #[.slice A l.length c, .int .i64 least, .int .i64 most] w fun e w' => e = .returned (.bool (Sp.isVals l least most)) ∧ Below w.heap.size w w' := by
  have hlen := hr.len
  have Hr := Lib.hid hr
  clear hr
  go_enter Tryz.func94, Tryz.ntmps94
  go_wp2
  go_loopw [7] (fun i wr => ∃ k : Nat, k ≤ l.length ∧ i = .int .i64 k ∧ Below w.heap.size w wr ∧ Hid (∀ j, j < k → Sp.valAt l j = true)) (fun i _ => l.length - (intOf i).toNat)
  case atStart => exact ⟨0, Nat.zero_le _, rfl, Below.refl _ _, fun j h => absurd h (by omega)⟩
  case round =>
    obtain ⟨k, hk, rfl, hb, hok⟩ := hrel
    by_cases hlt : k < l.length
    · obtain ⟨b, off, rfl, hbl, hc⟩ := Hr.out.at_ hlt
      have hc0 := (hb.cell (p := ⟨b, off + k, none⟩) hbl).trans (hc k hlt)
      have hc1 := fun (h : 0 < k) => (hb.cell (p := ⟨b, off + (k - 1), none⟩) hbl).trans (hc (k - 1) (by omega))
      have hbw : b < wr.heap.size := by have := hb.size; omega
      clear hc
      have HV := Lib.hid (Sp.valAt_def l k)
      generalize l.getD k [] = x at *
      generalize l.getD (k - 1) [] = y at *
      have hno : ∀ w2, Below wr.heap.size wr w2 → Sp.valAt l k = false → Ending.returned (.bool false) = .returned (.bool (Sp.isVals l least most)) ∧ Below w.heap.size w w2 := fun w2 h2 hv => ⟨by rw [Sp.isVals, Sp.allTo_false hlt hv]; rfl, hb.trans (h2.mono hb.size)⟩
      have hyes : Sp.valAt l k = true → ∀ j, j < k + 1 → Sp.valAt l j = true := fun hv j hj => by
        rcases Nat.lt_succ_iff_lt_or_eq.1 hj with h | rfl
        · exact hok.out j h
        · exact hv
      have HNO := Lib.hid hno
      have HYES := Lib.hid hyes
      clear hno hyes hok
      by_cases h1 : x.length < 1
      · have hd1 : decide ((x.length : Int) < 1) = true := decide_eq_true (by omega)
        go_wp2
        refine wp_region_after (by kernel_rfl) (by kernel_rfl) (wr.heap.size) ?_
        repeat (go_big_quiet_step (fail))
        refine wpQuiet_nil ?_
        intro w2 hb2
        go_wp2
        go_ret
        exact HNO.out _ hb2 (by rw [HV.out, decide_eq_false (by omega : ¬ 1 ≤ x.length)]; rfl)
      have hd1 : decide ((x.length : Int) < 1) = false := decide_eq_false (by omega)
      by_cases h2 : 12 < x.length
      · have hd2 : decide ((x.length : Int) > 12) = true := decide_eq_true (by omega)
        go_wp2
        refine wp_region_after (by kernel_rfl) (by kernel_rfl) (wr.heap.size) ?_
        repeat (go_big_quiet_step (fail))
        refine wpQuiet_nil ?_
        intro w2 hb2
        go_wp2
        go_ret
        exact HNO.out _ hb2 (by rw [HV.out, decide_eq_false (by omega : ¬ x.length ≤ 12), Bool.and_false, Bool.false_and])
      have hd2 : decide ((x.length : Int) > 12) = false := decide_eq_false (by omega)
      by_cases h3 : 0 < k
      · have hc1 := hc1 h3
        rcases hl : Op.bytesLess y x with _ | _
        · go_wp2
          refine wp_region_after (by kernel_rfl) (by kernel_rfl) (wr.heap.size) ?_
          repeat (go_big_quiet_step (fail))
          refine wpQuiet_nil ?_
          intro w2 hb2
          go_wp2
          go_ret
          exact HNO.out _ hb2 (by rw [HV.out, decide_eq_false (by omega : ¬ k = 0), Sp.lt, hl]; simp)
        · go_wp2
          refine wp_region_after (by kernel_rfl) (by kernel_rfl) (wr.heap.size) ?_
          repeat (go_big_quiet_step (fail))
          refine wpQuiet_nil ?_
          intro w2 hb2
          go_wp2
          refine ⟨⟨k + 1, by omega, by go_num, hb.trans (hb2.mono hb.size), HYES.out ?_⟩, by simp [intOf]; omega⟩
          rw [HV.out, Sp.lt, hl, decide_eq_true (by omega : 1 ≤ x.length), decide_eq_true (by omega : x.length ≤ 12)]
          simp
      · have h30 : k = 0 := by omega
        subst h30
        rw [Nat.add_zero] at hc0
        go_wp2
        refine wp_region_after (by kernel_rfl) (by kernel_rfl) (wr.heap.size) ?_
        repeat (go_big_quiet_step (fail))
        refine wpQuiet_nil ?_
        intro w2 hb2
        go_wp2
        refine ⟨⟨1, by omega, by go_num, hb.trans (hb2.mono hb.size), HYES.out ?_⟩, by simp [intOf]; omega⟩
        rw [HV.out, decide_eq_true (by omega : 1 ≤ x.length), decide_eq_true (by omega : x.length ≤ 12)]
        simp
    · have hkl : k = l.length := by omega
      go_wp2
      all_goals
        go_ret
        refine ⟨ret_bool ?_, hb⟩
        go_light
        rw [Sp.isVals, Sp.allTo_true fun j hj => hok.out j (by omega)]
        grind
end Go.Proofs.YtmcpkhknjdiocaaGreat
namespace Go.Proofs.YtmcpkhknjdiocaaGreat
open Go.RowKit
attribute [local go_sem low] mk_extract
attribute [local go_sem] After.cell After.frozen mk_extract_end ByteArray.mk_append_mk
namespace Sp
def fV (x : Item) : Bool := decide (x.val ≠ [])
def fL (x : Item) : Bool := decide (x.run ≠ 0) || decide (x.len ≠ 0)
def fD (x : Item) : Bool := decide (x.vals ≠ []) || decide (x.dup ≠ 0)
def fR (x : Item) : Bool := decide (x.root ≠ root0)
theorem item1 {x : Item} (h : x.kind = 1) : isItem x = (short x.key && decide (x.val.length ≤ 12) && !fL x && !fD x && !fR x) := by
  obtain ⟨key, kind, val, run, len, vals, dup, rt⟩ := x
  simp only at h
  subst h
  rw [Bool.eq_iff_iff]
  simp [isItem, sameItem, own, kindOk, fL, fD, fR]
  grind
theorem item2 {x : Item} (h : x.kind = 2) : isItem x = (short x.key && !fV x && isID x.run && decide (12 < x.len) && decide (x.len ≤ 1000) && !fD x && !fR x) := by
  obtain ⟨key, kind, val, run, len, vals, dup, rt⟩ := x
  simp only at h
  subst h
  rw [Bool.eq_iff_iff]
  simp [isItem, sameItem, own, kindOk, fV, fD, fR]
  grind
theorem item3 {x : Item} (h : x.kind = 3) : isItem x = (short x.key && !fV x && !fL x && !fR x && (decide (x.dup = 0) && isVals x.vals 1 3 || isID x.dup && decide (x.vals.length = 0))) := by
  obtain ⟨key, kind, val, run, len, vals, dup, rt⟩ := x
  simp only at h
  subst h
  rw [Bool.eq_iff_iff]
  simp [isItem, sameItem, own, kindOk, fV, fL, fR]
  grind
theorem item4 {x : Item} (h : x.kind = 4) : isItem x = (short x.key && !fV x && !fL x && !fD x && isRoot x.root) := by
  obtain ⟨key, kind, val, run, len, vals, dup, rt⟩ := x
  simp only at h
  subst h
  rw [Bool.eq_iff_iff]
  simp [isItem, sameItem, own, kindOk, fV, fL, fD]
  grind
theorem item5 {x : Item} (h1 : x.kind ≠ 1) (h2 : x.kind ≠ 2) (h3 : x.kind ≠ 3) (h4 : x.kind ≠ 4) : isItem x = false := by
  simp [isItem, kindOk, h1, h2, h3, h4]
end Sp
theorem Sp.root_eq' (a b : Sp.Root) : decide (a = b) = (a.page == b.page && (a.count == b.count && a.flags == b.flags)) := by
  obtain ⟨a1, a2, a3⟩ := a
  obtain ⟨b1, b2, b3⟩ := b
  by_cases h1 : a1 = b1 <;> by_cases h2 : a2 = b2 <;> by_cases h3 : a3 = b3 <;> simp [h1, h2, h3]
theorem eqRoot2 (m n : Sp.Root) (W : World) : (Op.equalIn 10000 43 (.agg (rootV m).toArray) (.agg (rootV n).toArray)).run Tryz.prog W = .ok (decide (m = n)) W := by
  have hS : Tryz.prog.underlying 43 = some (.struct (Tryz.prog.fieldsOf 43)) := by kernel_rfl
  have hp : Tryz.prog.stoodInHeld 43 = false := by kernel_rfl
  have u3 := Tryz.underlying3
  rw [show (10000 : Nat) = 9999 + 1 from rfl, run_equalIn_agg W 9999 43 _ _ hS hp, Sp.root_eq']
  simp only [Program.fieldsOf, Tryz.underlying43, Op.eqFields, rootV]
  go_simp
  by_cases h1 : m.page = n.page <;> by_cases h2 : m.count = n.count <;> by_cases h3 : m.flags = n.flags <;> simp [h1, h2, h3]
theorem Blk.at10i {w : World} {g : Nat} {t : TypeId} {x : Sp.Item} {V : Option Addr} {c : Nat} (h : Blk w g t (itemV x V c).toArray) :
    w.cell? ⟨g, 0, none⟩ = some (.string ⟨x.key.toArray⟩) ∧ w.cell? ⟨g, 1, none⟩ = some (.int .i64 x.kind) ∧ w.cell? ⟨g, 2, none⟩ = some (.string ⟨x.val.toArray⟩) ∧ w.cell? ⟨g, 3, none⟩ = some (.int .i64 x.run) ∧ w.cell? ⟨g, 4, none⟩ = some (.int .i64 x.len) ∧ w.cell? ⟨g, 5, none⟩ = some (.slice V x.vals.length c) ∧ w.cell? ⟨g, 6, none⟩ = some (.int .i64 x.dup) ∧ w.cell? ⟨g, 7, none⟩ = some (.int .i64 x.root.page) ∧ w.cell? ⟨g, 8, none⟩ = some (.int .i64 x.root.count) ∧ w.cell? ⟨g, 9, none⟩ = some (.int .i64 x.root.flags) :=
  ⟨h.cell 0, h.cell 1, h.cell 2, h.cell 3, h.cell 4, h.cell 5, h.cell 6, h.cell 7, h.cell 8, h.cell 9⟩
set_option maxRecDepth 100000 in
set_option maxHeartbeats 1600000 in
theorem ditem_any (x : Sp.Item) (V : Option Addr) (c : Nat) {M : Nat → Prop} (w : World) (hx : Txts w M V x.vals) :
    Calls Tryz.prog 92 #[.agg (itemV x V c).toArray] w fun e w' => e = .returned (.bool (Sp.isItem x)) ∧ Below w.heap.size w w' := by
  have Hx := Lib.hid hx
  clear hx
  have hq := fun W => eqRoot2 x.root Sp.root0 W
  simp only [rootV, Sp.root0] at hq
  have hsz : w.heap.size < w.heap.size + 1 := by omega
  simp only [itemV]
  go_enter Tryz.func92, Tryz.ntmps92
  go_upto_region 1 with fail
  go_cut [3, 4, 5, 6] (fun s3 s4 s5 s6 W => s3 = .bool (Sp.fV x) ∧ s4 = .bool (Sp.fL x) ∧ s5 = .bool (Sp.fD x) ∧ s6 = .bool (Sp.fR x) ∧ Below (w.heap.size + 1) (w.alloc (.cells (itemV x V c).toArray 71)) W)
  case first =>
    rcases Nat.eq_zero_or_pos x.vals.length with h2 | h2
    all_goals
      by_cases h1 : x.run = 0
      · refine wp_region_after (by kernel_rfl) (by kernel_rfl) (w.heap.size + 1) ?_
        repeat (go_big_quiet_step (fail))
        refine wpQuiet_nil ?_
        intro w2 hb2
        go_wp2
        go_meet
        case rel => exact ⟨congrArg Value.bool (by simp [Sp.fV]; cases x.val <;> simp), congrArg Value.bool (by unfold Sp.fL; by_cases h5 : x.len = 0 <;> simp [h1, h5]), congrArg Value.bool (by simp [Sp.fD, List.length_eq_zero_iff, bne]; grind [List.length_pos_iff, List.length_eq_zero_iff]), congrArg Value.bool (by unfold Sp.fR Sp.root0; by_cases hr : x.root = ⟨0, 0, 0⟩ <;> simp [hr]), hb2⟩
      · have e1 : (x.run != 0) = true := by simp [h1]
        refine wp_region_after (by kernel_rfl) (by kernel_rfl) (w.heap.size + 1) ?_
        repeat (go_big_quiet_step (fail))
        refine wpQuiet_nil ?_
        intro w2 hb2
        go_wp2
        go_meet
        case rel => exact ⟨congrArg Value.bool (by simp [Sp.fV]; cases x.val <;> simp), congrArg Value.bool (by unfold Sp.fL; by_cases h5 : x.len = 0 <;> simp [h1, h5]), congrArg Value.bool (by simp [Sp.fD, List.length_eq_zero_iff, bne]; grind [List.length_pos_iff, List.length_eq_zero_iff]), congrArg Value.bool (by unfold Sp.fR Sp.root0; by_cases hr : x.root = ⟨0, 0, 0⟩ <;> simp [hr]), hb2⟩
  case rest =>
    obtain ⟨rfl, rfl, rfl, rfl, hb⟩ := hcut
    have hB : Below w.heap.size w wc := Below.trans (b := w.alloc _) (by go_grown) (hb.mono (by omega))
    obtain ⟨c0, c1, c2, c3, c4, c5, c6, c7, c8, c9⟩ := Blk.at10i (Blk.below (Blk.new w 71 (itemV x V c).toArray) hb (by omega))
    have hsz : w.heap.size < wc.heap.size := by have := hb.size; simp at this; omega
    clear hb hq
    rcases (by omega : x.kind = 1 ∨ x.kind = 2 ∨ x.kind = 3 ∨ x.kind = 4 ∨ (x.kind ≠ 1 ∧ x.kind ≠ 2 ∧ x.kind ≠ 3 ∧ x.kind ≠ 4)) with hk | hk | hk | hk | hk
    · have e1 : (x.kind == 1) = true := beq_iff_eq.2 hk
      have HI := Lib.hid (Sp.item1 hk)
      clear hk
      generalize Sp.fV x = fv at *
      generalize Sp.fL x = fl at *
      generalize Sp.fD x = fd at *
      generalize Sp.fR x = fr at *
      go_wp2_with (first
        | (go_at_call 81; refine (dShort_any x.key _).mono ?_; rintro e w2 ⟨rfl, hb2⟩; have hz := hb2.size; have hsz : w.heap.size < w2.heap.size := Nat.lt_of_lt_of_le (by first | exact hsz | omega | (simp; done) | (simp; omega)) hz; obtain ⟨hc2, hf2⟩ := bcell hb2)
        | (go_at_call 93; refine (dpage_any _ _).mono ?_; rintro e w2 ⟨rfl, hb2⟩; have hz := hb2.size; have hsz : w.heap.size < w2.heap.size := Nat.lt_of_lt_of_le (by first | exact hsz | omega | (simp; done) | (simp; omega)) hz; obtain ⟨hc2, hf2⟩ := bcell hb2)
        | (go_at_call 94; refine (dvals_any x.vals V c 1 3 _ (Hx.out.go (by (repeat (first | (with_reducible exact Below.refl _ _) | (with_reducible assumption) | (refine below_step (by assumption) (by first | omega | (simp; done) | (simp; omega)) ?_) | (with_reducible refine Below.alloc ?_ (by first | omega | (simp; done) | (simp; omega)) _) | (with_reducible refine Below.drew ?_) | (with_reducible refine below_drewN ?_ _) | (with_reducible refine Below.setCell ?_ (by first | omega | (simp; done) | (simp; omega)) _)))))).mono ?_; rintro e w2 ⟨rfl, hb2⟩; have hz := hb2.size; have hsz : w.heap.size < w2.heap.size := Nat.lt_of_lt_of_le (by first | exact hsz | omega | (simp; done) | (simp; omega)) hz; obtain ⟨hc2, hf2⟩ := bcell hb2)
        | (go_at_call 96; refine (droot_any x.root _).mono ?_; rintro e w2 ⟨rfl, hb2⟩; have hz := hb2.size; have hsz : w.heap.size < w2.heap.size := Nat.lt_of_lt_of_le (by first | exact hsz | omega | (simp; done) | (simp; omega)) hz; obtain ⟨hc2, hf2⟩ := bcell hb2))
      all_goals
        go_ret
        refine ⟨ret_bool ?_, by (repeat (first | (with_reducible exact Below.refl _ _) | (with_reducible assumption) | (refine below_step (by assumption) (by first | omega | (simp; done) | (simp; omega)) ?_) | (with_reducible refine Below.alloc ?_ (by first | omega | (simp; done) | (simp; omega)) _) | (with_reducible refine Below.drew ?_) | (with_reducible refine below_drewN ?_ _) | (with_reducible refine Below.setCell ?_ (by first | omega | (simp; done) | (simp; omega)) _)))⟩
        rw [HI.out]
        go_light
        first | rfl | grind
    · have e1 : (x.kind == 1) = false := by rw [beq_eq_false_iff_ne]; omega
      have e2 : (x.kind == 2) = true := beq_iff_eq.2 hk
      have HI := Lib.hid (Sp.item2 hk)
      clear hk
      generalize Sp.fV x = fv at *
      generalize Sp.fL x = fl at *
      generalize Sp.fD x = fd at *
      generalize Sp.fR x = fr at *
      go_wp2_with (first
        | (go_at_call 81; refine (dShort_any x.key _).mono ?_; rintro e w2 ⟨rfl, hb2⟩; have hz := hb2.size; have hsz : w.heap.size < w2.heap.size := Nat.lt_of_lt_of_le (by first | exact hsz | omega | (simp; done) | (simp; omega)) hz; obtain ⟨hc2, hf2⟩ := bcell hb2)
        | (go_at_call 93; refine (dpage_any _ _).mono ?_; rintro e w2 ⟨rfl, hb2⟩; have hz := hb2.size; have hsz : w.heap.size < w2.heap.size := Nat.lt_of_lt_of_le (by first | exact hsz | omega | (simp; done) | (simp; omega)) hz; obtain ⟨hc2, hf2⟩ := bcell hb2)
        | (go_at_call 94; refine (dvals_any x.vals V c 1 3 _ (Hx.out.go (by (repeat (first | (with_reducible exact Below.refl _ _) | (with_reducible assumption) | (refine below_step (by assumption) (by first | omega | (simp; done) | (simp; omega)) ?_) | (with_reducible refine Below.alloc ?_ (by first | omega | (simp; done) | (simp; omega)) _) | (with_reducible refine Below.drew ?_) | (with_reducible refine below_drewN ?_ _) | (with_reducible refine Below.setCell ?_ (by first | omega | (simp; done) | (simp; omega)) _)))))).mono ?_; rintro e w2 ⟨rfl, hb2⟩; have hz := hb2.size; have hsz : w.heap.size < w2.heap.size := Nat.lt_of_lt_of_le (by first | exact hsz | omega | (simp; done) | (simp; omega)) hz; obtain ⟨hc2, hf2⟩ := bcell hb2)
        | (go_at_call 96; refine (droot_any x.root _).mono ?_; rintro e w2 ⟨rfl, hb2⟩; have hz := hb2.size; have hsz : w.heap.size < w2.heap.size := Nat.lt_of_lt_of_le (by first | exact hsz | omega | (simp; done) | (simp; omega)) hz; obtain ⟨hc2, hf2⟩ := bcell hb2))
      all_goals
        go_ret
        refine ⟨ret_bool ?_, by (repeat (first | (with_reducible exact Below.refl _ _) | (with_reducible assumption) | (refine below_step (by assumption) (by first | omega | (simp; done) | (simp; omega)) ?_) | (with_reducible refine Below.alloc ?_ (by first | omega | (simp; done) | (simp; omega)) _) | (with_reducible refine Below.drew ?_) | (with_reducible refine below_drewN ?_ _) | (with_reducible refine Below.setCell ?_ (by first | omega | (simp; done) | (simp; omega)) _)))⟩
        rw [HI.out]
        go_light
        first | rfl | grind
    · have e1 : (x.kind == 1) = false := by rw [beq_eq_false_iff_ne]; omega
      have e2 : (x.kind == 2) = false := by rw [beq_eq_false_iff_ne]; omega
      have e3 : (x.kind == 3) = true := beq_iff_eq.2 hk
      have HI := Lib.hid (Sp.item3 hk)
      clear hk
      generalize Sp.fV x = fv at *
      generalize Sp.fL x = fl at *
      generalize Sp.fD x = fd at *
      generalize Sp.fR x = fr at *
      go_wp2_with (first
        | (go_at_call 81; refine (dShort_any x.key _).mono ?_; rintro e w2 ⟨rfl, hb2⟩; have hz := hb2.size; have hsz : w.heap.size < w2.heap.size := Nat.lt_of_lt_of_le (by first | exact hsz | omega | (simp; done) | (simp; omega)) hz; obtain ⟨hc2, hf2⟩ := bcell hb2)
        | (go_at_call 93; refine (dpage_any _ _).mono ?_; rintro e w2 ⟨rfl, hb2⟩; have hz := hb2.size; have hsz : w.heap.size < w2.heap.size := Nat.lt_of_lt_of_le (by first | exact hsz | omega | (simp; done) | (simp; omega)) hz; obtain ⟨hc2, hf2⟩ := bcell hb2)
        | (go_at_call 94; refine (dvals_any x.vals V c 1 3 _ (Hx.out.go (by (repeat (first | (with_reducible exact Below.refl _ _) | (with_reducible assumption) | (refine below_step (by assumption) (by first | omega | (simp; done) | (simp; omega)) ?_) | (with_reducible refine Below.alloc ?_ (by first | omega | (simp; done) | (simp; omega)) _) | (with_reducible refine Below.drew ?_) | (with_reducible refine below_drewN ?_ _) | (with_reducible refine Below.setCell ?_ (by first | omega | (simp; done) | (simp; omega)) _)))))).mono ?_; rintro e w2 ⟨rfl, hb2⟩; have hz := hb2.size; have hsz : w.heap.size < w2.heap.size := Nat.lt_of_lt_of_le (by first | exact hsz | omega | (simp; done) | (simp; omega)) hz; obtain ⟨hc2, hf2⟩ := bcell hb2)
        | (go_at_call 96; refine (droot_any x.root _).mono ?_; rintro e w2 ⟨rfl, hb2⟩; have hz := hb2.size; have hsz : w.heap.size < w2.heap.size := Nat.lt_of_lt_of_le (by first | exact hsz | omega | (simp; done) | (simp; omega)) hz; obtain ⟨hc2, hf2⟩ := bcell hb2))
      all_goals
        go_ret
        refine ⟨ret_bool ?_, by (repeat (first | (with_reducible exact Below.refl _ _) | (with_reducible assumption) | (refine below_step (by assumption) (by first | omega | (simp; done) | (simp; omega)) ?_) | (with_reducible refine Below.alloc ?_ (by first | omega | (simp; done) | (simp; omega)) _) | (with_reducible refine Below.drew ?_) | (with_reducible refine below_drewN ?_ _) | (with_reducible refine Below.setCell ?_ (by first | omega | (simp; done) | (simp; omega)) _)))⟩
        rw [HI.out]
        go_light
        first | rfl | grind
    · have e1 : (x.kind == 1) = false := by rw [beq_eq_false_iff_ne]; omega
      have e2 : (x.kind == 2) = false := by rw [beq_eq_false_iff_ne]; omega
      have e3 : (x.kind == 3) = false := by rw [beq_eq_false_iff_ne]; omega
      have e4 : (x.kind == 4) = true := beq_iff_eq.2 hk
      have HI := Lib.hid (Sp.item4 hk)
      clear hk
      generalize Sp.fV x = fv at *
      generalize Sp.fL x = fl at *
      generalize Sp.fD x = fd at *
      generalize Sp.fR x = fr at *
      go_wp2_with (first
        | (go_at_call 81; refine (dShort_any x.key _).mono ?_; rintro e w2 ⟨rfl, hb2⟩; have hz := hb2.size; have hsz : w.heap.size < w2.heap.size := Nat.lt_of_lt_of_le (by first | exact hsz | omega | (simp; done) | (simp; omega)) hz; obtain ⟨hc2, hf2⟩ := bcell hb2)
        | (go_at_call 93; refine (dpage_any _ _).mono ?_; rintro e w2 ⟨rfl, hb2⟩; have hz := hb2.size; have hsz : w.heap.size < w2.heap.size := Nat.lt_of_lt_of_le (by first | exact hsz | omega | (simp; done) | (simp; omega)) hz; obtain ⟨hc2, hf2⟩ := bcell hb2)
        | (go_at_call 94; refine (dvals_any x.vals V c 1 3 _ (Hx.out.go (by (repeat (first | (with_reducible exact Below.refl _ _) | (with_reducible assumption) | (refine below_step (by assumption) (by first | omega | (simp; done) | (simp; omega)) ?_) | (with_reducible refine Below.alloc ?_ (by first | omega | (simp; done) | (simp; omega)) _) | (with_reducible refine Below.drew ?_) | (with_reducible refine below_drewN ?_ _) | (with_reducible refine Below.setCell ?_ (by first | omega | (simp; done) | (simp; omega)) _)))))).mono ?_; rintro e w2 ⟨rfl, hb2⟩; have hz := hb2.size; have hsz : w.heap.size < w2.heap.size := Nat.lt_of_lt_of_le (by first | exact hsz | omega | (simp; done) | (simp; omega)) hz; obtain ⟨hc2, hf2⟩ := bcell hb2)
        | (go_at_call 96; refine (droot_any x.root _).mono ?_; rintro e w2 ⟨rfl, hb2⟩; have hz := hb2.size; have hsz : w.heap.size < w2.heap.size := Nat.lt_of_lt_of_le (by first | exact hsz | omega | (simp; done) | (simp; omega)) hz; obtain ⟨hc2, hf2⟩ := bcell hb2))
      all_goals
        go_ret
        refine ⟨ret_bool ?_, by (repeat (first | (with_reducible exact Below.refl _ _) | (with_reducible assumption) | (refine below_step (by assumption) (by first | omega | (simp; done) | (simp; omega)) ?_) | (with_reducible refine Below.alloc ?_ (by first | omega | (simp; done) | (simp; omega)) _) | (with_reducible refine Below.drew ?_) | (with_reducible refine below_drewN ?_ _) | (with_reducible refine Below.setCell ?_ (by first | omega | (simp; done) | (simp; omega)) _)))⟩
        rw [HI.out]
        go_light
        first | rfl | grind
    · have e1 : (x.kind == 1) = false := by rw [beq_eq_false_iff_ne]; omega
      have e2 : (x.kind == 2) = false := by rw [beq_eq_false_iff_ne]; omega
      have e3 : (x.kind == 3) = false := by rw [beq_eq_false_iff_ne]; omega
      have e4 : (x.kind == 4) = false := by rw [beq_eq_false_iff_ne]; omega
      have HI := Lib.hid (Sp.item5 (x := x) (by omega) (by omega) (by omega) (by omega))
      clear hk
      generalize Sp.fV x = fv at *
      generalize Sp.fL x = fl at *
      generalize Sp.fD x = fd at *
      generalize Sp.fR x = fr at *
      go_wp2_with (first
        | (go_at_call 81; refine (dShort_any x.key _).mono ?_; rintro e w2 ⟨rfl, hb2⟩; have hz := hb2.size; have hsz : w.heap.size < w2.heap.size := Nat.lt_of_lt_of_le (by first | exact hsz | omega | (simp; done) | (simp; omega)) hz; obtain ⟨hc2, hf2⟩ := bcell hb2)
        | (go_at_call 93; refine (dpage_any _ _).mono ?_; rintro e w2 ⟨rfl, hb2⟩; have hz := hb2.size; have hsz : w.heap.size < w2.heap.size := Nat.lt_of_lt_of_le (by first | exact hsz | omega | (simp; done) | (simp; omega)) hz; obtain ⟨hc2, hf2⟩ := bcell hb2)
        | (go_at_call 94; refine (dvals_any x.vals V c 1 3 _ (Hx.out.go (by (repeat (first | (with_reducible exact Below.refl _ _) | (with_reducible assumption) | (refine below_step (by assumption) (by first | omega | (simp; done) | (simp; omega)) ?_) | (with_reducible refine Below.alloc ?_ (by first | omega | (simp; done) | (simp; omega)) _) | (with_reducible refine Below.drew ?_) | (with_reducible refine below_drewN ?_ _) | (with_reducible refine Below.setCell ?_ (by first | omega | (simp; done) | (simp; omega)) _)))))).mono ?_; rintro e w2 ⟨rfl, hb2⟩; have hz := hb2.size; have hsz : w.heap.size < w2.heap.size := Nat.lt_of_lt_of_le (by first | exact hsz | omega | (simp; done) | (simp; omega)) hz; obtain ⟨hc2, hf2⟩ := bcell hb2)
        | (go_at_call 96; refine (droot_any x.root _).mono ?_; rintro e w2 ⟨rfl, hb2⟩; have hz := hb2.size; have hsz : w.heap.size < w2.heap.size := Nat.lt_of_lt_of_le (by first | exact hsz | omega | (simp; done) | (simp; omega)) hz; obtain ⟨hc2, hf2⟩ := bcell hb2))
      all_goals
        go_ret
        refine ⟨ret_bool ?_, by (repeat (first | (with_reducible exact Below.refl _ _) | (with_reducible assumption) | (refine below_step (by assumption) (by first | omega | (simp; done) | (simp; omega)) ?_) | (with_reducible refine Below.alloc ?_ (by first | omega | (simp; done) | (simp; omega)) _) | (with_reducible refine Below.drew ?_) | (with_reducible refine below_drewN ?_ _) | (with_reducible refine Below.setCell ?_ (by first | omega | (simp; done) | (simp; omega)) _)))⟩
        rw [HI.out]
end Go.Proofs.YtmcpkhknjdiocaaGreat
namespace Go.Proofs.YtmcpkhknjdiocaaGreat
open Go.RowKit
attribute [local go_sem low] mk_extract
attribute [local go_sem] After.cell After.frozen mk_extract_end ByteArray.mk_append_mk
set_option maxRecDepth 100000 in
set_option maxHeartbeats 1600000 in
theorem dfrees_any (p : Sp.Page) (r : Refs) {M : Nat → Prop} (w : World) (hp : PageRd w M p r) :
    Calls Tryz.prog 95 #[.agg (pageV p r).toArray] w fun e w' => e = .returned (.bool (Sp.isFree p)) ∧ Below w.heap.size w w' := by
  have Hf := Lib.hid hp.free
  clear hp
  have hlen := Hf.out.len
  have HB := Lib.hid (Sp.isFree_def p)
  obtain ⟨I, K, D, V, F, ci, ck, cd, cv, cf⟩ := r
  simp only [pageV] at *
  go_enter Tryz.func95, Tryz.ntmps95
  go_wp2
  go_loopw [3, 4] (fun n i wr => ∃ k : Nat, k ≤ p.free.length ∧ i = .int .i64 k ∧ n = .int .i64 (Sp.total (p.free.take k)) ∧ Below w.heap.size w wr ∧ w.heap.size < wr.heap.size ∧ wr.cell? ⟨w.heap.size, 6, none⟩ = some (.slice F p.free.length cf) ∧ wr.cell? ⟨w.heap.size, 7, none⟩ = some (.int .i64 p.next) ∧ Hid (∀ j, j < k → Sp.freeAt p.free j = true)) (fun _ i _ => p.free.length - (intOf i).toNat)
  case atStart => exact ⟨0, Nat.zero_le _, rfl, rfl, by go_grown, by simp, by simp [go_sem], by simp [go_sem], fun j h => absurd h (by omega)⟩
  case round =>
    obtain ⟨k, hk, rfl, rfl, hb, hsz, hbox, hbox7, hok⟩ := hrel
    by_cases hlt : k < p.free.length
    · obtain ⟨fb, fo, rfl, hfb, hfc⟩ := Hf.out.at_ hlt
      obtain ⟨V2, c2, ⟨hc0, hc1⟩, hids, htx0, htx1⟩ := hfc k hlt
      have hp1 : 0 < k → wr.cell? ⟨fb, fo + (k - 1) * 2, none⟩ = some (.int .u64 (p.free.getD (k - 1) Sp.free0).txn) := fun h => by
        obtain ⟨V3, c3, ⟨hc0, hc1⟩, _⟩ := hfc (k - 1) (by omega)
        exact (hb.cell (p := ⟨_, _, none⟩) hfb).trans hc0
      clear hfc
      have hc0 := (hb.cell (p := ⟨_, _, none⟩) hfb).trans hc0
      have hc1 := (hb.cell (p := ⟨_, _, none⟩) hfb).trans hc1
      have hil := hids.len
      have Hids := Lib.hid (hids.go hb)
      have HT := Lib.hid (Sp.total_take hlt)
      have hfbw : fb < wr.heap.size := by omega
      clear hids htx0 htx1
      have HV := Lib.hid (Sp.freeAt_def p.free k)
      have hfalse : ∀ w2, Sp.freeAt p.free k = false → Below w.heap.size w w2 → ∃ b : Bool, b = false ∧ b = Sp.isFree p := fun w2 hv _ => ⟨false, rfl, by rw [HB.out, Sp.allTo_false hlt hv]; rfl⟩
      have hfalse : Sp.freeAt p.free k = false → false = Sp.isFree p := fun hv => by rw [HB.out, Sp.allTo_false hlt hv]; rfl
      have Hfalse := Lib.hid hfalse
      clear hfalse
      have hnext : Sp.freeAt p.free k = true → ∀ j, j < k + 1 → Sp.freeAt p.free j = true := fun hv j hj => by
        rcases Nat.lt_succ_iff_lt_or_eq.1 hj with h | rfl
        · exact hok.out j h
        · exact hv
      have Hnext := Lib.hid hnext
      clear hnext
      have htot : Sp.total (p.free.take k) ≤ 398 * k := Sp.total_le k (by omega) fun j hj => by
        have := hok.out j hj
        rw [Sp.freeAt_def] at this
        simp only [Bool.and_eq_true] at this
        exact Sp.isIDs_short this.2
      generalize Sp.total (p.free.take k) = tt at *
      generalize p.free.getD k Sp.free0 = x at *
      generalize (p.free.getD (k - 1) Sp.free0).txn = y at *
      obtain ⟨tx, ids⟩ := x
      simp only at *
      by_cases hi0 : ids.length = 0
      · have hi1 : ((ids.length : Int) == 0) = true := by simp [hi0]
        have HI0 := Lib.hid hi0
        clear hi0
        go_wp2
        refine wp_region_after (by kernel_rfl) (by kernel_rfl) (wr.heap.size + 1) ?_
        repeat (go_big_quiet_step (fail))
        refine wpQuiet_nil ?_
        intro w2 hb2
        go_wp2
        go_ret
        refine ⟨ret_bool (Hfalse.out ?_), by (repeat (first | (with_reducible exact Below.refl _ _) | (with_reducible assumption) | (refine below_step (by assumption) (by first | omega | (simp; done) | (simp; omega)) ?_) | (with_reducible refine Below.alloc ?_ (by first | omega | (simp; done) | (simp; omega)) _) | (with_reducible refine Below.drew ?_) | (with_reducible refine below_drewN ?_ _) | (with_reducible refine Below.setCell ?_ (by first | omega | (simp; done) | (simp; omega)) _)))⟩
        rw [HV.out, List.eq_nil_of_length_eq_zero HI0.out]
        rfl
      · have hi1 : ((ids.length : Int) == 0) = false := by rw [beq_eq_false_iff_ne]; omega
        have hne : decide (ids ≠ []) = true := by
          rw [decide_eq_true_eq]
          intro h
          exact hi0 (by rw [h]; rfl)
        rw [hne] at HV
        clear hne
        by_cases hbad : 0 < k ∧ tx < y
        · obtain ⟨hk0, hty⟩ := hbad
          have hpv := hp1 hk0
          clear hp1
          go_wp2
          refine wp_region_after (by kernel_rfl) (by kernel_rfl) (wr.heap.size + 1) ?_
          repeat (go_big_quiet_step (fail))
          refine wpQuiet_nil ?_
          intro w2 hb2
          go_wp2
          go_ret
          refine ⟨ret_bool (Hfalse.out ?_), by (repeat (first | (with_reducible exact Below.refl _ _) | (with_reducible assumption) | (refine below_step (by assumption) (by first | omega | (simp; done) | (simp; omega)) ?_) | (with_reducible refine Below.alloc ?_ (by first | omega | (simp; done) | (simp; omega)) _) | (with_reducible refine Below.drew ?_) | (with_reducible refine below_drewN ?_ _) | (with_reducible refine Below.setCell ?_ (by first | omega | (simp; done) | (simp; omega)) _)))⟩
          rw [HV.out, decide_eq_false (show ¬ k = 0 by omega), decide_eq_false (show ¬ y ≤ tx by omega)]
          rfl
        · have hgo : ∀ K : Prop, (0 < k → ¬ tx < y → wr.cell? ⟨fb, fo + (k - 1) * 2, none⟩ = some (.int .u64 y) → K) → (k = 0 → K) → K := fun K h1 h2 => by
            by_cases h : 0 < k
            · exact h1 h (fun h' => hbad ⟨h, h'⟩) (hp1 h)
            · exact h2 (by omega)
          have hv2 : (decide (k = 0) || decide (y ≤ tx)) = true := by
            rcases Nat.eq_zero_or_pos k with h | h
            · simp [h]
            · have : y ≤ tx := Int.not_lt.1 fun h' => hbad ⟨h, h'⟩
              simp [this]
          rw [hv2] at HV
          have HGO := Lib.hid hgo
          clear hgo hp1 hv2 hbad
          refine HGO.out _ (fun hk0 hty hpv => ?_) (fun hk0 => ?_)
          · have hkx : 0 < k := hk0
            clear HGO
            have HK := Lib.hid True.intro
            obtain ⟨wo, rfl⟩ : ∃ wo : World, wo = wr := ⟨_, rfl⟩
            go_wp2
            refine wp_region_after (by kernel_rfl) (by kernel_rfl) (wo.heap.size + 1) ?_
            repeat (go_big_quiet_step (fail))
            refine wpQuiet_nil ?_
            intro w2 hb2
            obtain ⟨hc2, hf2⟩ := bcell hb2
            have hz2 := hb2.size
            simp only [World.size_alloc] at hz2
            go_wp2
            have hlb : w2.cell? ⟨wo.heap.size, 1, none⟩ = some (.slice V2 ids.length c2) := (hc2 _ _ (by simp)).trans (by simp [go_sem])
            have hbx6 := (hc2 w.heap.size 6 (by omega)).trans ((World.cell?_alloc_lt wo _ ⟨w.heap.size, 6, none⟩ hsz).trans hbox)
            have hbx7 := (hc2 w.heap.size 7 (by omega)).trans ((World.cell?_alloc_lt wo _ ⟨w.heap.size, 7, none⟩ hsz).trans hbox7)
            have hb3 : Below w.heap.size w w2 := Below.trans (b := wo.alloc _) (Below.alloc hb (by omega) _) (hb2.mono (by omega))
            have Hids2 := Lib.hid (Hids.out.go (Below.trans (b := wo.alloc _) (by go_grown) (hb2.mono (by omega))))
            clear hc2 hf2 hbox hbox7
            go_loopw [6] (fun i wr => ∃ j : Nat, j ≤ ids.length ∧ i = .int .i64 j ∧ Below w2.heap.size w2 wr ∧ Hid (∀ i, i < j → Sp.idAt ids i = true)) (fun i _ => ids.length - (intOf i).toNat)
            case atStart => exact ⟨0, Nat.zero_le _, rfl, Below.refl _ _, fun j h => absurd h (by omega)⟩
            case round =>
              obtain ⟨j, hj, rfl, hbq, hokj⟩ := hrel
              have hzq := hbq.size
              have hlbq := ((bcell hbq).1 (wo.heap.size) 1 (by omega)).trans hlb
              have hszq : w.heap.size < wr.heap.size := by omega
              by_cases hjl : j < ids.length
              · obtain ⟨ib, io, rfl, hib, hic⟩ := Hids2.out.at_ hjl
                have hic0 := (hbq.cell (p := ⟨_, _, none⟩) hib).trans (hic j hjl)
                have hic1 := (hbq.cell (p := ⟨_, _, none⟩) hib).trans (hic (j - 1) (by omega))
                clear hic
                have HJ := Lib.hid (Sp.idAt_def ids j)
                have hfl : Sp.idAt ids j = false → false = Sp.isFree p := fun h => Hfalse.out (by rw [HV.out, Sp.isIDs, Sp.allTo_false hjl h]; rfl)
                have Hfl := Lib.hid hfl
                have hnx : Sp.idAt ids j = true → ∀ i, i < j + 1 → Sp.idAt ids i = true := fun hv i hi => by
                  rcases Nat.lt_succ_iff_lt_or_eq.1 hi with h | rfl
                  · exact hokj.out i h
                  · exact hv
                have Hnx := Lib.hid hnx
                clear hfl hnx
                generalize ids.getD j 0 = u at *
                generalize ids.getD (j - 1) 0 = v at *
                have hszl : wo.heap.size < wr.heap.size := by omega
                have hibq : ib < wr.heap.size := by omega
                rcases hiv : Sp.isID u with _ | _
                · have HID := Lib.hid (fun w => show Calls Tryz.prog 93 #[.int .i64 u] w (fun e w' => e = .returned (.bool false) ∧ Below w.heap.size w w') from by have h := dpage_any u w; rw [hiv] at h; exact h)
                  have HIV := Lib.hid hiv
                  clear hiv hic1
                  go_wp2
                  refine wp_region_after (by kernel_rfl) (by kernel_rfl) (wr.heap.size) ?_
                  repeat (go_big_quiet_step ((go_at_call 93; exact after_call (Nat.le_refl _) (HID.out _))))
                  refine wpQuiet_nil ?_
                  intro w5 hb5
                  go_wp2
                  go_ret
                  refine ⟨ret_bool (Hfl.out ?_), by (repeat (first | (with_reducible exact Below.refl _ _) | (with_reducible assumption) | (refine below_step (by assumption) (by first | omega | (simp; done) | (simp; omega)) ?_) | (with_reducible refine Below.alloc ?_ (by first | omega | (simp; done) | (simp; omega)) _) | (with_reducible refine Below.drew ?_) | (with_reducible refine below_drewN ?_ _) | (with_reducible refine Below.setCell ?_ (by first | omega | (simp; done) | (simp; omega)) _)))⟩
                  rw [HJ.out, HIV.out]
                  rfl
                · have HID := Lib.hid (fun w => show Calls Tryz.prog 93 #[.int .i64 u] w (fun e w' => e = .returned (.bool true) ∧ Below w.heap.size w w') from by have h := dpage_any u w; rw [hiv] at h; exact h)
                  rw [hiv] at HJ
                  clear hiv
                  by_cases hj0 : 0 < j
                  · rcases hvu : decide (v < u) with _ | _
                    · have hvu1 : u ≤ v := Int.not_lt.1 (of_decide_eq_false hvu)
                      have HVU := Lib.hid hvu
                      clear hvu
                      go_wp2
                      refine wp_region_after (by kernel_rfl) (by kernel_rfl) (wr.heap.size) ?_
                      repeat (go_big_quiet_step ((go_at_call 93; exact after_call (Nat.le_refl _) (HID.out _))))
                      refine wpQuiet_nil ?_
                      intro w5 hb5
                      go_wp2
                      go_ret
                      refine ⟨ret_bool (Hfl.out ?_), by (repeat (first | (with_reducible exact Below.refl _ _) | (with_reducible assumption) | (refine below_step (by assumption) (by first | omega | (simp; done) | (simp; omega)) ?_) | (with_reducible refine Below.alloc ?_ (by first | omega | (simp; done) | (simp; omega)) _) | (with_reducible refine Below.drew ?_) | (with_reducible refine below_drewN ?_ _) | (with_reducible refine Below.setCell ?_ (by first | omega | (simp; done) | (simp; omega)) _)))⟩
                      rw [HJ.out, HVU.out, decide_eq_false (show ¬ j = 0 by omega)]
                      rfl
                    · have hvu1 : v < u := of_decide_eq_true hvu
                      have HVU := Lib.hid hvu
                      clear hvu
                      go_wp2
                      refine wp_region_after (by kernel_rfl) (by kernel_rfl) (wr.heap.size) ?_
                      repeat (go_big_quiet_step ((go_at_call 93; exact after_call (Nat.le_refl _) (HID.out _))))
                      refine wpQuiet_nil ?_
                      intro w5 hb5
                      go_wp2
                      refine ⟨⟨j + 1, by omega, by go_num, by (repeat (first | (with_reducible exact Below.refl _ _) | (with_reducible assumption) | (refine below_step (by assumption) (by first | omega | (simp; done) | (simp; omega)) ?_) | (with_reducible refine Below.alloc ?_ (by first | omega | (simp; done) | (simp; omega)) _) | (with_reducible refine Below.drew ?_) | (with_reducible refine below_drewN ?_ _) | (with_reducible refine Below.setCell ?_ (by first | omega | (simp; done) | (simp; omega)) _))), Hnx.out ?_⟩, by simp [intOf]; omega⟩
                      rw [HJ.out, HVU.out]
                      simp
                  · have hj00 : j = 0 := by omega
                    subst hj00
                    rw [Nat.add_zero] at hic0
                    clear hic1
                    go_wp2
                    refine wp_region_after (by kernel_rfl) (by kernel_rfl) (wr.heap.size) ?_
                    repeat (go_big_quiet_step ((go_at_call 93; exact after_call (Nat.le_refl _) (HID.out _))))
                    refine wpQuiet_nil ?_
                    intro w5 hb5
                    go_wp2
                    refine ⟨⟨1, by omega, by go_num, by (repeat (first | (with_reducible exact Below.refl _ _) | (with_reducible assumption) | (refine below_step (by assumption) (by first | omega | (simp; done) | (simp; omega)) ?_) | (with_reducible refine Below.alloc ?_ (by first | omega | (simp; done) | (simp; omega)) _) | (with_reducible refine Below.drew ?_) | (with_reducible refine below_drewN ?_ _) | (with_reducible refine Below.setCell ?_ (by first | omega | (simp; done) | (simp; omega)) _))), Hnx.out ?_⟩, by simp [intOf]; omega⟩
                    rw [HJ.out]
                    simp
              · have hjj : j = ids.length := by omega
                have hfok : Sp.freeAt p.free k = true := by
                  rw [HV.out, Sp.isIDs, Sp.allTo_true fun i hi => hokj.out i (by omega)]
                  rfl
                have HFO := Lib.hid hfok
                have hsh : ids.length ≤ 398 := by
                  have h := hfok
                  rw [Sp.freeAt_def] at h
                  have h2 : Sp.isIDs ids = true := Sp.allTo_true fun i hi => hokj.out i (by omega)
                  exact Sp.isIDs_short h2
                have hbx6q := ((bcell hbq).1 (w.heap.size) 6 (by omega)).trans hbx6
                have hbx7q := ((bcell hbq).1 (w.heap.size) 7 (by omega)).trans hbx7
                clear hfok
                go_wp2
                refine ⟨⟨k + 1, by omega, by go_num, by rw [HT.out]; go_num, hb3.trans (hbq.mono (by omega)), hszq, hbx6q, hbx7q, Hnext.out HFO.out⟩, by simp [intOf]; omega⟩
          · have hkz : ¬ 0 < k := by omega
            have HK := Lib.hid hk0
            clear hk0 HGO
            obtain ⟨wo, rfl⟩ : ∃ wo : World, wo = wr := ⟨_, rfl⟩
            go_wp2
            refine wp_region_after (by kernel_rfl) (by kernel_rfl) (wo.heap.size + 1) ?_
            repeat (go_big_quiet_step (fail))
            refine wpQuiet_nil ?_
            intro w2 hb2
            obtain ⟨hc2, hf2⟩ := bcell hb2
            have hz2 := hb2.size
            simp only [World.size_alloc] at hz2
            go_wp2
            have hlb : w2.cell? ⟨wo.heap.size, 1, none⟩ = some (.slice V2 ids.length c2) := (hc2 _ _ (by simp)).trans (by simp [go_sem])
            have hbx6 := (hc2 w.heap.size 6 (by omega)).trans ((World.cell?_alloc_lt wo _ ⟨w.heap.size, 6, none⟩ hsz).trans hbox)
            have hbx7 := (hc2 w.heap.size 7 (by omega)).trans ((World.cell?_alloc_lt wo _ ⟨w.heap.size, 7, none⟩ hsz).trans hbox7)
            have hb3 : Below w.heap.size w w2 := Below.trans (b := wo.alloc _) (Below.alloc hb (by omega) _) (hb2.mono (by omega))
            have Hids2 := Lib.hid (Hids.out.go (Below.trans (b := wo.alloc _) (by go_grown) (hb2.mono (by omega))))
            clear hc2 hf2 hbox hbox7
            go_loopw [6] (fun i wr => ∃ j : Nat, j ≤ ids.length ∧ i = .int .i64 j ∧ Below w2.heap.size w2 wr ∧ Hid (∀ i, i < j → Sp.idAt ids i = true)) (fun i _ => ids.length - (intOf i).toNat)
            case atStart => exact ⟨0, Nat.zero_le _, rfl, Below.refl _ _, fun j h => absurd h (by omega)⟩
            case round =>
              obtain ⟨j, hj, rfl, hbq, hokj⟩ := hrel
              have hzq := hbq.size
              have hlbq := ((bcell hbq).1 (wo.heap.size) 1 (by omega)).trans hlb
              have hszq : w.heap.size < wr.heap.size := by omega
              by_cases hjl : j < ids.length
              · obtain ⟨ib, io, rfl, hib, hic⟩ := Hids2.out.at_ hjl
                have hic0 := (hbq.cell (p := ⟨_, _, none⟩) hib).trans (hic j hjl)
                have hic1 := (hbq.cell (p := ⟨_, _, none⟩) hib).trans (hic (j - 1) (by omega))
                clear hic
                have HJ := Lib.hid (Sp.idAt_def ids j)
                have hfl : Sp.idAt ids j = false → false = Sp.isFree p := fun h => Hfalse.out (by rw [HV.out, Sp.isIDs, Sp.allTo_false hjl h]; rfl)
                have Hfl := Lib.hid hfl
                have hnx : Sp.idAt ids j = true → ∀ i, i < j + 1 → Sp.idAt ids i = true := fun hv i hi => by
                  rcases Nat.lt_succ_iff_lt_or_eq.1 hi with h | rfl
                  · exact hokj.out i h
                  · exact hv
                have Hnx := Lib.hid hnx
                clear hfl hnx
                generalize ids.getD j 0 = u at *
                generalize ids.getD (j - 1) 0 = v at *
                have hszl : wo.heap.size < wr.heap.size := by omega
                have hibq : ib < wr.heap.size := by omega
                rcases hiv : Sp.isID u with _ | _
                · have HID := Lib.hid (fun w => show Calls Tryz.prog 93 #[.int .i64 u] w (fun e w' => e = .returned (.bool false) ∧ Below w.heap.size w w') from by have h := dpage_any u w; rw [hiv] at h; exact h)
                  have HIV := Lib.hid hiv
                  clear hiv hic1
                  go_wp2
                  refine wp_region_after (by kernel_rfl) (by kernel_rfl) (wr.heap.size) ?_
                  repeat (go_big_quiet_step ((go_at_call 93; exact after_call (Nat.le_refl _) (HID.out _))))
                  refine wpQuiet_nil ?_
                  intro w5 hb5
                  go_wp2
                  go_ret
                  refine ⟨ret_bool (Hfl.out ?_), by (repeat (first | (with_reducible exact Below.refl _ _) | (with_reducible assumption) | (refine below_step (by assumption) (by first | omega | (simp; done) | (simp; omega)) ?_) | (with_reducible refine Below.alloc ?_ (by first | omega | (simp; done) | (simp; omega)) _) | (with_reducible refine Below.drew ?_) | (with_reducible refine below_drewN ?_ _) | (with_reducible refine Below.setCell ?_ (by first | omega | (simp; done) | (simp; omega)) _)))⟩
                  rw [HJ.out, HIV.out]
                  rfl
                · have HID := Lib.hid (fun w => show Calls Tryz.prog 93 #[.int .i64 u] w (fun e w' => e = .returned (.bool true) ∧ Below w.heap.size w w') from by have h := dpage_any u w; rw [hiv] at h; exact h)
                  rw [hiv] at HJ
                  clear hiv
                  by_cases hj0 : 0 < j
                  · rcases hvu : decide (v < u) with _ | _
                    · have hvu1 : u ≤ v := Int.not_lt.1 (of_decide_eq_false hvu)
                      have HVU := Lib.hid hvu
                      clear hvu
                      go_wp2
                      refine wp_region_after (by kernel_rfl) (by kernel_rfl) (wr.heap.size) ?_
                      repeat (go_big_quiet_step ((go_at_call 93; exact after_call (Nat.le_refl _) (HID.out _))))
                      refine wpQuiet_nil ?_
                      intro w5 hb5
                      go_wp2
                      go_ret
                      refine ⟨ret_bool (Hfl.out ?_), by (repeat (first | (with_reducible exact Below.refl _ _) | (with_reducible assumption) | (refine below_step (by assumption) (by first | omega | (simp; done) | (simp; omega)) ?_) | (with_reducible refine Below.alloc ?_ (by first | omega | (simp; done) | (simp; omega)) _) | (with_reducible refine Below.drew ?_) | (with_reducible refine below_drewN ?_ _) | (with_reducible refine Below.setCell ?_ (by first | omega | (simp; done) | (simp; omega)) _)))⟩
                      rw [HJ.out, HVU.out, decide_eq_false (show ¬ j = 0 by omega)]
                      rfl
                    · have hvu1 : v < u := of_decide_eq_true hvu
                      have HVU := Lib.hid hvu
                      clear hvu
                      go_wp2
                      refine wp_region_after (by kernel_rfl) (by kernel_rfl) (wr.heap.size) ?_
                      repeat (go_big_quiet_step ((go_at_call 93; exact after_call (Nat.le_refl _) (HID.out _))))
                      refine wpQuiet_nil ?_
                      intro w5 hb5
                      go_wp2
                      refine ⟨⟨j + 1, by omega, by go_num, by (repeat (first | (with_reducible exact Below.refl _ _) | (with_reducible assumption) | (refine below_step (by assumption) (by first | omega | (simp; done) | (simp; omega)) ?_) | (with_reducible refine Below.alloc ?_ (by first | omega | (simp; done) | (simp; omega)) _) | (with_reducible refine Below.drew ?_) | (with_reducible refine below_drewN ?_ _) | (with_reducible refine Below.setCell ?_ (by first | omega | (simp; done) | (simp; omega)) _))), Hnx.out ?_⟩, by simp [intOf]; omega⟩
                      rw [HJ.out, HVU.out]
                      simp
                  · have hj00 : j = 0 := by omega
                    subst hj00
                    rw [Nat.add_zero] at hic0
                    clear hic1
                    go_wp2
                    refine wp_region_after (by kernel_rfl) (by kernel_rfl) (wr.heap.size) ?_
                    repeat (go_big_quiet_step ((go_at_call 93; exact after_call (Nat.le_refl _) (HID.out _))))
                    refine wpQuiet_nil ?_
                    intro w5 hb5
                    go_wp2
                    refine ⟨⟨1, by omega, by go_num, by (repeat (first | (with_reducible exact Below.refl _ _) | (with_reducible assumption) | (refine below_step (by assumption) (by first | omega | (simp; done) | (simp; omega)) ?_) | (with_reducible refine Below.alloc ?_ (by first | omega | (simp; done) | (simp; omega)) _) | (with_reducible refine Below.drew ?_) | (with_reducible refine below_drewN ?_ _) | (with_reducible refine Below.setCell ?_ (by first | omega | (simp; done) | (simp; omega)) _))), Hnx.out ?_⟩, by simp [intOf]; omega⟩
                    rw [HJ.out]
                    simp
              · have hjj : j = ids.length := by omega
                have hfok : Sp.freeAt p.free k = true := by
                  rw [HV.out, Sp.isIDs, Sp.allTo_true fun i hi => hokj.out i (by omega)]
                  rfl
                have HFO := Lib.hid hfok
                have hsh : ids.length ≤ 398 := by
                  have h := hfok
                  rw [Sp.freeAt_def] at h
                  have h2 : Sp.isIDs ids = true := Sp.allTo_true fun i hi => hokj.out i (by omega)
                  exact Sp.isIDs_short h2
                have hbx6q := ((bcell hbq).1 (w.heap.size) 6 (by omega)).trans hbx6
                have hbx7q := ((bcell hbq).1 (w.heap.size) 7 (by omega)).trans hbx7
                clear hfok
                go_wp2
                refine ⟨⟨k + 1, by omega, by go_num, by rw [HT.out]; go_num, hb3.trans (hbq.mono (by omega)), hszq, hbx6q, hbx7q, Hnext.out HFO.out⟩, by simp [intOf]; omega⟩
    · have hkl : k = p.free.length := by omega
      have htot : Sp.total (p.free.take k) ≤ 398 * k := Sp.total_le k (by omega) fun j hj => by
        have := hok.out j hj
        rw [Sp.freeAt_def] at this
        simp only [Bool.and_eq_true] at this
        exact Sp.isIDs_short this.2
      have htk : p.free.take k = p.free := List.take_of_length_le (by omega)
      rw [htk] at htot ⊢
      have HB2 := HB.out
      rw [Sp.allTo_true fun j hj => hok.out j (by omega)] at HB2
      have HB := Lib.hid HB2
      clear HB2 htk
      generalize Sp.total p.free = tt at *
      go_wp2_with (go_at_call 93; refine (dpage_any _ _).mono ?_; rintro e w2 ⟨rfl, hb2⟩; have hz := hb2.size; have hsz : w.heap.size < w2.heap.size := Nat.lt_of_lt_of_le (by first | exact hsz | omega | (simp; done) | (simp; omega)) hz; obtain ⟨hc2, hf2⟩ := bcell hb2)
      all_goals
        go_ret
        refine ⟨ret_bool ?_, by (repeat (first | (with_reducible exact Below.refl _ _) | (with_reducible assumption) | (refine below_step (by assumption) (by first | omega | (simp; done) | (simp; omega)) ?_) | (with_reducible refine Below.alloc ?_ (by first | omega | (simp; done) | (simp; omega)) _) | (with_reducible refine Below.drew ?_) | (with_reducible refine below_drewN ?_ _) | (with_reducible refine Below.setCell ?_ (by first | omega | (simp; done) | (simp; omega)) _)))⟩
        rw [HB.out]
        go_light
        grind [Sp.noneOr]
end Go.Proofs.YtmcpkhknjdiocaaGreat
