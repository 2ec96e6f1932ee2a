/- A root, values, an item as bytes. Free numbers as bytes. isItem. isLeaf. -/
import Derived.Test.YtmcpkhknjdiocaaGreatDoorQB04
import Derived.Test.YtmcpkhknjdiocaaGreatDoorQB08
set_option linter.unusedSimpArgs false
set_option linter.unusedVariables false
namespace Go.Proofs.YtmcpkhknjdiocaaGreatDoor
open Go.RowKit
attribute [local go_sem low] mk_extract
attribute [local go_sem] After.cell After.frozen mk_extract_end ByteArray.mk_append_mk
attribute [local go_sem] Sp.le8_length Sp.rootB_len
set_option maxRecDepth 100000 in
set_option maxHeartbeats 400000 in
theorem root_any (r : Sp.Root) (w : World) (h : Sp.isRoot r = true) :
    Calls Tryz.prog 207 #[.agg (rootV r).toArray] w fun e w' => e = .returned (.string ⟨(Sp.rootB r).toArray⟩) ∧ Below w.heap.size w w' := by
  obtain ⟨p, n, f⟩ := r
  obtain ⟨a0, a1, b0, b1, c0, c1⟩ := Sp.isRoot_rng h
  clear h
  simp only [rootV] at *
  go_enter Tryz.func207, Tryz.ntmps207
  go_wp2
  refine wp_region_after (by kernel_rfl) (by kernel_rfl) (w.heap.size + 1) ?_
  repeat (go_big_quiet_step ((go_at_call 195; exact after_call (by simp) (num_any _ (by omega) (by omega) _))))
  refine wpQuiet_nil ?_
  intro w1 hb
  go_wp2
  go_ret
  exact ⟨by simp [Sp.rootB], by (repeat (first | (with_reducible exact Below.refl _ _) | (with_reducible assumption) | (refine below_step (by assumption) (by first | omega | (simp; done) | (simp; omega)) ?_) | (with_reducible refine Below.alloc ?_ (by first | omega | (simp; done) | (simp; omega)) _) | (with_reducible refine Below.drew ?_) | (with_reducible refine below_drewN ?_ _) | (with_reducible refine Below.setCell ?_ (by first | omega | (simp; done) | (simp; omega)) _)))⟩
set_option maxRecDepth 100000 in
set_option maxHeartbeats 400000 in
theorem vals_any (l : List Txt) (A : Option Addr) (c : Nat) {M : Nat → Prop} (w : World) (hl : Txts w M A l) (hn : l.length ≤ 1000) :
    Calls Tryz.prog 205 #[.slice A l.length c] w fun e w' => e = .returned (.string ⟨(Sp.valsB l).toArray⟩) ∧ Below w.heap.size w w' := by
  have Hl := Lib.hid hl
  clear hl
  go_enter Tryz.func205, Tryz.ntmps205
  go_wp2_with (go_at_call 195; refine (num_any _ (by omega) (by omega) _).mono ?_; rintro e w1 ⟨rfl, hb⟩)
  have hz := hb.size
  go_loopw [3, 11] (fun o i wr => ∃ k : Nat, k ≤ l.length ∧ i = .int .i64 k ∧ o = .string ⟨(Sp.le8 l.length ++ Sp.textsB (l.take k)).toArray⟩ ∧ Below w.heap.size w wr) (fun _ i _ => l.length - (intOf i).toNat)
  case atStart => exact ⟨0, Nat.zero_le _, rfl, by simp [Sp.textsB], hb⟩
  case round =>
    obtain ⟨k, hk, rfl, rfl, hb2⟩ := hrel
    have hz2 := hb2.size
    by_cases hlt : k < l.length
    · obtain ⟨b, off, rfl, hbl, hc⟩ := Hl.out.at_ hlt
      have hc0 := (hb2.cell (p := ⟨_, _, none⟩) hbl).trans (hc k hlt)
      clear hc
      have HT := Lib.hid (Sp.textsB_succ l k hlt)
      have hle := Sp.textsB_le (l.take k)
      have hle2 : (Sp.textsB (l.take k)).length ≤ 65537 * 1000 := by
        rw [List.length_take] at hle
        omega
      clear hle
      have hte := Sp.text_le (l.getD k [])
      generalize l.getD k [] = x at *
      generalize Sp.textsB (l.take k) = t at *
      go_wp2_with (go_at_call 204; refine (packText_any x _).mono ?_; rintro e w3 ⟨rfl, hb3⟩)
      have hz3 := hb3.size
      refine ⟨⟨k + 1, by omega, by go_num, by rw [HT.out] <;> simp, by (repeat (first | (with_reducible exact Below.refl _ _) | (with_reducible assumption) | (refine below_step (by assumption) (by first | omega | (simp; done) | (simp; omega)) ?_) | (with_reducible refine Below.alloc ?_ (by first | omega | (simp; done) | (simp; omega)) _) | (with_reducible refine Below.drew ?_) | (with_reducible refine below_drewN ?_ _) | (with_reducible refine Below.setCell ?_ (by first | omega | (simp; done) | (simp; omega)) _)))⟩, by simp [intOf]; omega⟩
    · have hkl : k = l.length := by omega
      go_wp2
      go_ret
      have htk : l.take k = l := List.take_of_length_le (by omega)
      exact ⟨by simp [Sp.valsB, htk], hb2⟩
namespace Sp
theorem itemB1 {x : Item} (h : x.kind = 1) : itemB x = text x.key ++ le8 x.kind ++ text x.val := by simp [itemB, h]
theorem itemB2 {x : Item} (h : x.kind = 2) : itemB x = text x.key ++ le8 x.kind ++ (le8 x.run ++ le8 x.len) := by simp [itemB, h]
theorem itemB3 {x : Item} (h : x.kind = 3) : itemB x = text x.key ++ le8 x.kind ++ (valsB x.vals ++ le8 x.dup) := by simp [itemB, h]
theorem itemB4 {x : Item} (h1 : x.kind ≠ 1) (h2 : x.kind ≠ 2) (h3 : x.kind ≠ 3) : itemB x = text x.key ++ le8 x.kind ++ rootB x.root := by simp [itemB, h1, h2, h3]
theorem valsB_le (l : List Txt) : (valsB l).length ≤ 65537 * l.length + 8 := by
  have := textsB_le l
  simp only [valsB, List.length_append, le8_length]
  omega
theorem itemB_le {x : Item} (h : x.vals.length ≤ 3) : (itemB x).length ≤ 65537 * 4 + 40 := by
  have h1 := text_le x.key
  have h2 := text_le x.val
  have h3 := valsB_le x.vals
  unfold itemB
  split
  · simp only [List.length_append, le8_length]; omega
  · split
    · simp only [List.length_append, le8_length]; omega
    · split
      · simp only [List.length_append, le8_length]; omega
      · simp only [List.length_append, le8_length, rootB_len]; omega
end Sp
set_option maxRecDepth 100000 in
set_option maxHeartbeats 1600000 in
theorem item_any (x : Sp.Item) (V : Option Addr) (c : Nat) {M : Nat → Prop} (w : World) (hx : Txts w M V x.vals) (h : Sp.isItem x = true) :
    Calls Tryz.prog 203 #[.agg (itemV x V c).toArray] w fun e w' => e = .returned (.string ⟨(Sp.itemB x).toArray⟩) ∧ Below w.heap.size w w' := by
  obtain ⟨k0, k1, r0, r1, l0, l1, d0, d1, v1, hr⟩ := Sp.isItem_rng h
  have HR := Lib.hid hr
  have Hx := Lib.hid hx
  clear h hr hx
  have t1 := Sp.text_le x.key
  have t2 := Sp.text_le x.val
  have t3 := Sp.valsB_le x.vals
  have hsz : w.heap.size < w.heap.size + 1 := by omega
  simp only [itemV]
  rcases (by omega : x.kind = 1 ∨ x.kind = 2 ∨ x.kind = 3 ∨ (x.kind = 4 ∨ x.kind = 0)) with hk | hk | hk | hk
  · have e1 : (x.kind == 1) = true := by rw [beq_iff_eq]; omega
    have HK := Lib.hid (Sp.itemB1 hk)
    clear hk
    go_enter Tryz.func203, Tryz.ntmps203
    go_wp2
    refine wp_region_after (by kernel_rfl) (by kernel_rfl) (w.heap.size + 1) ?_
    repeat (go_big_quiet_step (first | (go_at_call 195; exact after_call (by simp) (num_any _ (by omega) (by omega) _)) | (go_at_call 204; exact after_call (by simp) (packText_any _ _))))
    refine wpQuiet_nil ?_
    intro w1 hb
    obtain ⟨hc, hf⟩ := bcell hb
    have hsz : w.heap.size < w1.heap.size := by have := hb.size; simp at this; omega
    go_wp2_with (go_at_call 204; refine (packText_any _ _).mono ?_; rintro e w2 ⟨rfl, hb2⟩; have hz := hb2.size; have hsz : w.heap.size < w2.heap.size := Nat.lt_of_lt_of_le (by first | exact hsz | omega | (simp; done) | (simp; omega)) hz; obtain ⟨hc2, hf2⟩ := bcell hb2)
    go_ret
    exact ⟨by rw [HK.out]; simp, by (repeat (first | (with_reducible exact Below.refl _ _) | (with_reducible assumption) | (refine below_step (by assumption) (by first | omega | (simp; done) | (simp; omega)) ?_) | (with_reducible refine Below.alloc ?_ (by first | omega | (simp; done) | (simp; omega)) _) | (with_reducible refine Below.drew ?_) | (with_reducible refine below_drewN ?_ _) | (with_reducible refine Below.setCell ?_ (by first | omega | (simp; done) | (simp; omega)) _)))⟩
  · have e1 : (x.kind == 1) = false := by rw [beq_eq_false_iff_ne]; omega
    have e2 : (x.kind == 2) = true := by rw [beq_iff_eq]; omega
    have HK := Lib.hid (Sp.itemB2 hk)
    clear hk
    go_enter Tryz.func203, Tryz.ntmps203
    go_wp2
    refine wp_region_after (by kernel_rfl) (by kernel_rfl) (w.heap.size + 1) ?_
    repeat (go_big_quiet_step (first | (go_at_call 195; exact after_call (by simp) (num_any _ (by omega) (by omega) _)) | (go_at_call 204; exact after_call (by simp) (packText_any _ _))))
    refine wpQuiet_nil ?_
    intro w1 hb
    obtain ⟨hc, hf⟩ := bcell hb
    have hsz : w.heap.size < w1.heap.size := by have := hb.size; simp at this; omega
    go_wp2
    refine wp_region_after (by kernel_rfl) (by kernel_rfl) (w1.heap.size) ?_
    repeat (go_big_quiet_step (first | (go_at_call 195; exact after_call (by simp) (num_any _ (by omega) (by omega) _))))
    refine wpQuiet_nil ?_
    intro w2 hb2
    go_wp2
    go_ret
    exact ⟨by rw [HK.out]; simp, by (repeat (first | (with_reducible exact Below.refl _ _) | (with_reducible assumption) | (refine below_step (by assumption) (by first | omega | (simp; done) | (simp; omega)) ?_) | (with_reducible refine Below.alloc ?_ (by first | omega | (simp; done) | (simp; omega)) _) | (with_reducible refine Below.drew ?_) | (with_reducible refine below_drewN ?_ _) | (with_reducible refine Below.setCell ?_ (by first | omega | (simp; done) | (simp; omega)) _)))⟩
  · have e1 : (x.kind == 1) = false := by rw [beq_eq_false_iff_ne]; omega
    have e2 : (x.kind == 2) = false := by rw [beq_eq_false_iff_ne]; omega
    have e3 : (x.kind == 3) = true := by rw [beq_iff_eq]; omega
    have HK := Lib.hid (Sp.itemB3 hk)
    clear hk
    go_enter Tryz.func203, Tryz.ntmps203
    go_wp2
    refine wp_region_after (by kernel_rfl) (by kernel_rfl) (w.heap.size + 1) ?_
    repeat (go_big_quiet_step (first | (go_at_call 195; exact after_call (by simp) (num_any _ (by omega) (by omega) _)) | (go_at_call 204; exact after_call (by simp) (packText_any _ _))))
    refine wpQuiet_nil ?_
    intro w1 hb
    obtain ⟨hc, hf⟩ := bcell hb
    have hsz : w.heap.size < w1.heap.size := by have := hb.size; simp at this; omega
    have Hb := Lib.hid hb
    go_wp2
    refine wp_region_after (by kernel_rfl) (by kernel_rfl) (w1.heap.size) ?_
    repeat (go_big_quiet_step (first | (go_at_call 195; exact after_call (by simp) (num_any _ (by omega) (by omega) _)) | (go_at_call 205; exact after_call (by simp) (vals_any x.vals V c _ (Hx.out.go (Below.trans (b := w1) (Below.trans (b := w.alloc _) (by go_grown) (Hb.out.mono (by omega))) ((After.h _).mono (by omega)))) (by omega)))))
    refine wpQuiet_nil ?_
    intro w2 hb2
    go_wp2
    go_ret
    exact ⟨by rw [HK.out]; simp, by (repeat (first | (with_reducible exact Below.refl _ _) | (with_reducible assumption) | (refine below_step (by assumption) (by first | omega | (simp; done) | (simp; omega)) ?_) | (with_reducible refine Below.alloc ?_ (by first | omega | (simp; done) | (simp; omega)) _) | (with_reducible refine Below.drew ?_) | (with_reducible refine below_drewN ?_ _) | (with_reducible refine Below.setCell ?_ (by first | omega | (simp; done) | (simp; omega)) _)))⟩
  · have e1 : (x.kind == 1) = false := by rw [beq_eq_false_iff_ne]; omega
    have e2 : (x.kind == 2) = false := by rw [beq_eq_false_iff_ne]; omega
    have e3 : (x.kind == 3) = false := by rw [beq_eq_false_iff_ne]; omega
    have HK := Lib.hid (Sp.itemB4 (x := x) (by omega) (by omega) (by omega))
    clear hk
    go_enter Tryz.func203, Tryz.ntmps203
    go_wp2
    refine wp_region_after (by kernel_rfl) (by kernel_rfl) (w.heap.size + 1) ?_
    repeat (go_big_quiet_step (first | (go_at_call 195; exact after_call (by simp) (num_any _ (by omega) (by omega) _)) | (go_at_call 204; exact after_call (by simp) (packText_any _ _))))
    refine wpQuiet_nil ?_
    intro w1 hb
    obtain ⟨hc, hf⟩ := bcell hb
    have hsz : w.heap.size < w1.heap.size := by have := hb.size; simp at this; omega
    go_wp2_with (go_at_call 207; refine (root_any x.root _ HR.out).mono ?_; rintro e w2 ⟨rfl, hb2⟩; have hz := hb2.size; have hsz : w.heap.size < w2.heap.size := Nat.lt_of_lt_of_le (by first | exact hsz | omega | (simp; done) | (simp; omega)) hz; obtain ⟨hc2, hf2⟩ := bcell hb2)
    go_ret
    exact ⟨by rw [HK.out]; simp, by (repeat (first | (with_reducible exact Below.refl _ _) | (with_reducible assumption) | (refine below_step (by assumption) (by first | omega | (simp; done) | (simp; omega)) ?_) | (with_reducible refine Below.alloc ?_ (by first | omega | (simp; done) | (simp; omega)) _) | (with_reducible refine Below.drew ?_) | (with_reducible refine below_drewN ?_ _) | (with_reducible refine Below.setCell ?_ (by first | omega | (simp; done) | (simp; omega)) _)))⟩
end Go.Proofs.YtmcpkhknjdiocaaGreatDoor
namespace Go.Proofs.YtmcpkhknjdiocaaGreatDoor
open Go.RowKit
attribute [local go_sem low] mk_extract
attribute [local go_sem] After.cell After.frozen mk_extract_end ByteArray.mk_append_mk
attribute [local go_sem] Sp.le8_length Sp.rootB_len
namespace Sp
theorem freesB_succ (l : List Free) (k : Nat) (h : k < l.length) : freesB (l.take (k + 1)) = freesB (l.take k) ++ freeB (l.getD k free0) := by
  unfold freesB
  rw [List.take_succ_eq_append_getElem h, List.map_append, List.flatten_append]
  simp [List.getD, h]
theorem numsB_succ (l : List Int) (k : Nat) (h : k < l.length) : numsB (l.take (k + 1)) = numsB (l.take k) ++ le8 (l.getD k 0) := by
  unfold numsB
  rw [List.take_succ_eq_append_getElem h, List.map_append, List.flatten_append]
  simp [List.getD, h]
theorem numsB_len : ∀ (l : List Int), (numsB l).length = 8 * l.length
  | [] => by simp [numsB]
  | a :: l => by
    have := numsB_len l
    simp only [numsB, List.map_cons, List.flatten_cons, List.length_append, le8_length, List.length_cons] at *
    omega
theorem total_app (a b : List Free) : total (a ++ b) = total a + total b := by simp [total]
theorem isFree_rng {p : Page} (h : isFree p = true) : p.free.length ≤ 20 ∧ 0 ≤ p.next ∧ p.next < 400 ∧
    ∀ k, k < p.free.length → (p.free.getD k free0).ids.length ≤ 20 ∧ ∀ j, j < (p.free.getD k free0).ids.length → 0 ≤ (p.free.getD k free0).ids.getD j 0 ∧ (p.free.getD k free0).ids.getD j 0 < 400 := by
  simp only [isFree, noneOr, isID, Bool.and_eq_true, Bool.or_eq_true, decide_eq_true_eq] at h
  obtain ⟨⟨ha, ht⟩, hn⟩ := h
  have hall := allTo_iff.1 ha
  have hk1 : ∀ k, k ≤ p.free.length → k ≤ total (p.free.take k) := by
    intro k
    induction k with
    | zero => intro _; exact Nat.zero_le _
    | succ k ih =>
      intro hk
      rw [total_take (by omega)]
      have h1 := ih (by omega)
      have h2 := hall k (by omega)
      rw [freeAt_def] at h2
      simp only [Bool.and_eq_true, decide_eq_true_eq] at h2
      have := List.length_pos_iff.2 h2.1.1
      omega
  have hl := hk1 p.free.length (Nat.le_refl _)
  rw [List.take_of_length_le (Nat.le_refl _)] at hl
  have hmono : ∀ k, k < p.free.length → (p.free.getD k free0).ids.length ≤ total p.free := by
    intro k hk
    have e : total p.free = total (p.free.take (k + 1)) + total (p.free.drop (k + 1)) := by rw [← total_app, List.take_append_drop]
    rw [e, total_take hk]
    omega
  refine ⟨by omega, by omega, by omega, fun k hk => ⟨Nat.le_trans (hmono k hk) ht, fun j hj => ?_⟩⟩
  have h2 := hall k hk
  rw [freeAt_def] at h2
  simp only [Bool.and_eq_true] at h2
  have h3 := allTo_iff.1 h2.2 j hj
  rw [idAt_def] at h3
  simp only [isID, Bool.and_eq_true, decide_eq_true_eq] at h3
  omega
theorem freeB_def (tx : Int) (ids : List Int) : freeB ⟨tx, ids⟩ = le8 tx ++ le8 ids.length ++ numsB ids := rfl
theorem freeB_len (f : Free) : (freeB f).length = 16 + 8 * f.ids.length := by
  simp only [freeB, List.length_append, le8_length, numsB_len]
theorem freesB_le {l : List Free} : ∀ k, k ≤ l.length → (∀ j, j < l.length → (l.getD j free0).ids.length ≤ 20) → (freesB (l.take k)).length ≤ 176 * k
  | 0, _, _ => by simp [freesB]
  | k + 1, hk, h => by
    rw [freesB_succ l k (by omega), List.length_append, freeB_len]
    have h1 := freesB_le k (by omega) h
    have h2 := h k (by omega)
    omega
end Sp
set_option maxRecDepth 100000 in
set_option maxHeartbeats 1600000 in
theorem free_any (p : Sp.Page) (r : Refs) {M : Nat → Prop} (w : World) (hp : PageRd w M p r) (h : Sp.isFree p = true) :
    Calls Tryz.prog 206 #[.agg (pageV p r).toArray] w fun e w' => e = .returned (.string ⟨(Sp.le8 p.free.length ++ Sp.freesB p.free ++ Sp.le8 p.next).toArray⟩) ∧ Below w.heap.size w w' := by
  have Hf := Lib.hid hp.free
  obtain ⟨hl20, hn0, hn1, hall⟩ := Sp.isFree_rng h
  have HA := Lib.hid hall
  clear hp h hall
  obtain ⟨I, K, D, V, F, ci, ck, cd, cv, cf⟩ := r
  simp only [pageV] at *
  have hsz : w.heap.size < w.heap.size + 1 := by omega
  go_enter Tryz.func206, Tryz.ntmps206
  go_wp2_with (go_at_call 195; refine (num_any _ (by omega) (by omega) _).mono ?_; rintro e w2 ⟨rfl, hb2⟩; have hz := hb2.size; have hsz : w.heap.size < w2.heap.size := Nat.lt_of_lt_of_le (by first | exact hsz | omega | (simp; done) | (simp; omega)) hz; obtain ⟨hc2, hf2⟩ := bcell hb2)
  have hbx6 : w2.cell? ⟨w.heap.size, 6, none⟩ = some (.slice F p.free.length cf) := (hc2 _ _ (by simp)).trans (by simp [go_sem])
  have hbx7 : w2.cell? ⟨w.heap.size, 7, none⟩ = some (.int .i64 p.next) := (hc2 _ _ (by simp)).trans (by simp [go_sem])
  have hb3 : Below w.heap.size w w2 := by (repeat (first | (with_reducible exact Below.refl _ _) | (with_reducible assumption) | (refine below_step (by assumption) (by first | omega | (simp; done) | (simp; omega)) ?_) | (with_reducible refine Below.alloc ?_ (by first | omega | (simp; done) | (simp; omega)) _) | (with_reducible refine Below.drew ?_) | (with_reducible refine below_drewN ?_ _) | (with_reducible refine Below.setCell ?_ (by first | omega | (simp; done) | (simp; omega)) _)))
  clear hc2 hf2 hb2 hz
  go_loopw [3, 15] (fun o i wr => ∃ k : Nat, k ≤ p.free.length ∧ i = .int .i64 k ∧ o = .string ⟨(Sp.le8 p.free.length ++ Sp.freesB (p.free.take k)).toArray⟩ ∧ Below w2.heap.size w2 wr) (fun _ i _ => p.free.length - (intOf i).toNat)
  case atStart => exact ⟨0, Nat.zero_le _, rfl, by simp [Sp.freesB], Below.refl _ _⟩
  case round =>
    obtain ⟨k, hk, rfl, rfl, hb⟩ := hrel
    have hsz4 := hb.size
    by_cases hlt : k < p.free.length
    · obtain ⟨fb, fo, rfl, hfb, hfc⟩ := Hf.out.at_ hlt
      obtain ⟨V2, c2, ⟨hc0, hc1⟩, hids, htx0, htx1⟩ := hfc k hlt
      clear hfc
      obtain ⟨hil, hidr⟩ := HA.out k hlt
      have hb5 := hb3.trans (hb.mono (by omega))
      have hc0 := (hb5.cell (p := ⟨_, _, none⟩) hfb).trans hc0
      have hc1 := (hb5.cell (p := ⟨_, _, none⟩) hfb).trans hc1
      have Hids := Lib.hid (hids.go hb5)
      have HT := Lib.hid (Sp.freesB_succ p.free k hlt)
      have htle := Sp.freesB_le (l := p.free) k (by omega) (fun j hj => (HA.out j hj).1)
      have HTX := Lib.hid (And.intro htx0 htx1)
      have hfbw : fb < wr.heap.size := by omega
      clear hids htx0 htx1
      generalize Sp.freesB (p.free.take k) = t at *
      generalize p.free.getD k Sp.free0 = x at *
      obtain ⟨tx, ids⟩ := x
      simp only at *
      have HX := Lib.hid (Sp.freeB_def tx ids)
      go_wp2
      refine wp_region_after (by kernel_rfl) (by kernel_rfl) (wr.heap.size + 1) ?_
      repeat (go_big_quiet_step (first | (go_at_call 61; exact after_call (by simp) (packNum_any _ HTX.out.1 HTX.out.2 _)) | (go_at_call 195; exact after_call (by simp) (num_any _ (by omega) (by omega) _))))
      refine wpQuiet_nil ?_
      intro w4 hb4
      obtain ⟨hc4, hf4⟩ := bcell hb4
      obtain ⟨wo, rfl⟩ : ∃ wo : World, wo = wr := ⟨_, rfl⟩
      have hz4 := hb4.size
      simp only [World.size_alloc] at hz4
      go_wp2
      have Hids2 := Lib.hid (Hids.out.go (w' := w4) (by (repeat (first | (with_reducible exact Below.refl _ _) | (with_reducible assumption) | (refine below_step (by assumption) (by first | omega | (simp; done) | (simp; omega)) ?_) | (with_reducible refine Below.alloc ?_ (by first | omega | (simp; done) | (simp; omega)) _) | (with_reducible refine Below.drew ?_) | (with_reducible refine below_drewN ?_ _) | (with_reducible refine Below.setCell ?_ (by first | omega | (simp; done) | (simp; omega)) _)))))
      have hb6 : Below w2.heap.size w2 w4 := by (repeat (first | (with_reducible exact Below.refl _ _) | (with_reducible assumption) | (refine below_step (by assumption) (by first | omega | (simp; done) | (simp; omega)) ?_) | (with_reducible refine Below.alloc ?_ (by first | omega | (simp; done) | (simp; omega)) _) | (with_reducible refine Below.drew ?_) | (with_reducible refine below_drewN ?_ _) | (with_reducible refine Below.setCell ?_ (by first | omega | (simp; done) | (simp; omega)) _)))
      have hwo : wo.heap.size < w4.heap.size := by omega
      clear hc4 hf4
      go_loopw [3, 32] (fun o i wr => ∃ j : Nat, j ≤ ids.length ∧ i = .int .i64 j ∧ o = .string ⟨((Sp.le8 p.free.length ++ t) ++ (Sp.le8 tx ++ Sp.le8 ids.length) ++ Sp.numsB (ids.take j)).toArray⟩ ∧ Below w4.heap.size w4 wr) (fun _ i _ => ids.length - (intOf i).toNat)
      case atStart => exact ⟨0, Nat.zero_le _, rfl, by simp [Sp.numsB], Below.refl _ _⟩
      case round =>
        obtain ⟨j, hj, rfl, rfl, hbq⟩ := hrel
        have hzq := hbq.size
        by_cases hjl : j < ids.length
        · obtain ⟨ib, io, rfl, hib, hic⟩ := Hids2.out.at_ hjl
          have hic0 := (hbq.cell (p := ⟨_, _, none⟩) hib).trans (hic j hjl)
          clear hic
          have hu := hidr j hjl
          have HJ := Lib.hid (Sp.numsB_succ ids j hjl)
          have hnl := Sp.numsB_len (ids.take j)
          have hnl2 : (Sp.numsB (ids.take j)).length ≤ 160 := by
            rw [hnl, List.length_take]
            omega
          clear hnl
          have HD := Lib.hid hidr
          clear hidr
          generalize Sp.numsB (ids.take j) = nb at *
          generalize ids.getD j 0 = u at *
          obtain ⟨hu0, hu1⟩ := hu
          go_wp2_with (go_at_call 195; refine (num_any _ (by omega) (by omega) _).mono ?_; rintro e w6 ⟨rfl, hb6⟩; have hz6 := hb6.size)
          exact ⟨⟨j + 1, by omega, by go_num, by rw [HJ.out]; simp, by (repeat (first | (with_reducible exact Below.refl _ _) | (with_reducible assumption) | (refine below_step (by assumption) (by first | omega | (simp; done) | (simp; omega)) ?_) | (with_reducible refine Below.alloc ?_ (by first | omega | (simp; done) | (simp; omega)) _) | (with_reducible refine Below.drew ?_) | (with_reducible refine below_drewN ?_ _) | (with_reducible refine Below.setCell ?_ (by first | omega | (simp; done) | (simp; omega)) _)))⟩, by simp [intOf]; omega⟩
        · have htk : ids.take j = ids := List.take_of_length_le (by omega)
          have HTK := Lib.hid htk
          clear htk
          go_wp2
          refine ⟨⟨k + 1, by omega, by go_num, ?_, by (repeat (first | (with_reducible exact Below.refl _ _) | (with_reducible assumption) | (refine below_step (by assumption) (by first | omega | (simp; done) | (simp; omega)) ?_) | (with_reducible refine Below.alloc ?_ (by first | omega | (simp; done) | (simp; omega)) _) | (with_reducible refine Below.drew ?_) | (with_reducible refine below_drewN ?_ _) | (with_reducible refine Below.setCell ?_ (by first | omega | (simp; done) | (simp; omega)) _)))⟩, by simp [intOf]; omega⟩
          rw [HT.out, HX.out]
          simp [HTK.out]
    · have htk : p.free.take k = p.free := List.take_of_length_le (by omega)
      have hbx7' := ((bcell hb).1 w.heap.size 7 (by omega)).trans hbx7
      have hfl : (Sp.freesB p.free).length ≤ 176 * 20 := by
        have := Sp.freesB_le (l := p.free) p.free.length (by omega) (fun j hj => (HA.out j hj).1)
        rw [List.take_of_length_le (by omega)] at this
        omega
      rw [htk]
      clear htk
      generalize ht : Sp.freesB p.free = t at *
      have HT := Lib.hid ht
      clear ht
      go_wp2_with (go_at_call 195; refine (num_any _ (by omega) (by omega) _).mono ?_; rintro e w6 ⟨rfl, hb6⟩; have hz6 := hb6.size)
      go_ret
      exact ⟨by simp [HT.out], by (repeat (first | (with_reducible exact Below.refl _ _) | (with_reducible assumption) | (refine below_step (by assumption) (by first | omega | (simp; done) | (simp; omega)) ?_) | (with_reducible refine Below.alloc ?_ (by first | omega | (simp; done) | (simp; omega)) _) | (with_reducible refine Below.drew ?_) | (with_reducible refine below_drewN ?_ _) | (with_reducible refine Below.setCell ?_ (by first | omega | (simp; done) | (simp; omega)) _)))⟩
end Go.Proofs.YtmcpkhknjdiocaaGreatDoor
namespace Go.Proofs.YtmcpkhknjdiocaaGreatDoor
open Go.RowKit
attribute [local go_sem low] mk_extract
attribute [local go_sem] After.cell After.frozen mk_extract_end ByteArray.mk_append_mk
theorem own_ex (x : Sp.Item) (V : Option Addr) (c : Nat) : ∃ V' c', ownV x V c = itemV (Sp.own x) V' c' ∧ ∀ (w : World) (M : Nat → Prop), Txts w M V x.vals → Txts w M V' (Sp.own x).vals := by
  by_cases h : x.kind = 3
  · refine ⟨V, c, by simp [ownV, h], fun w M hh => ?_⟩
    simpa [Sp.own, h] using hh
  · refine ⟨none, 0, by simp [ownV, h], fun w M hh => ?_⟩
    have : (Sp.own x).vals = [] := by
      unfold Sp.own
      split
      · rfl
      · split
        · rfl
        · split <;> rfl
    rw [this]
    exact Row.nil_
set_option maxRecDepth 100000 in
set_option maxHeartbeats 1600000 in
theorem isItem_any (x : Sp.Item) (V : Option Addr) (c : Nat) {M : Nat → Prop} (w : World) (hx : Txts w M V x.vals) :
    Calls Tryz.prog 181 #[.agg (itemV x V c).toArray] w fun e w' => e = .returned (.bool (Sp.isItem x)) ∧ Below w.heap.size w w' := by
  have HS := Lib.hid (short_any x.key)
  have HI := Lib.hid (Sp.isItem_def x)
  have Hx := Lib.hid hx
  obtain ⟨V', c', hv, ht⟩ := own_ex x V c
  have HO := Lib.hid (own_any x V c)
  rw [hv] at HO
  have HE := Lib.hid (fun w h => sameItem_any x (Sp.own x) V V' c c' w h (ht w M h))
  clear hv ht hx
  generalize Sp.own x = z at *
  have e0 : (itemV x V c).toArray = #[.string ⟨x.key.toArray⟩, .int .i64 x.kind, .string ⟨x.val.toArray⟩, .int .i64 x.run, .int .i64 x.len, .slice V x.vals.length c, .int .i64 x.dup, .int .i64 x.root.page, .int .i64 x.root.count, .int .i64 x.root.flags] := rfl
  have E0 := Lib.hid e0
  clear e0
  cases hs : Sp.short x.key
  · rw [hs] at HS HI
    have HH := Lib.hid hs
    clear hs
    rw [E0.out]
    go_enter Tryz.func181, Tryz.ntmps181
    go_wp2
    refine wp_region_after (by kernel_rfl) (by kernel_rfl) (w.heap.size + 1) ?_
    repeat (go_big_quiet_step (first | (go_at_call 183; exact after_call (by simp) (HS.out _))))
    refine wpQuiet_nil ?_
    intro w1 hb
    obtain ⟨hc, hf⟩ := bcell hb
    go_wp2
    go_ret
    exact ⟨by rw [HI.out]; rfl, Below.trans (b := w.alloc _) (by go_grown) (hb.mono (by simp))⟩
  · rw [hs] at HS HI
    have HH := Lib.hid hs
    clear hs
    cases hs : Sp.sameItem x z
    all_goals
      rw [hs] at HI
      have HE2 : ∀ w, Txts w M V x.vals → _ := HE.out
      rw [hs] at HE2
      have HE := Lib.hid HE2
      have HH2 := Lib.hid hs
      clear hs HE2
      rw [E0.out]
      go_enter Tryz.func181, Tryz.ntmps181
      go_wp2
      refine wp_region_after (by kernel_rfl) (by kernel_rfl) (w.heap.size + 1) ?_
      repeat (go_big_quiet_step (first | (go_at_call 183; exact after_call (by simp) (HS.out _)) | (go_at_call 199; exact after_call (by simp) (HO.out _)) | (go_at_call 198; exact after_call (by simp) (HE.out _ (Hx.out.go (Below.trans (b := w.alloc _) (by go_grown) ((After.h _).mono (by simp))))))))
      refine wpQuiet_nil ?_
      intro w1 hb
      obtain ⟨hc, hf⟩ := bcell hb
    · go_wp2
      go_ret
      exact ⟨by rw [HI.out]; rfl, Below.trans (b := w.alloc _) (by go_grown) (hb.mono (by simp))⟩
    · have Hb := Lib.hid hb
      have hsz : w.heap.size < w1.heap.size := by have := hb.size; simp at this; omega
      go_wp2_with (first
        | (go_at_call 182; refine (isID_any _ _).mono ?_; rintro e w2 ⟨rfl, hb2⟩; have hz := hb2.size; have hsz : w.heap.size < w2.heap.size := Nat.lt_of_lt_of_le (by first | exact hsz | omega | (simp; done) | (simp; omega)) hz; obtain ⟨hc2, hf2⟩ := bcell hb2)
        | (go_at_call 157; refine (isVals_any x.vals V c 1 3 _ (Hx.out.go (by (repeat (first | (with_reducible exact Below.refl _ _) | (with_reducible assumption) | (refine below_step (by assumption) (by first | omega | (simp; done) | (simp; omega)) ?_) | (with_reducible refine Below.alloc ?_ (by first | omega | (simp; done) | (simp; omega)) _) | (with_reducible refine Below.drew ?_) | (with_reducible refine below_drewN ?_ _) | (with_reducible refine Below.setCell ?_ (by first | omega | (simp; done) | (simp; omega)) _)))))).mono ?_; rintro e w2 ⟨rfl, hb2⟩; have hz := hb2.size; have hsz : w.heap.size < w2.heap.size := Nat.lt_of_lt_of_le (by first | exact hsz | omega | (simp; done) | (simp; omega)) hz; obtain ⟨hc2, hf2⟩ := bcell hb2)
        | (go_at_call 159; refine (isRoot_any x.root _).mono ?_; rintro e w2 ⟨rfl, hb2⟩; have hz := hb2.size; have hsz : w.heap.size < w2.heap.size := Nat.lt_of_lt_of_le (by first | exact hsz | omega | (simp; done) | (simp; omega)) hz; obtain ⟨hc2, hf2⟩ := bcell hb2))
      all_goals
        go_ret
        refine ⟨ret_bool ?_, by (repeat (first | (with_reducible exact Below.refl _ _) | (with_reducible assumption) | (refine below_step (by assumption) (by first | omega | (simp; done) | (simp; omega)) ?_) | (with_reducible refine Below.alloc ?_ (by first | omega | (simp; done) | (simp; omega)) _) | (with_reducible refine Below.drew ?_) | (with_reducible refine below_drewN ?_ _) | (with_reducible refine Below.setCell ?_ (by first | omega | (simp; done) | (simp; omega)) _)))⟩
        rw [HI.out]
        go_light
        grind [Sp.kindOk, List.length_eq_zero_iff]
end Go.Proofs.YtmcpkhknjdiocaaGreatDoor
namespace Go.Proofs.YtmcpkhknjdiocaaGreatDoor
open Go.RowKit
attribute [local go_sem low] mk_extract
attribute [local go_sem] After.cell After.frozen mk_extract_end ByteArray.mk_append_mk
set_option maxRecDepth 100000 in
set_option maxHeartbeats 1600000 in
theorem isLeaf_any (l : List Sp.Item) (A : Option Addr) (c : Nat) {M : Nat → Prop} (w : World) (hl : Items w M A l) :
    Calls Tryz.prog 155 #[.slice A l.length c] w fun e w' => e = .returned (.bool (Sp.isLeaf l)) ∧ Below w.heap.size w w' := by
  have hlen := hl.len
  have Hl := Lib.hid hl
  clear hl
  go_enter Tryz.func155, Tryz.ntmps155
  go_wp2
  go_loopw [7] (fun i wr => ∃ k : Nat, k ≤ l.length ∧ i = .int .i64 k ∧ Below w.heap.size w wr ∧ Hid (∀ j, j < k → Sp.leafAt l j = true)) (fun i _ => l.length - (intOf i).toNat)
  case atStart => exact ⟨0, Nat.zero_le _, rfl, Below.refl _ _, fun j h => absurd h (by omega)⟩
  case round =>
    obtain ⟨k, hk, rfl, hb, hok⟩ := hrel
    have hsz := hb.size
    by_cases hlt : k < l.length
    · obtain ⟨b, off, rfl, hbl, hc⟩ := Hl.out.at_ hlt
      obtain ⟨V, cv, hi, ht⟩ := hc k hlt
      have hk1 : 0 < k → wr.cell? ⟨b, off + (k - 1) * 10, none⟩ = some (.string ⟨(l.getD (k - 1) Sp.item0).key.toArray⟩) := fun h => by
        obtain ⟨V', cv', hi', ht'⟩ := hc (k - 1) (by omega)
        exact (hb.cell (p := ⟨_, _, none⟩) hbl).trans hi'.c0
      clear hc
      have hi := hi.keep (w' := wr) fun j => hb.cell (p := ⟨_, _, none⟩) hbl
      have ht := Lib.hid (ht.go hb)
      obtain ⟨h0, h1, h2, h3, h4, h5, h6, h7, h8, h9⟩ := hi
      have HV := Lib.hid (Sp.leafAt_def l k)
      have hbw : b < wr.heap.size := by omega
      generalize l.getD k Sp.item0 = x at *
      generalize (l.getD (k - 1) Sp.item0).key = y at *
      have HI := Lib.hid (fun w => isItem_any x V cv (M := M) w)
      have hclose : ∀ w2, Sp.leafAt l k = false → Below w.heap.size w w2 → (Ending.returned (.bool false) = .returned (.bool (Sp.isLeaf l)) ∧ Below w.heap.size w w2) := fun w2 hv h2 =>
        ⟨by rw [Sp.isLeaf, Sp.allTo_false hlt hv]; rfl, h2⟩
      have Hclose := Lib.hid hclose
      clear hclose
      have hnext : Sp.leafAt l k = true → ∀ j, j < k + 1 → Sp.leafAt l j = true := fun hv j hj => by
        rcases Nat.lt_succ_iff_lt_or_eq.1 hj with h | rfl
        · exact hok.out j h
        · exact hv
      have Hnext := Lib.hid hnext
      clear hnext
      cases hI : Sp.isItem x
      · rw [hI] at HI HV
        have HI2 := Lib.hid hI
        clear hI
        go_wp2
        refine wp_region_after (by kernel_rfl) (by kernel_rfl) (wr.heap.size + 1) ?_
        repeat (go_big_quiet_step (first | (go_at_call 181; exact after_call (by simp) (HI.out _ (Txts.go ht.out (Below.trans (b := wr.alloc _) (by go_grown) ((After.h _).mono (by simp))))))))
        refine wpQuiet_nil ?_
        intro w2 hb2
        go_wp2
        go_ret
        exact Hclose.out _ (by rw [HV.out]; rfl) (by (repeat (first | (with_reducible exact Below.refl _ _) | (with_reducible assumption) | (refine below_step (by assumption) (by first | omega | (simp; done) | (simp; omega)) ?_) | (with_reducible refine Below.alloc ?_ (by first | omega | (simp; done) | (simp; omega)) _) | (with_reducible refine Below.drew ?_) | (with_reducible refine below_drewN ?_ _) | (with_reducible refine Below.setCell ?_ (by first | omega | (simp; done) | (simp; omega)) _))))
      · rw [hI] at HI HV
        have HI2 := Lib.hid hI
        clear hI
        by_cases h0k : k = 0
        · have hkz : ¬ 0 < k := by omega
          have HK := Lib.hid h0k
          clear h0k
          go_wp2
          refine wp_region_after (by kernel_rfl) (by kernel_rfl) (wr.heap.size + 1) ?_
          repeat (go_big_quiet_step (first | (go_at_call 181; exact after_call (by simp) (HI.out _ (Txts.go ht.out (Below.trans (b := wr.alloc _) (by go_grown) ((After.h _).mono (by simp))))))))
          refine wpQuiet_nil ?_
          intro w2 hb2
          go_wp2
          exact ⟨⟨k + 1, by omega, by go_num, by (repeat (first | (with_reducible exact Below.refl _ _) | (with_reducible assumption) | (refine below_step (by assumption) (by first | omega | (simp; done) | (simp; omega)) ?_) | (with_reducible refine Below.alloc ?_ (by first | omega | (simp; done) | (simp; omega)) _) | (with_reducible refine Below.drew ?_) | (with_reducible refine below_drewN ?_ _) | (with_reducible refine Below.setCell ?_ (by first | omega | (simp; done) | (simp; omega)) _))), Hnext.out (by rw [HV.out]; simp [HK.out])⟩, by simp [intOf]; omega⟩
        · have hkz : 0 < k := by omega
          have hk2 := hk1 hkz
          clear hk1
          have HK := Lib.hid h0k
          clear h0k
          cases hlt2 : Op.bytesLess y x.key
          all_goals
            go_wp2
            refine wp_region_after (by kernel_rfl) (by kernel_rfl) (wr.heap.size + 1) ?_
            repeat (go_big_quiet_step (first | (go_at_call 181; exact after_call (by simp) (HI.out _ (Txts.go ht.out (Below.trans (b := wr.alloc _) (by go_grown) ((After.h _).mono (by simp))))))))
            refine wpQuiet_nil ?_
            intro w2 hb2
            go_wp2
          · go_ret
            exact Hclose.out _ (by rw [HV.out]; simp [HK.out, Sp.lt, hlt2]) (by (repeat (first | (with_reducible exact Below.refl _ _) | (with_reducible assumption) | (refine below_step (by assumption) (by first | omega | (simp; done) | (simp; omega)) ?_) | (with_reducible refine Below.alloc ?_ (by first | omega | (simp; done) | (simp; omega)) _) | (with_reducible refine Below.drew ?_) | (with_reducible refine below_drewN ?_ _) | (with_reducible refine Below.setCell ?_ (by first | omega | (simp; done) | (simp; omega)) _))))
          · exact ⟨⟨k + 1, by omega, by go_num, by (repeat (first | (with_reducible exact Below.refl _ _) | (with_reducible assumption) | (refine below_step (by assumption) (by first | omega | (simp; done) | (simp; omega)) ?_) | (with_reducible refine Below.alloc ?_ (by first | omega | (simp; done) | (simp; omega)) _) | (with_reducible refine Below.drew ?_) | (with_reducible refine below_drewN ?_ _) | (with_reducible refine Below.setCell ?_ (by first | omega | (simp; done) | (simp; omega)) _))), Hnext.out (by rw [HV.out]; simp [Sp.lt, hlt2])⟩, by simp [intOf]; omega⟩
    · have hkl : k = l.length := by omega
      go_wp2
      all_goals
        go_ret
        refine ⟨ret_bool ?_, hb⟩
        go_light
        rw [Sp.isLeaf, Sp.allTo_true fun j hj => hok.out j (by omega)]
        grind
end Go.Proofs.YtmcpkhknjdiocaaGreatDoor
