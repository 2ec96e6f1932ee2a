/- The plain specification of a page's bytes. A root, values, an item as bytes. Free numbers as bytes. slices.Equal at texts and numbers. Whether an item may be; whether items are alike. isItem. -/
import Derived.Test.YtlpmjeiogdlifaaGreatQB00
import Derived.Test.YtlpmjeiogdlifaaGreatQB01
import Derived.Test.YtlpmjeiogdlifaaGreatQB05
import Derived.RegionTactic
import Derived.ChangeAlike
import Derived.BigRegion
set_option linter.unusedSimpArgs false
set_option linter.unusedVariables false
namespace Go.Proofs.YtlpmjeiogdlifaaGreat
namespace Sp
def rootB (r : Root) : Txt := le8 r.page ++ le8 r.count ++ le8 r.flags
def textsB (l : List Txt) : Txt := (l.map text).flatten
def valsB (l : List Txt) : Txt := le8 l.length ++ textsB l
def itemB (x : Item) : Txt :=
  text x.key ++ le8 x.kind ++ (if x.kind = 1 then text x.val else if x.kind = 2 then le8 x.run ++ le8 x.len else if x.kind = 3 then valsB x.vals ++ le8 x.dup else rootB x.root)
def itemsB (l : List Item) : Txt := (l.map itemB).flatten
def numsB (l : List Int) : Txt := (l.map le8).flatten
def freeB (f : Free) : Txt := le8 f.txn ++ le8 f.ids.length ++ numsB f.ids
def freesB (l : List Free) : Txt := (l.map freeB).flatten
def kidB (keys : List Txt) (kids : List Int) (i : Nat) : Txt := text (keys.getD i []) ++ le8 (kids.getD i 0)
def kidsTo (keys : List Txt) (kids : List Int) (n : Nat) : Txt := ((List.range n).map (kidB keys kids)).flatten
def mtB (m : Mt) : Txt := le8 m.txn ++ rootB m.main ++ le8 m.free ++ le8 m.last
def partsB (p : Page) : Txt :=
  if p.kind = 1 then le8 p.items.length ++ itemsB p.items
  else if p.kind = 2 then le8 p.kids.length ++ kidsTo p.keys p.kids p.kids.length
  else if p.kind = 3 then text p.text
  else if p.kind = 4 then valsB p.vals
  else if p.kind = 5 then le8 p.free.length ++ freesB p.free ++ le8 p.next
  else if p.kind = 6 then mtB p.mt
  else []
def body (p : Page) : Txt := le8 p.kind ++ partsB p
def bytes (p : Page) : Txt := if isPage p = true then le8 (sum (body p)) ++ body p else []
theorem text_le (s : Txt) : (text s).length ≤ 65537 := by
  simp only [text, cutText, List.length_append, leN_length, List.length_take]
  omega
theorem rootB_len (r : Root) : (rootB r).length = 24 := by simp [rootB, le8_length]
theorem textsB_le : ∀ (l : List Txt), (textsB l).length ≤ 65537 * l.length
  | [] => by simp [textsB]
  | a :: l => by
    have := textsB_le l
    have := text_le a
    simp only [textsB, List.map_cons, List.flatten_cons, List.length_append, List.length_cons] at *
    omega
theorem textsB_succ (l : List Txt) (k : Nat) (h : k < l.length) : textsB (l.take (k + 1)) = textsB (l.take k) ++ text (l.getD k []) := by
  unfold textsB
  rw [List.take_succ_eq_append_getElem h, List.map_append, List.flatten_append]
  simp [List.getD, h]
theorem isRoot_rng {r : Root} (h : isRoot r = true) : 0 ≤ r.page ∧ r.page < 400 ∧ 0 ≤ r.count ∧ r.count ≤ 1000000 ∧ 0 ≤ r.flags ∧ r.flags ≤ 1 := by
  simp only [isRoot, noneOr, isID, Bool.and_eq_true, Bool.or_eq_true, decide_eq_true_eq] at h
  omega
theorem isItem_rng {x : Item} (h : isItem x = true) : 0 ≤ x.kind ∧ x.kind ≤ 4 ∧ 0 ≤ x.run ∧ x.run < 400 ∧ 0 ≤ x.len ∧ x.len ≤ 1000 ∧ 0 ≤ x.dup ∧ x.dup < 400 ∧ x.vals.length ≤ 3 ∧ isRoot x.root = true := by
  simp only [isItem, sameItem, kindOk, Bool.and_eq_true, decide_eq_true_eq] at h
  obtain ⟨⟨_, ho⟩, hk⟩ := h
  obtain ⟨key, kind, val, run, len, vals, dup, rt⟩ := x
  simp only [own] at *
  have hr0 : isRoot root0 = true := by decide
  by_cases h1 : kind = 1
  · simp only [h1, if_true, Item.mk.injEq] at ho
    obtain ⟨_, _, _, rfl, rfl, rfl, rfl, rfl⟩ := ho
    refine ⟨by omega, by omega, by omega, by omega, by omega, by omega, by omega, by omega, by simp, hr0⟩
  · rw [if_neg h1] at ho hk
    by_cases h2 : kind = 2
    · simp only [h2, if_true, Item.mk.injEq] at ho hk
      obtain ⟨_, _, rfl, _, _, rfl, rfl, rfl⟩ := ho
      simp only [isID, Bool.and_eq_true, decide_eq_true_eq] at hk
      refine ⟨by omega, by omega, by omega, by omega, by omega, by omega, by omega, by omega, by simp, hr0⟩
    · rw [if_neg h2] at ho hk
      by_cases h3 : kind = 3
      · simp only [h3, if_true, Item.mk.injEq] at ho hk
        obtain ⟨_, _, rfl, rfl, rfl, _, _, rfl⟩ := ho
        simp only [isID, isVals, Bool.and_eq_true, Bool.or_eq_true, decide_eq_true_eq] at hk
        rcases hk with ⟨hd, ⟨_, _⟩, hv⟩ | ⟨rfl, hd⟩
        · refine ⟨by omega, by omega, by omega, by omega, by omega, by omega, by omega, by omega, by omega, hr0⟩
        · refine ⟨by omega, by omega, by omega, by omega, by omega, by omega, by omega, by omega, by simp, hr0⟩
      · rw [if_neg h3] at ho hk
        by_cases h4 : kind = 4
        · simp only [h4, if_true, Item.mk.injEq] at ho hk
          obtain ⟨_, _, rfl, rfl, rfl, rfl, rfl, _⟩ := ho
          refine ⟨by omega, by omega, by omega, by omega, by omega, by omega, by omega, by omega, by simp, hk⟩
        · rw [if_neg h4] at hk
          exact absurd hk (by simp)
end Sp
end Go.Proofs.YtlpmjeiogdlifaaGreat
namespace Go.Proofs.YtlpmjeiogdlifaaGreat
open Go.RowKit
attribute [local go_sem low] mk_extract
attribute [local go_sem] After.cell After.frozen mk_extract_end ByteArray.mk_append_mk
attribute [local go_sem] Sp.le8_length Sp.rootB_len
set_option maxRecDepth 100000 in
set_option maxHeartbeats 400000 in
theorem root_any (r : Sp.Root) (w : World) (h : Sp.isRoot r = true) :
    Calls Tryz.prog 227 #[.agg (rootV r).toArray] w fun e w' => e = .returned (.string ⟨(Sp.rootB r).toArray⟩) ∧ Below w.heap.size w w' := by
  obtain ⟨p, n, f⟩ := r
  obtain ⟨a0, a1, b0, b1, c0, c1⟩ := Sp.isRoot_rng h
  clear h
  simp only [rootV] at *
  go_enter Tryz.func227, Tryz.ntmps227
  go_wp2
  refine wp_region_after (by kernel_rfl) (by kernel_rfl) (w.heap.size + 1) ?_
  repeat (go_big_quiet_step ((go_at_call 182; exact after_call (by simp) (num_any _ (by omega) (by omega) _))))
  refine wpQuiet_nil ?_
  intro w1 hb
  go_wp2
  go_ret
  exact ⟨by simp [Sp.rootB], by (repeat (first | (with_reducible exact Below.refl _ _) | (with_reducible assumption) | (refine below_step (by assumption) (by first | omega | (simp; done) | (simp; omega)) ?_) | (with_reducible refine Below.alloc ?_ (by first | omega | (simp; done) | (simp; omega)) _) | (with_reducible refine Below.drew ?_) | (with_reducible refine below_drewN ?_ _) | (with_reducible refine Below.setCell ?_ (by first | omega | (simp; done) | (simp; omega)) _)))⟩
set_option maxRecDepth 100000 in
set_option maxHeartbeats 400000 in
theorem vals_any (l : List Txt) (A : Option Addr) (c : Nat) {M : Nat → Prop} (w : World) (hl : Txts w M A l) (hn : l.length ≤ 1000) :
    Calls Tryz.prog 225 #[.slice A l.length c] w fun e w' => e = .returned (.string ⟨(Sp.valsB l).toArray⟩) ∧ Below w.heap.size w w' := by
  have Hl := Lib.hid hl
  clear hl
  go_enter Tryz.func225, Tryz.ntmps225
  go_wp2_with (go_at_call 182; refine (num_any _ (by omega) (by omega) _).mono ?_; rintro e w1 ⟨rfl, hb⟩)
  have hz := hb.size
  go_loopw [3, 11] (fun o i wr => ∃ k : Nat, k ≤ l.length ∧ i = .int .i64 k ∧ o = .string ⟨(Sp.le8 l.length ++ Sp.textsB (l.take k)).toArray⟩ ∧ Below w.heap.size w wr) (fun _ i _ => l.length - (intOf i).toNat)
  case atStart => exact ⟨0, Nat.zero_le _, rfl, by simp [Sp.textsB], hb⟩
  case round =>
    obtain ⟨k, hk, rfl, rfl, hb2⟩ := hrel
    have hz2 := hb2.size
    by_cases hlt : k < l.length
    · obtain ⟨b, off, rfl, hbl, hc⟩ := Hl.out.at_ hlt
      have hc0 := (hb2.cell (p := ⟨_, _, none⟩) hbl).trans (hc k hlt)
      clear hc
      have HT := Lib.hid (Sp.textsB_succ l k hlt)
      have hle := Sp.textsB_le (l.take k)
      have hle2 : (Sp.textsB (l.take k)).length ≤ 65537 * 1000 := by
        rw [List.length_take] at hle
        omega
      clear hle
      have hte := Sp.text_le (l.getD k [])
      generalize l.getD k [] = x at *
      generalize Sp.textsB (l.take k) = t at *
      go_wp2_with (go_at_call 224; refine (packText_any x _).mono ?_; rintro e w3 ⟨rfl, hb3⟩)
      have hz3 := hb3.size
      refine ⟨⟨k + 1, by omega, by go_num, by rw [HT.out] <;> simp, by (repeat (first | (with_reducible exact Below.refl _ _) | (with_reducible assumption) | (refine below_step (by assumption) (by first | omega | (simp; done) | (simp; omega)) ?_) | (with_reducible refine Below.alloc ?_ (by first | omega | (simp; done) | (simp; omega)) _) | (with_reducible refine Below.drew ?_) | (with_reducible refine below_drewN ?_ _) | (with_reducible refine Below.setCell ?_ (by first | omega | (simp; done) | (simp; omega)) _)))⟩, by simp [intOf]; omega⟩
    · have hkl : k = l.length := by omega
      go_wp2
      go_ret
      have htk : l.take k = l := List.take_of_length_le (by omega)
      exact ⟨by simp [Sp.valsB, htk], hb2⟩
namespace Sp
theorem itemB1 {x : Item} (h : x.kind = 1) : itemB x = text x.key ++ le8 x.kind ++ text x.val := by simp [itemB, h]
theorem itemB2 {x : Item} (h : x.kind = 2) : itemB x = text x.key ++ le8 x.kind ++ (le8 x.run ++ le8 x.len) := by simp [itemB, h]
theorem itemB3 {x : Item} (h : x.kind = 3) : itemB x = text x.key ++ le8 x.kind ++ (valsB x.vals ++ le8 x.dup) := by simp [itemB, h]
theorem itemB4 {x : Item} (h1 : x.kind ≠ 1) (h2 : x.kind ≠ 2) (h3 : x.kind ≠ 3) : itemB x = text x.key ++ le8 x.kind ++ rootB x.root := by simp [itemB, h1, h2, h3]
theorem valsB_le (l : List Txt) : (valsB l).length ≤ 65537 * l.length + 8 := by
  have := textsB_le l
  simp only [valsB, List.length_append, le8_length]
  omega
theorem itemB_le {x : Item} (h : x.vals.length ≤ 3) : (itemB x).length ≤ 65537 * 4 + 40 := by
  have h1 := text_le x.key
  have h2 := text_le x.val
  have h3 := valsB_le x.vals
  unfold itemB
  split
  · simp only [List.length_append, le8_length]; omega
  · split
    · simp only [List.length_append, le8_length]; omega
    · split
      · simp only [List.length_append, le8_length]; omega
      · simp only [List.length_append, le8_length, rootB_len]; omega
end Sp
set_option maxRecDepth 100000 in
set_option maxHeartbeats 1600000 in
theorem item_any (x : Sp.Item) (V : Option Addr) (c : Nat) {M : Nat → Prop} (w : World) (hx : Txts w M V x.vals) (h : Sp.isItem x = true) :
    Calls Tryz.prog 223 #[.agg (itemV x V c).toArray] w fun e w' => e = .returned (.string ⟨(Sp.itemB x).toArray⟩) ∧ Below w.heap.size w w' := by
  obtain ⟨k0, k1, r0, r1, l0, l1, d0, d1, v1, hr⟩ := Sp.isItem_rng h
  have HR := Lib.hid hr
  have Hx := Lib.hid hx
  clear h hr hx
  have t1 := Sp.text_le x.key
  have t2 := Sp.text_le x.val
  have t3 := Sp.valsB_le x.vals
  have hsz : w.heap.size < w.heap.size + 1 := by omega
  simp only [itemV]
  rcases (by omega : x.kind = 1 ∨ x.kind = 2 ∨ x.kind = 3 ∨ (x.kind = 4 ∨ x.kind = 0)) with hk | hk | hk | hk
  · have e1 : (x.kind == 1) = true := by rw [beq_iff_eq]; omega
    have HK := Lib.hid (Sp.itemB1 hk)
    clear hk
    go_enter Tryz.func223, Tryz.ntmps223
    go_wp2
    refine wp_region_after (by kernel_rfl) (by kernel_rfl) (w.heap.size + 1) ?_
    repeat (go_big_quiet_step (first | (go_at_call 182; exact after_call (by simp) (num_any _ (by omega) (by omega) _)) | (go_at_call 224; exact after_call (by simp) (packText_any _ _))))
    refine wpQuiet_nil ?_
    intro w1 hb
    obtain ⟨hc, hf⟩ := bcell hb
    have hsz : w.heap.size < w1.heap.size := by have := hb.size; simp at this; omega
    go_wp2_with (go_at_call 224; refine (packText_any _ _).mono ?_; rintro e w2 ⟨rfl, hb2⟩; have hz := hb2.size; have hsz : w.heap.size < w2.heap.size := Nat.lt_of_lt_of_le (by first | exact hsz | omega | (simp; done) | (simp; omega)) hz; obtain ⟨hc2, hf2⟩ := bcell hb2)
    go_ret
    exact ⟨by rw [HK.out]; simp, by (repeat (first | (with_reducible exact Below.refl _ _) | (with_reducible assumption) | (refine below_step (by assumption) (by first | omega | (simp; done) | (simp; omega)) ?_) | (with_reducible refine Below.alloc ?_ (by first | omega | (simp; done) | (simp; omega)) _) | (with_reducible refine Below.drew ?_) | (with_reducible refine below_drewN ?_ _) | (with_reducible refine Below.setCell ?_ (by first | omega | (simp; done) | (simp; omega)) _)))⟩
  · have e1 : (x.kind == 1) = false := by rw [beq_eq_false_iff_ne]; omega
    have e2 : (x.kind == 2) = true := by rw [beq_iff_eq]; omega
    have HK := Lib.hid (Sp.itemB2 hk)
    clear hk
    go_enter Tryz.func223, Tryz.ntmps223
    go_wp2
    refine wp_region_after (by kernel_rfl) (by kernel_rfl) (w.heap.size + 1) ?_
    repeat (go_big_quiet_step (first | (go_at_call 182; exact after_call (by simp) (num_any _ (by omega) (by omega) _)) | (go_at_call 224; exact after_call (by simp) (packText_any _ _))))
    refine wpQuiet_nil ?_
    intro w1 hb
    obtain ⟨hc, hf⟩ := bcell hb
    have hsz : w.heap.size < w1.heap.size := by have := hb.size; simp at this; omega
    go_wp2
    refine wp_region_after (by kernel_rfl) (by kernel_rfl) (w1.heap.size) ?_
    repeat (go_big_quiet_step (first | (go_at_call 182; exact after_call (by simp) (num_any _ (by omega) (by omega) _))))
    refine wpQuiet_nil ?_
    intro w2 hb2
    go_wp2
    go_ret
    exact ⟨by rw [HK.out]; simp, by (repeat (first | (with_reducible exact Below.refl _ _) | (with_reducible assumption) | (refine below_step (by assumption) (by first | omega | (simp; done) | (simp; omega)) ?_) | (with_reducible refine Below.alloc ?_ (by first | omega | (simp; done) | (simp; omega)) _) | (with_reducible refine Below.drew ?_) | (with_reducible refine below_drewN ?_ _) | (with_reducible refine Below.setCell ?_ (by first | omega | (simp; done) | (simp; omega)) _)))⟩
  · have e1 : (x.kind == 1) = false := by rw [beq_eq_false_iff_ne]; omega
    have e2 : (x.kind == 2) = false := by rw [beq_eq_false_iff_ne]; omega
    have e3 : (x.kind == 3) = true := by rw [beq_iff_eq]; omega
    have HK := Lib.hid (Sp.itemB3 hk)
    clear hk
    go_enter Tryz.func223, Tryz.ntmps223
    go_wp2
    refine wp_region_after (by kernel_rfl) (by kernel_rfl) (w.heap.size + 1) ?_
    repeat (go_big_quiet_step (first | (go_at_call 182; exact after_call (by simp) (num_any _ (by omega) (by omega) _)) | (go_at_call 224; exact after_call (by simp) (packText_any _ _))))
    refine wpQuiet_nil ?_
    intro w1 hb
    obtain ⟨hc, hf⟩ := bcell hb
    have hsz : w.heap.size < w1.heap.size := by have := hb.size; simp at this; omega
    have Hb := Lib.hid hb
    go_wp2
    refine wp_region_after (by kernel_rfl) (by kernel_rfl) (w1.heap.size) ?_
    repeat (go_big_quiet_step (first | (go_at_call 182; exact after_call (by simp) (num_any _ (by omega) (by omega) _)) | (go_at_call 225; exact after_call (by simp) (vals_any x.vals V c _ (Hx.out.go (Below.trans (b := w1) (Below.trans (b := w.alloc _) (by go_grown) (Hb.out.mono (by omega))) ((After.h _).mono (by omega)))) (by omega)))))
    refine wpQuiet_nil ?_
    intro w2 hb2
    go_wp2
    go_ret
    exact ⟨by rw [HK.out]; simp, by (repeat (first | (with_reducible exact Below.refl _ _) | (with_reducible assumption) | (refine below_step (by assumption) (by first | omega | (simp; done) | (simp; omega)) ?_) | (with_reducible refine Below.alloc ?_ (by first | omega | (simp; done) | (simp; omega)) _) | (with_reducible refine Below.drew ?_) | (with_reducible refine below_drewN ?_ _) | (with_reducible refine Below.setCell ?_ (by first | omega | (simp; done) | (simp; omega)) _)))⟩
  · have e1 : (x.kind == 1) = false := by rw [beq_eq_false_iff_ne]; omega
    have e2 : (x.kind == 2) = false := by rw [beq_eq_false_iff_ne]; omega
    have e3 : (x.kind == 3) = false := by rw [beq_eq_false_iff_ne]; omega
    have HK := Lib.hid (Sp.itemB4 (x := x) (by omega) (by omega) (by omega))
    clear hk
    go_enter Tryz.func223, Tryz.ntmps223
    go_wp2
    refine wp_region_after (by kernel_rfl) (by kernel_rfl) (w.heap.size + 1) ?_
    repeat (go_big_quiet_step (first | (go_at_call 182; exact after_call (by simp) (num_any _ (by omega) (by omega) _)) | (go_at_call 224; exact after_call (by simp) (packText_any _ _))))
    refine wpQuiet_nil ?_
    intro w1 hb
    obtain ⟨hc, hf⟩ := bcell hb
    have hsz : w.heap.size < w1.heap.size := by have := hb.size; simp at this; omega
    go_wp2_with (go_at_call 227; refine (root_any x.root _ HR.out).mono ?_; rintro e w2 ⟨rfl, hb2⟩; have hz := hb2.size; have hsz : w.heap.size < w2.heap.size := Nat.lt_of_lt_of_le (by first | exact hsz | omega | (simp; done) | (simp; omega)) hz; obtain ⟨hc2, hf2⟩ := bcell hb2)
    go_ret
    exact ⟨by rw [HK.out]; simp, by (repeat (first | (with_reducible exact Below.refl _ _) | (with_reducible assumption) | (refine below_step (by assumption) (by first | omega | (simp; done) | (simp; omega)) ?_) | (with_reducible refine Below.alloc ?_ (by first | omega | (simp; done) | (simp; omega)) _) | (with_reducible refine Below.drew ?_) | (with_reducible refine below_drewN ?_ _) | (with_reducible refine Below.setCell ?_ (by first | omega | (simp; done) | (simp; omega)) _)))⟩
end Go.Proofs.YtlpmjeiogdlifaaGreat
namespace Go.Proofs.YtlpmjeiogdlifaaGreat
open Go.RowKit
attribute [local go_sem low] mk_extract
attribute [local go_sem] After.cell After.frozen mk_extract_end ByteArray.mk_append_mk
attribute [local go_sem] Sp.le8_length Sp.rootB_len
namespace Sp
theorem freesB_succ (l : List Free) (k : Nat) (h : k < l.length) : freesB (l.take (k + 1)) = freesB (l.take k) ++ freeB (l.getD k free0) := by
  unfold freesB
  rw [List.take_succ_eq_append_getElem h, List.map_append, List.flatten_append]
  simp [List.getD, h]
theorem numsB_succ (l : List Int) (k : Nat) (h : k < l.length) : numsB (l.take (k + 1)) = numsB (l.take k) ++ le8 (l.getD k 0) := by
  unfold numsB
  rw [List.take_succ_eq_append_getElem h, List.map_append, List.flatten_append]
  simp [List.getD, h]
theorem numsB_len : ∀ (l : List Int), (numsB l).length = 8 * l.length
  | [] => by simp [numsB]
  | a :: l => by
    have := numsB_len l
    simp only [numsB, List.map_cons, List.flatten_cons, List.length_append, le8_length, List.length_cons] at *
    omega
theorem total_app (a b : List Free) : total (a ++ b) = total a + total b := by simp [total]
theorem isFree_rng {p : Page} (h : isFree p = true) : p.free.length ≤ 20 ∧ 0 ≤ p.next ∧ p.next < 400 ∧
    ∀ k, k < p.free.length → (p.free.getD k free0).ids.length ≤ 20 ∧ ∀ j, j < (p.free.getD k free0).ids.length → 0 ≤ (p.free.getD k free0).ids.getD j 0 ∧ (p.free.getD k free0).ids.getD j 0 < 400 := by
  simp only [isFree, noneOr, isID, Bool.and_eq_true, Bool.or_eq_true, decide_eq_true_eq] at h
  obtain ⟨⟨ha, ht⟩, hn⟩ := h
  have hall := allTo_iff.1 ha
  have hk1 : ∀ k, k ≤ p.free.length → k ≤ total (p.free.take k) := by
    intro k
    induction k with
    | zero => intro _; exact Nat.zero_le _
    | succ k ih =>
      intro hk
      rw [total_take (by omega)]
      have h1 := ih (by omega)
      have h2 := hall k (by omega)
      rw [freeAt_def] at h2
      simp only [Bool.and_eq_true, decide_eq_true_eq] at h2
      have := List.length_pos_iff.2 h2.1.1
      omega
  have hl := hk1 p.free.length (Nat.le_refl _)
  rw [List.take_of_length_le (Nat.le_refl _)] at hl
  have hmono : ∀ k, k < p.free.length → (p.free.getD k free0).ids.length ≤ total p.free := by
    intro k hk
    have e : total p.free = total (p.free.take (k + 1)) + total (p.free.drop (k + 1)) := by rw [← total_app, List.take_append_drop]
    rw [e, total_take hk]
    omega
  refine ⟨by omega, by omega, by omega, fun k hk => ⟨Nat.le_trans (hmono k hk) ht, fun j hj => ?_⟩⟩
  have h2 := hall k hk
  rw [freeAt_def] at h2
  simp only [Bool.and_eq_true] at h2
  have h3 := allTo_iff.1 h2.2 j hj
  rw [idAt_def] at h3
  simp only [isID, Bool.and_eq_true, decide_eq_true_eq] at h3
  omega
theorem freeB_def (tx : Int) (ids : List Int) : freeB ⟨tx, ids⟩ = le8 tx ++ le8 ids.length ++ numsB ids := rfl
theorem freeB_len (f : Free) : (freeB f).length = 16 + 8 * f.ids.length := by
  simp only [freeB, List.length_append, le8_length, numsB_len]
theorem freesB_le {l : List Free} : ∀ k, k ≤ l.length → (∀ j, j < l.length → (l.getD j free0).ids.length ≤ 20) → (freesB (l.take k)).length ≤ 176 * k
  | 0, _, _ => by simp [freesB]
  | k + 1, hk, h => by
    rw [freesB_succ l k (by omega), List.length_append, freeB_len]
    have h1 := freesB_le k (by omega) h
    have h2 := h k (by omega)
    omega
end Sp
set_option maxRecDepth 100000 in
set_option maxHeartbeats 1600000 in
theorem free_any (p : Sp.Page) (r : Refs) {M : Nat → Prop} (w : World) (hp : PageRd w M p r) (h : Sp.isFree p = true) :
    Calls Tryz.prog 226 #[.agg (pageV p r).toArray] w fun e w' => e = .returned (.string ⟨(Sp.le8 p.free.length ++ Sp.freesB p.free ++ Sp.le8 p.next).toArray⟩) ∧ Below w.heap.size w w' := by
  have Hf := Lib.hid hp.free
  obtain ⟨hl20, hn0, hn1, hall⟩ := Sp.isFree_rng h
  have HA := Lib.hid hall
  clear hp h hall
  obtain ⟨I, K, D, V, F, ci, ck, cd, cv, cf⟩ := r
  simp only [pageV] at *
  have hsz : w.heap.size < w.heap.size + 1 := by omega
  go_enter Tryz.func226, Tryz.ntmps226
  go_wp2_with (go_at_call 182; refine (num_any _ (by omega) (by omega) _).mono ?_; rintro e w2 ⟨rfl, hb2⟩; have hz := hb2.size; have hsz : w.heap.size < w2.heap.size := Nat.lt_of_lt_of_le (by first | exact hsz | omega | (simp; done) | (simp; omega)) hz; obtain ⟨hc2, hf2⟩ := bcell hb2)
  have hbx6 : w2.cell? ⟨w.heap.size, 6, none⟩ = some (.slice F p.free.length cf) := (hc2 _ _ (by simp)).trans (by simp [go_sem])
  have hbx7 : w2.cell? ⟨w.heap.size, 7, none⟩ = some (.int .i64 p.next) := (hc2 _ _ (by simp)).trans (by simp [go_sem])
  have hb3 : Below w.heap.size w w2 := by (repeat (first | (with_reducible exact Below.refl _ _) | (with_reducible assumption) | (refine below_step (by assumption) (by first | omega | (simp; done) | (simp; omega)) ?_) | (with_reducible refine Below.alloc ?_ (by first | omega | (simp; done) | (simp; omega)) _) | (with_reducible refine Below.drew ?_) | (with_reducible refine below_drewN ?_ _) | (with_reducible refine Below.setCell ?_ (by first | omega | (simp; done) | (simp; omega)) _)))
  clear hc2 hf2 hb2 hz
  go_loopw [3, 15] (fun o i wr => ∃ k : Nat, k ≤ p.free.length ∧ i = .int .i64 k ∧ o = .string ⟨(Sp.le8 p.free.length ++ Sp.freesB (p.free.take k)).toArray⟩ ∧ Below w2.heap.size w2 wr) (fun _ i _ => p.free.length - (intOf i).toNat)
  case atStart => exact ⟨0, Nat.zero_le _, rfl, by simp [Sp.freesB], Below.refl _ _⟩
  case round =>
    obtain ⟨k, hk, rfl, rfl, hb⟩ := hrel
    have hsz4 := hb.size
    by_cases hlt : k < p.free.length
    · obtain ⟨fb, fo, rfl, hfb, hfc⟩ := Hf.out.at_ hlt
      obtain ⟨V2, c2, ⟨hc0, hc1⟩, hids, htx0, htx1⟩ := hfc k hlt
      clear hfc
      obtain ⟨hil, hidr⟩ := HA.out k hlt
      have hb5 := hb3.trans (hb.mono (by omega))
      have hc0 := (hb5.cell (p := ⟨_, _, none⟩) hfb).trans hc0
      have hc1 := (hb5.cell (p := ⟨_, _, none⟩) hfb).trans hc1
      have Hids := Lib.hid (hids.go hb5)
      have HT := Lib.hid (Sp.freesB_succ p.free k hlt)
      have htle := Sp.freesB_le (l := p.free) k (by omega) (fun j hj => (HA.out j hj).1)
      have HTX := Lib.hid (And.intro htx0 htx1)
      have hfbw : fb < wr.heap.size := by omega
      clear hids htx0 htx1
      generalize Sp.freesB (p.free.take k) = t at *
      generalize p.free.getD k Sp.free0 = x at *
      obtain ⟨tx, ids⟩ := x
      simp only at *
      have HX := Lib.hid (Sp.freeB_def tx ids)
      go_wp2
      refine wp_region_after (by kernel_rfl) (by kernel_rfl) (wr.heap.size + 1) ?_
      repeat (go_big_quiet_step (first | (go_at_call 184; exact after_call (by simp) (packNum_any _ HTX.out.1 HTX.out.2 _)) | (go_at_call 182; exact after_call (by simp) (num_any _ (by omega) (by omega) _))))
      refine wpQuiet_nil ?_
      intro w4 hb4
      obtain ⟨hc4, hf4⟩ := bcell hb4
      obtain ⟨wo, rfl⟩ : ∃ wo : World, wo = wr := ⟨_, rfl⟩
      have hz4 := hb4.size
      simp only [World.size_alloc] at hz4
      go_wp2
      have Hids2 := Lib.hid (Hids.out.go (w' := w4) (by (repeat (first | (with_reducible exact Below.refl _ _) | (with_reducible assumption) | (refine below_step (by assumption) (by first | omega | (simp; done) | (simp; omega)) ?_) | (with_reducible refine Below.alloc ?_ (by first | omega | (simp; done) | (simp; omega)) _) | (with_reducible refine Below.drew ?_) | (with_reducible refine below_drewN ?_ _) | (with_reducible refine Below.setCell ?_ (by first | omega | (simp; done) | (simp; omega)) _)))))
      have hb6 : Below w2.heap.size w2 w4 := by (repeat (first | (with_reducible exact Below.refl _ _) | (with_reducible assumption) | (refine below_step (by assumption) (by first | omega | (simp; done) | (simp; omega)) ?_) | (with_reducible refine Below.alloc ?_ (by first | omega | (simp; done) | (simp; omega)) _) | (with_reducible refine Below.drew ?_) | (with_reducible refine below_drewN ?_ _) | (with_reducible refine Below.setCell ?_ (by first | omega | (simp; done) | (simp; omega)) _)))
      have hwo : wo.heap.size < w4.heap.size := by omega
      clear hc4 hf4
      go_loopw [3, 32] (fun o i wr => ∃ j : Nat, j ≤ ids.length ∧ i = .int .i64 j ∧ o = .string ⟨((Sp.le8 p.free.length ++ t) ++ (Sp.le8 tx ++ Sp.le8 ids.length) ++ Sp.numsB (ids.take j)).toArray⟩ ∧ Below w4.heap.size w4 wr) (fun _ i _ => ids.length - (intOf i).toNat)
      case atStart => exact ⟨0, Nat.zero_le _, rfl, by simp [Sp.numsB], Below.refl _ _⟩
      case round =>
        obtain ⟨j, hj, rfl, rfl, hbq⟩ := hrel
        have hzq := hbq.size
        by_cases hjl : j < ids.length
        · obtain ⟨ib, io, rfl, hib, hic⟩ := Hids2.out.at_ hjl
          have hic0 := (hbq.cell (p := ⟨_, _, none⟩) hib).trans (hic j hjl)
          clear hic
          have hu := hidr j hjl
          have HJ := Lib.hid (Sp.numsB_succ ids j hjl)
          have hnl := Sp.numsB_len (ids.take j)
          have hnl2 : (Sp.numsB (ids.take j)).length ≤ 160 := by
            rw [hnl, List.length_take]
            omega
          clear hnl
          have HD := Lib.hid hidr
          clear hidr
          generalize Sp.numsB (ids.take j) = nb at *
          generalize ids.getD j 0 = u at *
          obtain ⟨hu0, hu1⟩ := hu
          go_wp2_with (go_at_call 182; refine (num_any _ (by omega) (by omega) _).mono ?_; rintro e w6 ⟨rfl, hb6⟩; have hz6 := hb6.size)
          exact ⟨⟨j + 1, by omega, by go_num, by rw [HJ.out]; simp, by (repeat (first | (with_reducible exact Below.refl _ _) | (with_reducible assumption) | (refine below_step (by assumption) (by first | omega | (simp; done) | (simp; omega)) ?_) | (with_reducible refine Below.alloc ?_ (by first | omega | (simp; done) | (simp; omega)) _) | (with_reducible refine Below.drew ?_) | (with_reducible refine below_drewN ?_ _) | (with_reducible refine Below.setCell ?_ (by first | omega | (simp; done) | (simp; omega)) _)))⟩, by simp [intOf]; omega⟩
        · have htk : ids.take j = ids := List.take_of_length_le (by omega)
          have HTK := Lib.hid htk
          clear htk
          go_wp2
          refine ⟨⟨k + 1, by omega, by go_num, ?_, by (repeat (first | (with_reducible exact Below.refl _ _) | (with_reducible assumption) | (refine below_step (by assumption) (by first | omega | (simp; done) | (simp; omega)) ?_) | (with_reducible refine Below.alloc ?_ (by first | omega | (simp; done) | (simp; omega)) _) | (with_reducible refine Below.drew ?_) | (with_reducible refine below_drewN ?_ _) | (with_reducible refine Below.setCell ?_ (by first | omega | (simp; done) | (simp; omega)) _)))⟩, by simp [intOf]; omega⟩
          rw [HT.out, HX.out]
          simp [HTK.out]
    · have htk : p.free.take k = p.free := List.take_of_length_le (by omega)
      have hbx7' := ((bcell hb).1 w.heap.size 7 (by omega)).trans hbx7
      have hfl : (Sp.freesB p.free).length ≤ 176 * 20 := by
        have := Sp.freesB_le (l := p.free) p.free.length (by omega) (fun j hj => (HA.out j hj).1)
        rw [List.take_of_length_le (by omega)] at this
        omega
      rw [htk]
      clear htk
      generalize ht : Sp.freesB p.free = t at *
      have HT := Lib.hid ht
      clear ht
      go_wp2_with (go_at_call 182; refine (num_any _ (by omega) (by omega) _).mono ?_; rintro e w6 ⟨rfl, hb6⟩; have hz6 := hb6.size)
      go_ret
      exact ⟨by simp [HT.out], by (repeat (first | (with_reducible exact Below.refl _ _) | (with_reducible assumption) | (refine below_step (by assumption) (by first | omega | (simp; done) | (simp; omega)) ?_) | (with_reducible refine Below.alloc ?_ (by first | omega | (simp; done) | (simp; omega)) _) | (with_reducible refine Below.drew ?_) | (with_reducible refine below_drewN ?_ _) | (with_reducible refine Below.setCell ?_ (by first | omega | (simp; done) | (simp; omega)) _)))⟩
end Go.Proofs.YtlpmjeiogdlifaaGreat
namespace Go.Proofs.YtlpmjeiogdlifaaGreat
open Go.RowKit
attribute [local go_sem low] mk_extract
attribute [local go_sem] After.cell After.frozen mk_extract_end ByteArray.mk_append_mk
set_option maxRecDepth 100000 in
set_option maxHeartbeats 400000 in
theorem equalTxts (l m : List Txt) (A B : Option Addr) (c d : Nat) {M N : Nat → Prop} (w : World) (hl : Txts w M A l) (hm : Txts w N B m) :
    Calls Tryz.prog 243 #[.slice A l.length c, .slice B m.length d] w fun e w' => e = .returned (.bool (decide (l = m))) ∧ Below w.heap.size w w' := by
  have hlen := hl.len
  have hmen := hm.len
  have Hl := Lib.hid hl
  have Hm := Lib.hid hm
  clear hl hm
  by_cases he : l.length = m.length
  · have he1 : ((l.length : Int) == (m.length : Int)) = true := by simp [he]
    have he2 : ((l.length : Int) != (m.length : Int)) = false := by simp [he]
    have HE := Lib.hid he
    clear he
    go_enter Tryz.func243, Tryz.ntmps243
    go_wp2
    go_loopw [13] (fun i wr => ∃ k : Nat, k ≤ l.length ∧ i = .int .i64 k ∧ Below w.heap.size w wr ∧ Hid (∀ j, j < k → l.getD j [] = m.getD j [])) (fun i _ => l.length - (intOf i).toNat)
    case atStart => exact ⟨0, Nat.zero_le _, rfl, Below.refl _ _, fun j h => absurd h (by omega)⟩
    case round =>
      obtain ⟨k, hk, rfl, hb, hok⟩ := hrel
      have hsz := hb.size
      by_cases hlt : k < l.length
      · obtain ⟨b, off, rfl, hbl, hc⟩ := Hl.out.at_ hlt
        obtain ⟨b2, off2, rfl, hbl2, hc2⟩ := Hm.out.at_ (HE.out ▸ hlt : k < m.length)
        have hltm : k < m.length := HE.out ▸ hlt
        have hc0 := (hb.cell (p := ⟨b, off + k, none⟩) hbl).trans (hc k hlt)
        have hc1 := (hb.cell (p := ⟨b2, off2 + k, none⟩) hbl2).trans (hc2 k hltm)
        have hbw : b < wr.heap.size := by omega
        have hbw2 : b2 < wr.heap.size := by omega
        clear hc hc2
        generalize hx : l.getD k [] = x at *
        generalize hy : m.getD k [] = y at *
        have HX := Lib.hid hx
        have HY := Lib.hid hy
        clear hx hy
        go_wp2
        refine wp_region_after (by kernel_rfl) (by kernel_rfl) (wr.heap.size) ?_
        repeat (go_big_quiet_step (fail))
        refine wpQuiet_nil ?_
        intro w2 hb2
        have hb3 := hb.trans (hb2.mono hsz)
        go_wp2
        all_goals first
          | (go_ret
             go_light
             have hne : x ≠ y := by grind
             exact ⟨ret_bool (by simpa using Sp.ne_at (k := k) (d := []) (by rw [HX.out, HY.out]; exact hne)), hb3⟩)
          | (go_light
             have hee : x = y := by grind
             refine ⟨⟨k + 1, by omega, by go_num, hb3, fun j hj => ?_⟩, by simp [intOf]; omega⟩
             rcases Nat.lt_succ_iff_lt_or_eq.1 hj with h | rfl
             · exact hok.out j h
             · rw [HX.out, HY.out]; exact hee)
      · have hkl : k = l.length := by omega
        go_wp2
        go_ret
        refine ⟨ret_bool ?_, hb⟩
        have := Sp.eq_all HE.out (fun j hj => hok.out j (by omega))
        simp [this]
  · have he1 : ((l.length : Int) == (m.length : Int)) = false := by simp; omega
    have he2 : ((l.length : Int) != (m.length : Int)) = true := by simp; omega
    have HE := Lib.hid he
    clear he
    go_enter Tryz.func243, Tryz.ntmps243
    go_wp2
    go_ret
    refine ⟨ret_bool ?_, Below.refl _ _⟩
    have hne : l ≠ m := fun e => HE.out (by rw [e])
    simp [hne]
end Go.Proofs.YtlpmjeiogdlifaaGreat
namespace Go.Proofs.YtlpmjeiogdlifaaGreat
open Go.RowKit
attribute [local go_sem low] mk_extract
attribute [local go_sem] After.cell After.frozen mk_extract_end ByteArray.mk_append_mk
def ownV (x : Sp.Item) (V : Option Addr) (c : Nat) : List Value := if x.kind = 3 then itemV (Sp.own x) V c else itemV (Sp.own x) none 0
set_option maxRecDepth 100000 in
set_option maxHeartbeats 1600000 in
theorem own_any (x : Sp.Item) (V : Option Addr) (c : Nat) (w : World) :
    Calls Tryz.prog 212 #[.agg (itemV x V c).toArray] w fun e w' => e = .returned (.agg (ownV x V c).toArray) ∧ Below w.heap.size w w' := by
  obtain ⟨key, kind, val, run, len, vals, dup, rt⟩ := x
  simp only [itemV]
  by_cases h1 : kind = 1
  · subst h1
    go_enter Tryz.func212, Tryz.ntmps212
    go_wp2
    go_returns
    exact ⟨by simp [ownV, itemV, Sp.own, Sp.root0], by go_grown⟩
  · by_cases h2 : kind = 2
    · subst h2
      go_enter Tryz.func212, Tryz.ntmps212
      go_wp2
      go_region
      go_wp2
      go_returns
      exact ⟨by simp [ownV, itemV, Sp.own, Sp.root0], by go_grown⟩
    · by_cases h3 : kind = 3
      · subst h3
        go_enter Tryz.func212, Tryz.ntmps212
        go_wp2
        go_region
        go_wp2
        go_returns
        exact ⟨by simp [ownV, itemV, Sp.own, Sp.root0], by go_grown⟩
      · by_cases h4 : kind = 4
        · subst h4
          go_enter Tryz.func212, Tryz.ntmps212
          go_wp2
          go_returns
          exact ⟨by simp [ownV, itemV, Sp.own, Sp.root0], by go_grown⟩
        · go_enter Tryz.func212, Tryz.ntmps212
          go_wp2
          go_returns
          exact ⟨by simp [ownV, itemV, Sp.own, Sp.root0, h1, h2, h3, h4], by go_grown⟩
set_option maxRecDepth 100000 in
set_option maxHeartbeats 1600000 in
theorem sameItem_any (x y : Sp.Item) (V W : Option Addr) (c d : Nat) {M N : Nat → Prop} (w : World) (hx : Txts w M V x.vals) (hy : Txts w N W y.vals) :
    Calls Tryz.prog 211 #[.agg (itemV x V c).toArray, .agg (itemV y W d).toArray] w fun e w' => e = .returned (.bool (Sp.sameItem x y)) ∧ Below w.heap.size w w' := by
  obtain ⟨key, kind, val, run, len, vals, dup, ⟨rp, rc, rf⟩⟩ := x
  obtain ⟨key', kind', val', run', len', vals', dup', ⟨rp', rc', rf'⟩⟩ := y
  simp only [itemV]
  have Hx := Lib.hid hx
  have Hy := Lib.hid hy
  clear hx hy
  go_enter Tryz.func211, Tryz.ntmps211
  go_wp2_with (go_at_call 243; refine (equalTxts vals vals' V W c d _ (Hx.out.go (by go_grown)) (Hy.out.go (by go_grown))).mono ?_; rintro e w1 ⟨rfl, hb⟩; obtain ⟨hc, hf⟩ := bcell hb)
  all_goals
    go_ret
    go_light
    refine ⟨ret_bool ?_, by first | (refine Below.trans (b := (w.alloc _).alloc _) ?_ (hb.mono (by simp; omega)); go_grown) | go_grown⟩
    simp only [Sp.sameItem]
    grind
end Go.Proofs.YtlpmjeiogdlifaaGreat
namespace Go.Proofs.YtlpmjeiogdlifaaGreat
open Go.RowKit
attribute [local go_sem low] mk_extract
attribute [local go_sem] After.cell After.frozen mk_extract_end ByteArray.mk_append_mk
theorem own_ex (x : Sp.Item) (V : Option Addr) (c : Nat) : ∃ V' c', ownV x V c = itemV (Sp.own x) V' c' ∧ ∀ (w : World) (M : Nat → Prop), Txts w M V x.vals → Txts w M V' (Sp.own x).vals := by
  by_cases h : x.kind = 3
  · refine ⟨V, c, by simp [ownV, h], fun w M hh => ?_⟩
    simpa [Sp.own, h] using hh
  · refine ⟨none, 0, by simp [ownV, h], fun w M hh => ?_⟩
    have : (Sp.own x).vals = [] := by
      unfold Sp.own
      split
      · rfl
      · split
        · rfl
        · split <;> rfl
    rw [this]
    exact Row.nil_
set_option maxRecDepth 100000 in
set_option maxHeartbeats 1600000 in
theorem isItem_any (x : Sp.Item) (V : Option Addr) (c : Nat) {M : Nat → Prop} (w : World) (hx : Txts w M V x.vals) :
    Calls Tryz.prog 161 #[.agg (itemV x V c).toArray] w fun e w' => e = .returned (.bool (Sp.isItem x)) ∧ Below w.heap.size w w' := by
  have HS := Lib.hid (short_any x.key)
  have HI := Lib.hid (Sp.isItem_def x)
  have Hx := Lib.hid hx
  obtain ⟨V', c', hv, ht⟩ := own_ex x V c
  have HO := Lib.hid (own_any x V c)
  rw [hv] at HO
  have HE := Lib.hid (fun w h => sameItem_any x (Sp.own x) V V' c c' w h (ht w M h))
  clear hv ht hx
  generalize Sp.own x = z at *
  have e0 : (itemV x V c).toArray = #[.string ⟨x.key.toArray⟩, .int .i64 x.kind, .string ⟨x.val.toArray⟩, .int .i64 x.run, .int .i64 x.len, .slice V x.vals.length c, .int .i64 x.dup, .int .i64 x.root.page, .int .i64 x.root.count, .int .i64 x.root.flags] := rfl
  have E0 := Lib.hid e0
  clear e0
  cases hs : Sp.short x.key
  · rw [hs] at HS HI
    have HH := Lib.hid hs
    clear hs
    rw [E0.out]
    go_enter Tryz.func161, Tryz.ntmps161
    go_wp2
    refine wp_region_after (by kernel_rfl) (by kernel_rfl) (w.heap.size + 1) ?_
    repeat (go_big_quiet_step (first | (go_at_call 135; exact after_call (by simp) (HS.out _))))
    refine wpQuiet_nil ?_
    intro w1 hb
    obtain ⟨hc, hf⟩ := bcell hb
    go_wp2
    go_ret
    exact ⟨by rw [HI.out]; rfl, Below.trans (b := w.alloc _) (by go_grown) (hb.mono (by simp))⟩
  · rw [hs] at HS HI
    have HH := Lib.hid hs
    clear hs
    cases hs : Sp.sameItem x z
    all_goals
      rw [hs] at HI
      have HE2 : ∀ w, Txts w M V x.vals → _ := HE.out
      rw [hs] at HE2
      have HE := Lib.hid HE2
      have HH2 := Lib.hid hs
      clear hs HE2
      rw [E0.out]
      go_enter Tryz.func161, Tryz.ntmps161
      go_wp2
      refine wp_region_after (by kernel_rfl) (by kernel_rfl) (w.heap.size + 1) ?_
      repeat (go_big_quiet_step (first | (go_at_call 135; exact after_call (by simp) (HS.out _)) | (go_at_call 212; exact after_call (by simp) (HO.out _)) | (go_at_call 211; exact after_call (by simp) (HE.out _ (Hx.out.go (Below.trans (b := w.alloc _) (by go_grown) ((After.h _).mono (by simp))))))))
      refine wpQuiet_nil ?_
      intro w1 hb
      obtain ⟨hc, hf⟩ := bcell hb
    · go_wp2
      go_ret
      exact ⟨by rw [HI.out]; rfl, Below.trans (b := w.alloc _) (by go_grown) (hb.mono (by simp))⟩
    · have Hb := Lib.hid hb
      have hsz : w.heap.size < w1.heap.size := by have := hb.size; simp at this; omega
      go_wp2_with (first
        | (go_at_call 162; refine (isID_any _ _).mono ?_; rintro e w2 ⟨rfl, hb2⟩; have hz := hb2.size; have hsz : w.heap.size < w2.heap.size := Nat.lt_of_lt_of_le (by first | exact hsz | omega | (simp; done) | (simp; omega)) hz; obtain ⟨hc2, hf2⟩ := bcell hb2)
        | (go_at_call 108; refine (isVals_any x.vals V c 1 3 _ (Hx.out.go (by (repeat (first | (with_reducible exact Below.refl _ _) | (with_reducible assumption) | (refine below_step (by assumption) (by first | omega | (simp; done) | (simp; omega)) ?_) | (with_reducible refine Below.alloc ?_ (by first | omega | (simp; done) | (simp; omega)) _) | (with_reducible refine Below.drew ?_) | (with_reducible refine below_drewN ?_ _) | (with_reducible refine Below.setCell ?_ (by first | omega | (simp; done) | (simp; omega)) _)))))).mono ?_; rintro e w2 ⟨rfl, hb2⟩; have hz := hb2.size; have hsz : w.heap.size < w2.heap.size := Nat.lt_of_lt_of_le (by first | exact hsz | omega | (simp; done) | (simp; omega)) hz; obtain ⟨hc2, hf2⟩ := bcell hb2)
        | (go_at_call 110; refine (isRoot_any x.root _).mono ?_; rintro e w2 ⟨rfl, hb2⟩; have hz := hb2.size; have hsz : w.heap.size < w2.heap.size := Nat.lt_of_lt_of_le (by first | exact hsz | omega | (simp; done) | (simp; omega)) hz; obtain ⟨hc2, hf2⟩ := bcell hb2))
      all_goals
        go_ret
        refine ⟨ret_bool ?_, by (repeat (first | (with_reducible exact Below.refl _ _) | (with_reducible assumption) | (refine below_step (by assumption) (by first | omega | (simp; done) | (simp; omega)) ?_) | (with_reducible refine Below.alloc ?_ (by first | omega | (simp; done) | (simp; omega)) _) | (with_reducible refine Below.drew ?_) | (with_reducible refine below_drewN ?_ _) | (with_reducible refine Below.setCell ?_ (by first | omega | (simp; done) | (simp; omega)) _)))⟩
        rw [HI.out]
        go_light
        grind [Sp.kindOk, List.length_eq_zero_iff]
end Go.Proofs.YtlpmjeiogdlifaaGreat
