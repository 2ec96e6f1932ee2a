/- Whether a page may be. The parts of a page as bytes; a page as bytes. Reading: page.Read. -/
import Derived.Test.YtlpmjeiogdlifaaGreatQB04
import Derived.Test.YtlpmjeiogdlifaaGreatQB05
import Derived.Test.YtlpmjeiogdlifaaGreatQB06
import Derived.Test.YtlpmjeiogdlifaaGreatQB07
set_option linter.unusedSimpArgs false
set_option linter.unusedVariables false
namespace Go.Proofs.YtlpmjeiogdlifaaGreat
open Go.RowKit
attribute [local go_sem low] mk_extract
attribute [local go_sem] After.cell After.frozen mk_extract_end ByteArray.mk_append_mk
set_option maxRecDepth 100000 in
set_option maxHeartbeats 1600000 in
theorem isPage_any (p : Sp.Page) (r : Refs) {M : Nat → Prop} (w : World) (hp : PageRd w M p r) :
    Calls Tryz.prog 63 #[.agg (pageV p r).toArray] w fun e w' => e = .returned (.bool (Sp.isPage p)) ∧ Below w.heap.size w w' := by
  have Hp := Lib.hid hp
  clear hp
  have hheq := has_eq
  have HI := Lib.hid (Sp.isPage_def p)
  have hsz : w.heap.size < w.heap.size + 1 := by omega
  simp only [pageV]
  go_enter Tryz.func63, Tryz.ntmps63
  go_wp2_with (first
    | (go_at_call 105; refine (of_any p r _).mono ?_; rintro e w2 ⟨rfl, hb2⟩; have hz := hb2.size; have hsz : w.heap.size < w2.heap.size := Nat.lt_of_lt_of_le (by first | exact hsz | omega | (simp; done) | (simp; omega)) hz; obtain ⟨hc2, hf2⟩ := bcell hb2)
    | (go_at_call 106; refine (isLeaf_any p.items r.I r.i _ (Hp.out.items.go (by (repeat (first | (with_reducible exact Below.refl _ _) | (with_reducible assumption) | (refine below_step (by assumption) (by first | omega | (simp; done) | (simp; omega)) ?_) | (with_reducible refine Below.alloc ?_ (by first | omega | (simp; done) | (simp; omega)) _) | (with_reducible refine Below.drew ?_) | (with_reducible refine below_drewN ?_ _) | (with_reducible refine Below.setCell ?_ (by first | omega | (simp; done) | (simp; omega)) _)))))).mono ?_; rintro e w2 ⟨rfl, hb2⟩; have hz := hb2.size; have hsz : w.heap.size < w2.heap.size := Nat.lt_of_lt_of_le (by first | exact hsz | omega | (simp; done) | (simp; omega)) hz; obtain ⟨hc2, hf2⟩ := bcell hb2)
    | (go_at_call 107; refine (isBranch_any p r _ (Hp.out.go (by (repeat (first | (with_reducible exact Below.refl _ _) | (with_reducible assumption) | (refine below_step (by assumption) (by first | omega | (simp; done) | (simp; omega)) ?_) | (with_reducible refine Below.alloc ?_ (by first | omega | (simp; done) | (simp; omega)) _) | (with_reducible refine Below.drew ?_) | (with_reducible refine below_drewN ?_ _) | (with_reducible refine Below.setCell ?_ (by first | omega | (simp; done) | (simp; omega)) _)))))).mono ?_; rintro e w2 ⟨rfl, hb2⟩; have hz := hb2.size; have hsz : w.heap.size < w2.heap.size := Nat.lt_of_lt_of_le (by first | exact hsz | omega | (simp; done) | (simp; omega)) hz; obtain ⟨hc2, hf2⟩ := bcell hb2)
    | (go_at_call 108; refine (isVals_any p.vals r.V r.v 4 12 _ (Hp.out.vals.go (by (repeat (first | (with_reducible exact Below.refl _ _) | (with_reducible assumption) | (refine below_step (by assumption) (by first | omega | (simp; done) | (simp; omega)) ?_) | (with_reducible refine Below.alloc ?_ (by first | omega | (simp; done) | (simp; omega)) _) | (with_reducible refine Below.drew ?_) | (with_reducible refine below_drewN ?_ _) | (with_reducible refine Below.setCell ?_ (by first | omega | (simp; done) | (simp; omega)) _)))))).mono ?_; rintro e w2 ⟨rfl, hb2⟩; have hz := hb2.size; have hsz : w.heap.size < w2.heap.size := Nat.lt_of_lt_of_le (by first | exact hsz | omega | (simp; done) | (simp; omega)) hz; obtain ⟨hc2, hf2⟩ := bcell hb2)
    | (go_at_call 109; refine (isFree_any p r _ (Hp.out.go (by (repeat (first | (with_reducible exact Below.refl _ _) | (with_reducible assumption) | (refine below_step (by assumption) (by first | omega | (simp; done) | (simp; omega)) ?_) | (with_reducible refine Below.alloc ?_ (by first | omega | (simp; done) | (simp; omega)) _) | (with_reducible refine Below.drew ?_) | (with_reducible refine below_drewN ?_ _) | (with_reducible refine Below.setCell ?_ (by first | omega | (simp; done) | (simp; omega)) _)))))).mono ?_; rintro e w2 ⟨rfl, hb2⟩; have hz := hb2.size; have hsz : w.heap.size < w2.heap.size := Nat.lt_of_lt_of_le (by first | exact hsz | omega | (simp; done) | (simp; omega)) hz; obtain ⟨hc2, hf2⟩ := bcell hb2)
    | (go_at_call 110; refine (isRoot_any p.mt.main _).mono ?_; rintro e w2 ⟨rfl, hb2⟩; have hz := hb2.size; have hsz : w.heap.size < w2.heap.size := Nat.lt_of_lt_of_le (by first | exact hsz | omega | (simp; done) | (simp; omega)) hz; obtain ⟨hc2, hf2⟩ := bcell hb2)
    | (go_at_call 111; refine (noneOr_any _ _).mono ?_; rintro e w2 ⟨rfl, hb2⟩; have hz := hb2.size; have hsz : w.heap.size < w2.heap.size := Nat.lt_of_lt_of_le (by first | exact hsz | omega | (simp; done) | (simp; omega)) hz; obtain ⟨hc2, hf2⟩ := bcell hb2))
  all_goals
    go_ret
    refine ⟨ret_bool ?_, by (repeat (first | (with_reducible exact Below.refl _ _) | (with_reducible assumption) | (refine below_step (by assumption) (by first | omega | (simp; done) | (simp; omega)) ?_) | (with_reducible refine Below.alloc ?_ (by first | omega | (simp; done) | (simp; omega)) _) | (with_reducible refine Below.drew ?_) | (with_reducible refine below_drewN ?_ _) | (with_reducible refine Below.setCell ?_ (by first | omega | (simp; done) | (simp; omega)) _)))⟩
    rw [HI.out]
    clear HI Hp
    go_light
    grind [Sp.isMt]
end Go.Proofs.YtlpmjeiogdlifaaGreat
namespace Go.Proofs.YtlpmjeiogdlifaaGreat
open Go.RowKit
attribute [local go_sem low] mk_extract
attribute [local go_sem] After.cell After.frozen mk_extract_end ByteArray.mk_append_mk
attribute [local go_sem] Sp.le8_length Sp.rootB_len
namespace Sp
theorem itemsB_succ (l : List Item) (k : Nat) (h : k < l.length) : itemsB (l.take (k + 1)) = itemsB (l.take k) ++ itemB (l.getD k item0) := by
  unfold itemsB
  rw [List.take_succ_eq_append_getElem h, List.map_append, List.flatten_append]
  simp [List.getD, h]
theorem kidsTo_succ (keys : List Txt) (kids : List Int) (k : Nat) : kidsTo keys kids (k + 1) = kidsTo keys kids k ++ kidB keys kids k := by
  unfold kidsTo
  rw [List.range_succ, List.map_append, List.flatten_append]
  simp
theorem kidB_def (keys : List Txt) (kids : List Int) (k : Nat) : kidB keys kids k = text (keys.getD k []) ++ le8 (kids.getD k 0) := rfl
theorem body_def (p : Page) : body p = le8 p.kind ++ partsB p := rfl
theorem kidB_len (keys : List Txt) (kids : List Int) (k : Nat) : (kidB keys kids k).length ≤ 65545 := by
  have := text_le (keys.getD k [])
  simp only [kidB, List.length_append, le8_length]
  omega
theorem kidsTo_le (keys : List Txt) (kids : List Int) : ∀ n, (kidsTo keys kids n).length ≤ 65545 * n
  | 0 => by simp [kidsTo]
  | n + 1 => by
    rw [kidsTo_succ, List.length_append]
    have := kidsTo_le keys kids n
    have := kidB_len keys kids n
    omega
theorem itemsB_le {l : List Item} (h : ∀ j, j < l.length → isItem (l.getD j item0) = true) : ∀ k, k ≤ l.length → (itemsB (l.take k)).length ≤ 262188 * k
  | 0, _ => by simp [itemsB]
  | k + 1, hk => by
    rw [itemsB_succ l k (by omega), List.length_append]
    have h1 := itemsB_le h k (by omega)
    have h2 := itemB_le (isItem_rng (h k (by omega))).2.2.2.2.2.2.2.2.1
    omega
theorem isLeaf_rng {l : List Item} (h : isLeaf l = true) : l.length ≤ 4 ∧ ∀ j, j < l.length → isItem (l.getD j item0) = true := by
  simp only [isLeaf, Bool.and_eq_true, decide_eq_true_eq] at h
  refine ⟨h.2, fun j hj => ?_⟩
  have := allTo_iff.1 h.1.1 j hj
  rw [leafAt_def] at this
  simp only [Bool.and_eq_true] at this
  exact this.1
theorem isBranch_rng {p : Page} (h : isBranch p = true) : p.kids.length ≤ 4 ∧ p.keys.length = p.kids.length ∧ ∀ j, j < p.kids.length → 0 ≤ p.kids.getD j 0 ∧ p.kids.getD j 0 < 400 := by
  simp only [isBranch, Bool.and_eq_true, decide_eq_true_eq] at h
  refine ⟨h.1.1.1.2, h.1.1.2, fun j hj => ?_⟩
  have := allTo_iff.1 h.2 j hj
  rw [branchAt_def] at this
  simp only [isID, Bool.and_eq_true, decide_eq_true_eq] at this
  omega
theorem isVals_rng {l : List Txt} {a b : Int} (h : isVals l a b = true) : (l.length : Int) ≤ b := by
  simp only [isVals, Bool.and_eq_true, decide_eq_true_eq] at h
  exact h.2
theorem isMt_rng {m : Mt} (h : isMt m = true) : isRoot m.main = true ∧ 0 ≤ m.free ∧ m.free < 400 ∧ 2 ≤ m.last ∧ m.last ≤ 400 := by
  simp only [isMt, noneOr, isID, Bool.and_eq_true, Bool.or_eq_true, decide_eq_true_eq] at h
  exact ⟨h.1.1.1, by omega, by omega, by omega, by omega⟩
theorem isPage_kind {p : Page} (h : isPage p = true) : (p.kind = 1 ∧ isLeaf p.items = true) ∨ (p.kind = 2 ∧ isBranch p = true) ∨ p.kind = 3 ∨ (p.kind = 4 ∧ isVals p.vals 4 12 = true) ∨ (p.kind = 5 ∧ isFree p = true) ∨ (p.kind = 6 ∧ isMt p.mt = true) := by
  unfold isPage at h
  split at h
  · simp only [Bool.and_eq_true] at h; exact .inl ⟨‹_›, h.2⟩
  · split at h
    · simp only [Bool.and_eq_true] at h; exact .inr (.inl ⟨‹_›, h.2⟩)
    · split at h
      · exact .inr (.inr (.inl ‹_›))
      · split at h
        · simp only [Bool.and_eq_true] at h; exact .inr (.inr (.inr (.inl ⟨‹_›, h.2⟩)))
        · split at h
          · simp only [Bool.and_eq_true] at h; exact .inr (.inr (.inr (.inr (.inl ⟨‹_›, h.2⟩))))
          · split at h
            · simp only [Bool.and_eq_true] at h; exact .inr (.inr (.inr (.inr (.inr ⟨‹_›, h.2⟩))))
            · cases h
theorem partsB1 {p : Page} (h : p.kind = 1) : partsB p = le8 p.items.length ++ itemsB p.items := by simp [partsB, h]
theorem partsB2 {p : Page} (h : p.kind = 2) : partsB p = le8 p.kids.length ++ kidsTo p.keys p.kids p.kids.length := by simp [partsB, h]
theorem partsB3 {p : Page} (h : p.kind = 3) : partsB p = text p.text := by simp [partsB, h]
theorem partsB4 {p : Page} (h : p.kind = 4) : partsB p = valsB p.vals := by simp [partsB, h]
theorem partsB5 {p : Page} (h : p.kind = 5) : partsB p = le8 p.free.length ++ freesB p.free ++ le8 p.next := by simp [partsB, h]
theorem partsB6 {p : Page} (h : p.kind = 6) : partsB p = mtB p.mt := by simp [partsB, h]
theorem partsB_le {p : Page} (h : isPage p = true) : (partsB p).length ≤ 1200000 := by
  rcases isPage_kind h with ⟨hk, hi⟩ | ⟨hk, hi⟩ | hk | ⟨hk, hi⟩ | ⟨hk, hi⟩ | ⟨hk, hi⟩
  · rw [partsB1 hk, List.length_append, le8_length]
    obtain ⟨h1, h2⟩ := isLeaf_rng hi
    have := itemsB_le h2 p.items.length (Nat.le_refl _)
    rw [List.take_of_length_le (Nat.le_refl _)] at this
    omega
  · rw [partsB2 hk, List.length_append, le8_length]
    have := isBranch_rng hi
    have := kidsTo_le p.keys p.kids p.kids.length
    omega
  · rw [partsB3 hk]
    have := text_le p.text
    omega
  · rw [partsB4 hk]
    have := isVals_rng hi
    have := valsB_le p.vals
    omega
  · rw [partsB5 hk]
    have h1 := isFree_rng hi
    have := freesB_le (l := p.free) p.free.length (Nat.le_refl _) fun j hj => (h1.2.2.2 j hj).1
    rw [List.take_of_length_le (Nat.le_refl _)] at this
    simp only [List.length_append, le8_length]
    omega
  · rw [partsB6 hk]
    simp [mtB, le8_length, rootB_len]
end Sp
set_option maxRecDepth 100000 in
set_option maxHeartbeats 1600000 in
theorem parts_any (p : Sp.Page) (r : Refs) {M : Nat → Prop} (w : World) (hp : PageRd w M p r) (h : Sp.isPage p = true) :
    Calls Tryz.prog 183 #[.agg (pageV p r).toArray] w fun e w' => e = .returned (.string ⟨(Sp.partsB p).toArray⟩) ∧ Below w.heap.size w w' := by
  have Hp := Lib.hid hp
  clear hp
  obtain ⟨I, K, D, V, F, ci, ck, cd, cv, cf⟩ := r
  simp only [pageV] at *
  have hsz : w.heap.size < w.heap.size + 1 := by omega
  rcases Sp.isPage_kind h with ⟨hk, hi⟩ | ⟨hk, hi⟩ | hk | ⟨hk, hi⟩ | ⟨hk, hi⟩ | ⟨hk, hi⟩
  · have e1 : (p.kind == 1) = true := by rw [beq_iff_eq]; omega
    have HK := Lib.hid (Sp.partsB1 hk)
    obtain ⟨hl4, hall⟩ := Sp.isLeaf_rng hi
    have HA := Lib.hid hall
    clear hk h hi hall
    go_enter Tryz.func183, Tryz.ntmps183
    go_wp2_with (go_at_call 182; refine (num_any _ (by omega) (by omega) _).mono ?_; rintro e w2 ⟨rfl, hb2⟩; have hz := hb2.size; have hsz : w.heap.size < w2.heap.size := Nat.lt_of_lt_of_le (by first | exact hsz | omega | (simp; done) | (simp; omega)) hz; obtain ⟨hc2, hf2⟩ := bcell hb2)
    clear hc2 hf2
    have hb3 : Below w.heap.size w w2 := by (repeat (first | (with_reducible exact Below.refl _ _) | (with_reducible assumption) | (refine below_step (by assumption) (by first | omega | (simp; done) | (simp; omega)) ?_) | (with_reducible refine Below.alloc ?_ (by first | omega | (simp; done) | (simp; omega)) _) | (with_reducible refine Below.drew ?_) | (with_reducible refine below_drewN ?_ _) | (with_reducible refine Below.setCell ?_ (by first | omega | (simp; done) | (simp; omega)) _)))
    go_loopw [3, 19] (fun o i wr => ∃ k : Nat, k ≤ p.items.length ∧ i = .int .i64 k ∧ o = .string ⟨(Sp.le8 p.items.length ++ Sp.itemsB (p.items.take k)).toArray⟩ ∧ Below w2.heap.size w2 wr) (fun _ i _ => p.items.length - (intOf i).toNat)
    case atStart => exact ⟨0, Nat.zero_le _, rfl, by simp [Sp.itemsB], Below.refl _ _⟩
    case round =>
      obtain ⟨k, hk, rfl, rfl, hb⟩ := hrel
      have hz4 := hb.size
      by_cases hlt : k < p.items.length
      · obtain ⟨b, off, rfl, hbl, hc⟩ := Hp.out.items.at_ hlt
        obtain ⟨V2, cv2, hit, htx⟩ := hc k hlt
        clear hc
        have hb5 := hb3.trans (hb.mono (by omega))
        have hit := hit.keep (w' := wr) fun j => hb5.cell (p := ⟨_, _, none⟩) hbl
        have Ht := Lib.hid (htx.go hb5)
        obtain ⟨h0, h1, h2, h3, h4, h5, h6, h7, h8, h9⟩ := hit
        have HI := Lib.hid (HA.out k hlt)
        have hbw : b < wr.heap.size := by omega
        have HS := Lib.hid (Sp.itemsB_succ p.items k hlt)
        have hle := Sp.itemsB_le HA.out k (by omega)
        have hle2 := Sp.itemB_le (Sp.isItem_rng HI.out).2.2.2.2.2.2.2.2.1
        generalize Sp.itemsB (p.items.take k) = t at *
        generalize p.items.getD k Sp.item0 = x at *
        clear htx
        go_wp2_with (go_at_call 223; refine (item_any x V2 cv2 _ (Ht.out.go (by (repeat (first | (with_reducible exact Below.refl _ _) | (with_reducible assumption) | (refine below_step (by assumption) (by first | omega | (simp; done) | (simp; omega)) ?_) | (with_reducible refine Below.alloc ?_ (by first | omega | (simp; done) | (simp; omega)) _) | (with_reducible refine Below.drew ?_) | (with_reducible refine below_drewN ?_ _) | (with_reducible refine Below.setCell ?_ (by first | omega | (simp; done) | (simp; omega)) _))))) HI.out).mono ?_; rintro e w6 ⟨rfl, hb6⟩; have hz6 := hb6.size)
        exact ⟨⟨k + 1, by omega, by go_num, by rw [HS.out] <;> simp, by (repeat (first | (with_reducible exact Below.refl _ _) | (with_reducible assumption) | (refine below_step (by assumption) (by first | omega | (simp; done) | (simp; omega)) ?_) | (with_reducible refine Below.alloc ?_ (by first | omega | (simp; done) | (simp; omega)) _) | (with_reducible refine Below.drew ?_) | (with_reducible refine below_drewN ?_ _) | (with_reducible refine Below.setCell ?_ (by first | omega | (simp; done) | (simp; omega)) _)))⟩, by simp [intOf]; omega⟩
      · have htk : p.items.take k = p.items := List.take_of_length_le (by omega)
        have HTK := Lib.hid htk
        clear htk
        go_wp2
        go_ret
        exact ⟨by rw [HK.out]; simp [HTK.out], by (repeat (first | (with_reducible exact Below.refl _ _) | (with_reducible assumption) | (refine below_step (by assumption) (by first | omega | (simp; done) | (simp; omega)) ?_) | (with_reducible refine Below.alloc ?_ (by first | omega | (simp; done) | (simp; omega)) _) | (with_reducible refine Below.drew ?_) | (with_reducible refine below_drewN ?_ _) | (with_reducible refine Below.setCell ?_ (by first | omega | (simp; done) | (simp; omega)) _)))⟩
  · have e1 : (p.kind == 1) = false := by rw [beq_eq_false_iff_ne]; omega
    have e2 : (p.kind == 2) = true := by rw [beq_iff_eq]; omega
    have HK := Lib.hid (Sp.partsB2 hk)
    obtain ⟨hl4, hkd, hall⟩ := Sp.isBranch_rng hi
    have HA := Lib.hid hall
    have HKD := Lib.hid hkd
    clear hk h hi hall hkd
    go_enter Tryz.func183, Tryz.ntmps183
    go_wp2_with (go_at_call 182; refine (num_any _ (by omega) (by omega) _).mono ?_; rintro e w2 ⟨rfl, hb2⟩; have hz := hb2.size; have hsz : w.heap.size < w2.heap.size := Nat.lt_of_lt_of_le (by first | exact hsz | omega | (simp; done) | (simp; omega)) hz; obtain ⟨hc2, hf2⟩ := bcell hb2)
    have hbx2 : w2.cell? ⟨w.heap.size, 2, none⟩ = some (.slice K p.keys.length ck) := (hc2 _ _ (by simp)).trans (by simp [go_sem])
    clear hc2 hf2
    have hb3 : Below w.heap.size w w2 := by (repeat (first | (with_reducible exact Below.refl _ _) | (with_reducible assumption) | (refine below_step (by assumption) (by first | omega | (simp; done) | (simp; omega)) ?_) | (with_reducible refine Below.alloc ?_ (by first | omega | (simp; done) | (simp; omega)) _) | (with_reducible refine Below.drew ?_) | (with_reducible refine below_drewN ?_ _) | (with_reducible refine Below.setCell ?_ (by first | omega | (simp; done) | (simp; omega)) _)))
    go_loopw [3, 37] (fun o i wr => ∃ k : Nat, k ≤ p.kids.length ∧ i = .int .i64 k ∧ o = .string ⟨(Sp.le8 p.kids.length ++ Sp.kidsTo p.keys p.kids k).toArray⟩ ∧ Below w2.heap.size w2 wr) (fun _ i _ => p.kids.length - (intOf i).toNat)
    case atStart => exact ⟨0, Nat.zero_le _, rfl, by simp [Sp.kidsTo], Below.refl _ _⟩
    case round =>
      obtain ⟨k, hk, rfl, rfl, hb⟩ := hrel
      have hz4 := hb.size
      by_cases hlt : k < p.kids.length
      · have hltk : k < p.keys.length := by have := HKD.out; omega
        obtain ⟨db, do_, rfl, hdb, hdc⟩ := Hp.out.kids.at_ hlt
        obtain ⟨kb, ko, rfl, hkb, hkc⟩ := Hp.out.keys.at_ hltk
        have hb5 := hb3.trans (hb.mono (by omega))
        have hdc0 := (hb5.cell (p := ⟨_, _, none⟩) hdb).trans (hdc k hlt)
        have hkc0 := (hb5.cell (p := ⟨_, _, none⟩) hkb).trans (hkc k hltk)
        have hbx := ((bcell hb).1 w.heap.size 2 hsz).trans hbx2
        have hkbw : kb < wr.heap.size := by omega
        have hdbw : db < wr.heap.size := by omega
        have hwr : w.heap.size < wr.heap.size := by omega
        have hu := HA.out k hlt
        obtain ⟨hu0, hu1⟩ := hu
        clear hdc hkc
        have HS := Lib.hid (Sp.kidsTo_succ p.keys p.kids k)
        have HD := Lib.hid (Sp.kidB_def p.keys p.kids k)
        have hle := Sp.kidsTo_le p.keys p.kids k
        have hte := Sp.text_le (p.keys.getD k [])
        generalize Sp.kidB p.keys p.kids k = kb2 at *
        generalize Sp.kidsTo p.keys p.kids k = t at *
        generalize p.kids.getD k 0 = u at *
        generalize p.keys.getD k [] = s at *
        go_wp2_with (first | (go_at_call 224; refine (packText_any _ _).mono ?_; rintro e w6 ⟨rfl, hb6⟩; have hz6 := hb6.size) | (go_at_call 182; refine (num_any _ (by omega) (by omega) _).mono ?_; rintro e w7 ⟨rfl, hb7⟩; have hz7 := hb7.size))
        exact ⟨⟨k + 1, by omega, by go_num, by rw [HS.out, HD.out] <;> simp, by (repeat (first | (with_reducible exact Below.refl _ _) | (with_reducible assumption) | (refine below_step (by assumption) (by first | omega | (simp; done) | (simp; omega)) ?_) | (with_reducible refine Below.alloc ?_ (by first | omega | (simp; done) | (simp; omega)) _) | (with_reducible refine Below.drew ?_) | (with_reducible refine below_drewN ?_ _) | (with_reducible refine Below.setCell ?_ (by first | omega | (simp; done) | (simp; omega)) _)))⟩, by simp [intOf]; omega⟩
      · have hkl : k = p.kids.length := by omega
        have HKL := Lib.hid hkl
        clear hkl
        go_wp2
        go_ret
        exact ⟨by rw [HK.out]; simp [HKL.out], by (repeat (first | (with_reducible exact Below.refl _ _) | (with_reducible assumption) | (refine below_step (by assumption) (by first | omega | (simp; done) | (simp; omega)) ?_) | (with_reducible refine Below.alloc ?_ (by first | omega | (simp; done) | (simp; omega)) _) | (with_reducible refine Below.drew ?_) | (with_reducible refine below_drewN ?_ _) | (with_reducible refine Below.setCell ?_ (by first | omega | (simp; done) | (simp; omega)) _)))⟩
  · have e1 : (p.kind == 1) = false := by rw [beq_eq_false_iff_ne]; omega
    have e2 : (p.kind == 2) = false := by rw [beq_eq_false_iff_ne]; omega
    have e3 : (p.kind == 3) = true := by rw [beq_iff_eq]; omega
    have HK := Lib.hid (Sp.partsB3 hk)
    clear hk h
    go_enter Tryz.func183, Tryz.ntmps183
    go_wp2_with (go_at_call 224; refine (packText_any _ _).mono ?_; rintro e w2 ⟨rfl, hb2⟩; have hz := hb2.size; have hsz : w.heap.size < w2.heap.size := Nat.lt_of_lt_of_le (by first | exact hsz | omega | (simp; done) | (simp; omega)) hz; obtain ⟨hc2, hf2⟩ := bcell hb2)
    go_ret
    exact ⟨by rw [HK.out]; rfl, by (repeat (first | (with_reducible exact Below.refl _ _) | (with_reducible assumption) | (refine below_step (by assumption) (by first | omega | (simp; done) | (simp; omega)) ?_) | (with_reducible refine Below.alloc ?_ (by first | omega | (simp; done) | (simp; omega)) _) | (with_reducible refine Below.drew ?_) | (with_reducible refine below_drewN ?_ _) | (with_reducible refine Below.setCell ?_ (by first | omega | (simp; done) | (simp; omega)) _)))⟩
  · have e1 : (p.kind == 1) = false := by rw [beq_eq_false_iff_ne]; omega
    have e2 : (p.kind == 2) = false := by rw [beq_eq_false_iff_ne]; omega
    have e3 : (p.kind == 3) = false := by rw [beq_eq_false_iff_ne]; omega
    have e4 : (p.kind == 4) = true := by rw [beq_iff_eq]; omega
    have HK := Lib.hid (Sp.partsB4 hk)
    have hv := Sp.isVals_rng hi
    clear hk h hi
    go_enter Tryz.func183, Tryz.ntmps183
    go_wp2_with (go_at_call 225; refine (vals_any p.vals V cv _ (Hp.out.vals.go (by (repeat (first | (with_reducible exact Below.refl _ _) | (with_reducible assumption) | (refine below_step (by assumption) (by first | omega | (simp; done) | (simp; omega)) ?_) | (with_reducible refine Below.alloc ?_ (by first | omega | (simp; done) | (simp; omega)) _) | (with_reducible refine Below.drew ?_) | (with_reducible refine below_drewN ?_ _) | (with_reducible refine Below.setCell ?_ (by first | omega | (simp; done) | (simp; omega)) _))))) (by omega)).mono ?_; rintro e w2 ⟨rfl, hb2⟩; have hz := hb2.size; have hsz : w.heap.size < w2.heap.size := Nat.lt_of_lt_of_le (by first | exact hsz | omega | (simp; done) | (simp; omega)) hz; obtain ⟨hc2, hf2⟩ := bcell hb2)
    go_ret
    exact ⟨by rw [HK.out]; rfl, by (repeat (first | (with_reducible exact Below.refl _ _) | (with_reducible assumption) | (refine below_step (by assumption) (by first | omega | (simp; done) | (simp; omega)) ?_) | (with_reducible refine Below.alloc ?_ (by first | omega | (simp; done) | (simp; omega)) _) | (with_reducible refine Below.drew ?_) | (with_reducible refine below_drewN ?_ _) | (with_reducible refine Below.setCell ?_ (by first | omega | (simp; done) | (simp; omega)) _)))⟩
  · have e1 : (p.kind == 1) = false := by rw [beq_eq_false_iff_ne]; omega
    have e2 : (p.kind == 2) = false := by rw [beq_eq_false_iff_ne]; omega
    have e3 : (p.kind == 3) = false := by rw [beq_eq_false_iff_ne]; omega
    have e4 : (p.kind == 4) = false := by rw [beq_eq_false_iff_ne]; omega
    have e5 : (p.kind == 5) = true := by rw [beq_iff_eq]; omega
    have HK := Lib.hid (Sp.partsB5 hk)
    have HI := Lib.hid hi
    clear hk h hi
    go_enter Tryz.func183, Tryz.ntmps183
    go_wp2_with (go_at_call 226; refine (free_any p ⟨I, K, D, V, F, ci, ck, cd, cv, cf⟩ _ (Hp.out.go (by (repeat (first | (with_reducible exact Below.refl _ _) | (with_reducible assumption) | (refine below_step (by assumption) (by first | omega | (simp; done) | (simp; omega)) ?_) | (with_reducible refine Below.alloc ?_ (by first | omega | (simp; done) | (simp; omega)) _) | (with_reducible refine Below.drew ?_) | (with_reducible refine below_drewN ?_ _) | (with_reducible refine Below.setCell ?_ (by first | omega | (simp; done) | (simp; omega)) _))))) HI.out).mono ?_; rintro e w2 ⟨rfl, hb2⟩; have hz := hb2.size; have hsz : w.heap.size < w2.heap.size := Nat.lt_of_lt_of_le (by first | exact hsz | omega | (simp; done) | (simp; omega)) hz; obtain ⟨hc2, hf2⟩ := bcell hb2)
    go_ret
    exact ⟨by rw [HK.out]; rfl, by (repeat (first | (with_reducible exact Below.refl _ _) | (with_reducible assumption) | (refine below_step (by assumption) (by first | omega | (simp; done) | (simp; omega)) ?_) | (with_reducible refine Below.alloc ?_ (by first | omega | (simp; done) | (simp; omega)) _) | (with_reducible refine Below.drew ?_) | (with_reducible refine below_drewN ?_ _) | (with_reducible refine Below.setCell ?_ (by first | omega | (simp; done) | (simp; omega)) _)))⟩
  · have e1 : (p.kind == 1) = false := by rw [beq_eq_false_iff_ne]; omega
    have e2 : (p.kind == 2) = false := by rw [beq_eq_false_iff_ne]; omega
    have e3 : (p.kind == 3) = false := by rw [beq_eq_false_iff_ne]; omega
    have e4 : (p.kind == 4) = false := by rw [beq_eq_false_iff_ne]; omega
    have e5 : (p.kind == 5) = false := by rw [beq_eq_false_iff_ne]; omega
    have e6 : (p.kind == 6) = true := by rw [beq_iff_eq]; omega
    have HK := Lib.hid (Sp.partsB6 hk)
    obtain ⟨hr, f0, f1, l0, l1⟩ := Sp.isMt_rng hi
    have HR := Lib.hid hr
    clear hk h hi hr
    go_enter Tryz.func183, Tryz.ntmps183
    go_wp2
    refine wp_region_after (by kernel_rfl) (by kernel_rfl) (w.heap.size + 1) ?_
    repeat (go_big_quiet_step (first | (go_at_call 184; exact after_call (by simp) (packNum_any _ Hp.out.txn.1 Hp.out.txn.2 _)) | (go_at_call 182; exact after_call (by simp) (num_any _ (by omega) (by omega) _)) | (go_at_call 227; exact after_call (by simp) (root_any p.mt.main _ HR.out))))
    refine wpQuiet_nil ?_
    intro w6 hb6
    go_wp2
    go_ret
    exact ⟨by rw [HK.out]; simp [Sp.mtB], by (repeat (first | (with_reducible exact Below.refl _ _) | (with_reducible assumption) | (refine below_step (by assumption) (by first | omega | (simp; done) | (simp; omega)) ?_) | (with_reducible refine Below.alloc ?_ (by first | omega | (simp; done) | (simp; omega)) _) | (with_reducible refine Below.drew ?_) | (with_reducible refine below_drewN ?_ _) | (with_reducible refine Below.setCell ?_ (by first | omega | (simp; done) | (simp; omega)) _)))⟩
set_option maxRecDepth 100000 in
set_option maxHeartbeats 1600000 in
theorem bytes_any (p : Sp.Page) (r : Refs) {M : Nat → Prop} (w : World) (hp : PageRd w M p r) :
    Calls Tryz.prog 122 #[.agg (pageV p r).toArray] w fun e w' => e = .returned (.string ⟨(Sp.bytes p).toArray⟩) ∧ Below w.heap.size w w' := by
  have Hp := Lib.hid hp
  clear hp
  have HI := Lib.hid (fun w h => isPage_any (M := M) p r w h)
  have hsz : w.heap.size < w.heap.size + 1 := by omega
  have e0 : (pageV p r).toArray = #[.int .i64 p.kind, .slice r.I p.items.length r.i, .slice r.K p.keys.length r.k, .slice r.D p.kids.length r.d, .string ⟨p.text.toArray⟩, .slice r.V p.vals.length r.v, .slice r.F p.free.length r.f, .int .i64 p.next,
   .int .u64 p.mt.txn, .int .i64 p.mt.main.page, .int .i64 p.mt.main.count, .int .i64 p.mt.main.flags, .int .i64 p.mt.free, .int .i64 p.mt.last] := rfl
  have E0 := Lib.hid e0
  clear e0
  cases hi : Sp.isPage p
  · rw [hi] at HI
    have HB : Hid (Sp.bytes p = []) := Lib.hid (by simp [Sp.bytes, hi])
    clear hi
    rw [E0.out]
    go_enter Tryz.func122, Tryz.ntmps122
    go_wp2_with (go_at_call 63; refine (HI.out _ (Hp.out.go (by (repeat (first | (with_reducible exact Below.refl _ _) | (with_reducible assumption) | (refine below_step (by assumption) (by first | omega | (simp; done) | (simp; omega)) ?_) | (with_reducible refine Below.alloc ?_ (by first | omega | (simp; done) | (simp; omega)) _) | (with_reducible refine Below.drew ?_) | (with_reducible refine below_drewN ?_ _) | (with_reducible refine Below.setCell ?_ (by first | omega | (simp; done) | (simp; omega)) _)))))).mono ?_; rintro e w2 ⟨rfl, hb2⟩; have hz := hb2.size; have hsz : w.heap.size < w2.heap.size := Nat.lt_of_lt_of_le (by first | exact hsz | omega | (simp; done) | (simp; omega)) hz; obtain ⟨hc2, hf2⟩ := bcell hb2)
    go_ret
    exact ⟨by rw [HB.out]; rfl, by (repeat (first | (with_reducible exact Below.refl _ _) | (with_reducible assumption) | (refine below_step (by assumption) (by first | omega | (simp; done) | (simp; omega)) ?_) | (with_reducible refine Below.alloc ?_ (by first | omega | (simp; done) | (simp; omega)) _) | (with_reducible refine Below.drew ?_) | (with_reducible refine below_drewN ?_ _) | (with_reducible refine Below.setCell ?_ (by first | omega | (simp; done) | (simp; omega)) _)))⟩
  · rw [hi] at HI
    have HB : Hid (Sp.bytes p = Sp.le8 (Sp.sum (Sp.body p)) ++ Sp.body p) := Lib.hid (by simp [Sp.bytes, hi])
    have hple := Sp.partsB_le hi
    have HP := Lib.hid (fun w h => parts_any (M := M) p r w h hi)
    have hkr : 1 ≤ p.kind ∧ p.kind ≤ 6 := by
      rcases Sp.isPage_kind hi with h | h | h | h | h | h <;> omega
    have HBD := Lib.hid (Sp.body_def p)
    clear hi
    rw [E0.out]
    generalize Sp.partsB p = q at *
    go_enter Tryz.func122, Tryz.ntmps122
    go_wp2_with (go_at_call 63; refine (HI.out _ (Hp.out.go (by (repeat (first | (with_reducible exact Below.refl _ _) | (with_reducible assumption) | (refine below_step (by assumption) (by first | omega | (simp; done) | (simp; omega)) ?_) | (with_reducible refine Below.alloc ?_ (by first | omega | (simp; done) | (simp; omega)) _) | (with_reducible refine Below.drew ?_) | (with_reducible refine below_drewN ?_ _) | (with_reducible refine Below.setCell ?_ (by first | omega | (simp; done) | (simp; omega)) _)))))).mono ?_; rintro e w2 ⟨rfl, hb2⟩; have hz := hb2.size; have hsz : w.heap.size < w2.heap.size := Nat.lt_of_lt_of_le (by first | exact hsz | omega | (simp; done) | (simp; omega)) hz; obtain ⟨hc2, hf2⟩ := bcell hb2)
    have HB2 := Lib.hid hb2
    refine wp_region_after (by kernel_rfl) (by kernel_rfl) (w2.heap.size) ?_
    repeat (go_big_quiet_step (first | (go_at_call 182; exact after_call (by simp) (num_any _ (by omega) (by omega) _)) | (go_at_call 183; exact after_call (by simp) (HP.out _ (Hp.out.go (Below.trans (b := w2) (Below.trans (b := w.alloc _) (by go_grown) (HB2.out.mono (by simp))) ((After.h _).mono (by omega))))))))
    refine wpQuiet_nil ?_
    intro w6 hb6
    have hz6 := hb6.size
    have hsr := Sp.sum_range (Sp.le8 p.kind ++ q)
    have HSR := Lib.hid hsr
    clear hsr
    go_wp2_with (first | (go_at_call 185; refine (packSum_any _ _ (by simp only [List.length_append, Sp.le8_length]; omega)).mono ?_; rintro e w7 ⟨rfl, rfl⟩) | (go_at_call 184; refine (packNum_any _ HSR.out.1 HSR.out.2 _).mono ?_; rintro e w8 ⟨rfl, hb8⟩; have hz8 := hb8.size))
    go_ret
    exact ⟨by rw [HB.out, HBD.out]; simp, by (repeat (first | (with_reducible exact Below.refl _ _) | (with_reducible assumption) | (refine below_step (by assumption) (by first | omega | (simp; done) | (simp; omega)) ?_) | (with_reducible refine Below.alloc ?_ (by first | omega | (simp; done) | (simp; omega)) _) | (with_reducible refine Below.drew ?_) | (with_reducible refine below_drewN ?_ _) | (with_reducible refine Below.setCell ?_ (by first | omega | (simp; done) | (simp; omega)) _)))⟩
end Go.Proofs.YtlpmjeiogdlifaaGreat
namespace Go.Proofs.YtlpmjeiogdlifaaGreat
open Go.RowKit
attribute [local go_sem low] mk_extract
attribute [local go_sem] After.cell After.frozen mk_extract_end ByteArray.mk_append_mk
theorem rdPage_any (g : Nat) (c : Sp.Cut) (w : World) (hs : c.s.length ≤ 4611686018427387904) (hc : CutAt w g c.s c.bad) :
    Calls Tryz.prog 121 #[.agg #[.pointer (some ⟨g, 0, none⟩)]] w fun e w' => PageOut g c w e w' := by
  by_cases h1 : c.num.1 = 1
  · exact rdPage1 g c w hs hc h1
  by_cases h2 : c.num.1 = 2
  · exact rdPage2 g c w hs hc h2
  by_cases h3 : c.num.1 = 3
  · exact rdPage3 g c w hs hc h3
  by_cases h4 : c.num.1 = 4
  · exact rdPage4 g c w hs hc h4
  by_cases h5 : c.num.1 = 5
  · exact rdPage5 g c w hs hc h5
  by_cases h6 : c.num.1 = 6
  · exact rdPage6 g c w hs hc h6
  exact rdPage7 g c w hs hc ⟨h1, h2, h3, h4, h5, h6⟩
namespace Sp
def pg0 : Page := ⟨0, [], [], [], [], [], [], 0, mt0⟩
def parse (s : Txt) : Page := (Cut.u64 ⟨s, false⟩).2.page.1
def readOk (s : Txt) : Bool := decide (s ≠ []) && decide (bytes (parse s) = s)
end Sp
abbrev ErrT : TypeId := 69
def readV (s : Txt) (r : Refs) : Value := if Sp.readOk s then .tuple #[.agg (pageV (Sp.parse s) r).toArray, .nilIface] else .tuple #[.agg (pageV Sp.pg0 r).toArray, .iface 69 (.int .i64 12)]
def readPg (s : Txt) : Sp.Page := if Sp.readOk s then Sp.parse s else Sp.pg0
theorem pageRd0 (w : World) (M : Nat → Prop) (r : Refs) : PageRd w M Sp.pg0 r := ⟨Items.nil_, Row.nil_, Row.nil_, Row.nil_, Frees.nil_, by simp [Sp.pg0, Sp.mt0]⟩
def refs0 : Refs := ⟨none, none, none, none, none, 0, 0, 0, 0, 0⟩
theorem Row.anti {w : World} {M M' : Nat → Prop} {A : Option Addr} {cs : List Value} (h : Row w M A cs) (hM : ∀ k, M' k → M k) : Row w M' A cs := by
  refine ⟨h.1, ?_⟩
  rcases h.2 with h | ⟨b, off, e, hb, hm, hc⟩
  · exact .inl h
  · exact .inr ⟨b, off, e, hb, fun x => hm (hM _ x), hc⟩
theorem Items.anti {w : World} {M M' : Nat → Prop} {A : Option Addr} {l : List Sp.Item} (h : Items w M A l) (hM : ∀ k, M' k → M k) : Items w M' A l := by
  refine ⟨h.1, ?_⟩
  rcases h.2 with h | ⟨b, off, e, hb, hm, hc⟩
  · exact .inl h
  · refine .inr ⟨b, off, e, hb, fun x => hm (hM _ x), fun k hk => ?_⟩
    obtain ⟨V, c, hi, ht⟩ := hc k hk
    exact ⟨V, c, hi, ht.anti hM⟩
theorem Frees.anti {w : World} {M M' : Nat → Prop} {A : Option Addr} {l : List Sp.Free} (h : Frees w M A l) (hM : ∀ k, M' k → M k) : Frees w M' A l := by
  refine ⟨h.1, ?_⟩
  rcases h.2 with h | ⟨b, off, e, hb, hm, hc⟩
  · exact .inl h
  · refine .inr ⟨b, off, e, hb, fun x => hm (hM _ x), fun k hk => ?_⟩
    obtain ⟨V, c, hi, ht, hr⟩ := hc k hk
    exact ⟨V, c, hi, ht.anti hM, hr⟩
theorem PageRd.anti {w : World} {M M' : Nat → Prop} {p : Sp.Page} {r : Refs} (h : PageRd w M p r) (hM : ∀ k, M' k → M k) : PageRd w M' p r :=
  ⟨h.items.anti hM, h.keys.anti hM, h.kids.anti hM, h.vals.anti hM, h.free.anti hM, h.txn⟩
end Go.Proofs.YtlpmjeiogdlifaaGreat
