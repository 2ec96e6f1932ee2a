/- The plain law: what is written is read (pages as bytes, no program in sight). The plain law: a byte changed, one less, one more, and the bytes are no page's. Metas: the plain side, a version's page. Channels within one goroutine, in the walk's own form: a region that sends, or selects one receive with a default. The meta that counts, of two texts, in plain words; a channel with metas. Pages that may be lost: a copy of a row of texts, a page of it, a new file. Pages that may be lost: a new file, a page that is written. The store over a file: a new one; a page of its file is read. -/
import Derived.Test.YtlpmjeiogdlifaaGreatQB03
import Derived.Test.YtlpmjeiogdlifaaGreatQB08
import Derived.Test.YtlpmjeiogdlifaaGreatQB09
import Derived.Conc.LoneCalls
import Derived.Conc.LoneSelectN
import Derived.Maps.Own
set_option linter.unusedSimpArgs false
set_option linter.unusedVariables false
namespace Go.Proofs.YtlpmjeiogdlifaaGreat
open Go.RowKit
attribute [local go_sem low] mk_extract
attribute [local go_sem] After.cell After.frozen mk_extract_end ByteArray.mk_append_mk
namespace Sp
def Reads {α : Type} (f : Cut → α × Cut) (b : Txt) (a : α) : Prop := ∀ t, f ⟨b ++ t, false⟩ = (a, ⟨t, false⟩)
theorem take_app (b t : Txt) {n : Nat} (h : b.length = n) : Cut.take ⟨b ++ t, false⟩ n = b := by
  subst h
  unfold Cut.take
  rw [if_neg (by simp)]
  simp
theorem rest_app (b t : Txt) {n : Nat} (h : b.length = n) : Cut.rest ⟨b ++ t, false⟩ n = ⟨t, false⟩ := by
  subst h
  simp [Cut.rest]
theorem reads_u64 {n : Int} (h0 : 0 ≤ n) (h1 : n < 18446744073709551616) : Reads Cut.u64 (le8 n) n := fun t => by
  unfold Cut.u64
  rw [take_app _ _ (le8_length n), rest_app _ _ (le8_length n), le8, unle_leN 8 n h0 (by omega)]
theorem reads_num {n : Int} (h0 : 0 ≤ n) (h1 : n ≤ 1073741824) : Reads Cut.num (le8 n) n := fun t => by
  unfold Cut.num
  rw [take_app _ _ (le8_length n), rest_app _ _ (le8_length n), le8, unle_leN 8 n h0 (by omega), Int.min_eq_left h1]
theorem reads_text {s : Txt} (h : s.length ≤ 65535) : Reads Cut.text (text s) s := fun t => by
  have hc : cutText s = s := List.take_of_length_le h
  have hl : (leN 2 (s.length : Int)).length = 2 := leN_length _ _
  have hn : (Cut.lenOf (leN 2 (s.length : Int))).toNat = s.length := by
    rw [leN2 _ h]
    simp only [Cut.lenOf, List.getD_cons_zero, List.getD_cons_succ, UInt8.toNat_ofNat']
    omega
  unfold Cut.text text
  rw [hc]
  simp only [List.append_assoc]
  rw [take_app _ _ hl, rest_app _ _ hl, hn, take_app _ _ rfl, rest_app _ _ rfl]
  rw [if_neg (by intro h; rw [h] at hl; simp at hl)]
  simp
theorem eachN_reads {β : Type} {step : List β → Cut → List β × Cut} {enc : β → Txt} {l : List β} (h : ∀ x, x ∈ l → ∀ acc t, step acc ⟨enc x ++ t, false⟩ = (acc ++ [x], ⟨t, false⟩)) (t : Txt) :
    ∀ k, k ≤ l.length → eachN step k ([], ⟨(l.map enc).flatten ++ t, false⟩) = (l.take k, ⟨((l.drop k).map enc).flatten ++ t, false⟩)
  | 0, _ => by simp [eachN]
  | k + 1, hk => by
    have ih := eachN_reads h t k (by omega)
    rw [eachN_succ _ _ _ (by rw [ih]), ih]
    have hd : l.drop k = l[k] :: l.drop (k + 1) := List.drop_eq_getElem_cons (by omega)
    rw [hd, List.map_cons, List.flatten_cons, List.append_assoc, h _ (List.getElem_mem _), List.take_succ_eq_append_getElem (by omega)]
theorem eachN_all {β : Type} {step : List β → Cut → List β × Cut} {enc : β → Txt} {l : List β} (h : ∀ x, x ∈ l → ∀ acc t, step acc ⟨enc x ++ t, false⟩ = (acc ++ [x], ⟨t, false⟩)) (t : Txt) {n : Nat} (hn : n = l.length) :
    eachN step n ([], ⟨(l.map enc).flatten ++ t, false⟩) = (l, ⟨t, false⟩) := by
  subst hn
  rw [eachN_reads h t _ (Nat.le_refl _)]
  simp
theorem reads_vals {l : List Txt} (hl : l.length ≤ 1000) (h : ∀ s, s ∈ l → s.length ≤ 65535) : Reads Cut.vals (valsB l) l := fun t => by
  unfold Cut.vals valsB
  rw [List.append_assoc, reads_num (n := l.length) (by omega) (by omega) _]
  refine eachN_all (fun x hx acc t => ?_) t (by simp)
  unfold textStep
  rw [reads_text (h x hx)]
theorem reads_nums {l : List Int} (hl : l.length ≤ 1000) (h : ∀ n, n ∈ l → 0 ≤ n ∧ n ≤ 1073741824) : Reads Cut.nums (le8 l.length ++ numsB l) l := fun t => by
  unfold Cut.nums numsB
  rw [List.append_assoc, reads_num (n := l.length) (by omega) (by omega) _]
  refine eachN_all (fun x hx acc t => ?_) t (by simp)
  unfold numStep
  rw [reads_num (h x hx).1 (h x hx).2]
theorem reads_root {r : Root} (h : isRoot r = true) : Reads Cut.root (rootB r) r := fun t => by
  have hr := isRoot_rng h
  unfold Cut.root rootB
  simp only [List.append_assoc]
  rw [reads_num (by omega) (by omega), reads_num (by omega) (by omega), reads_num (by omega) (by omega)]
theorem reads_free {f : Free} (ht : 0 ≤ f.txn ∧ f.txn < 18446744073709551616) (hl : f.ids.length ≤ 1000) (h : ∀ n, n ∈ f.ids → 0 ≤ n ∧ n ≤ 1073741824) : Reads Cut.free (freeB f) f := fun t => by
  unfold Cut.free freeB
  have e : le8 f.txn ++ le8 f.ids.length ++ numsB f.ids ++ t = le8 f.txn ++ ((le8 f.ids.length ++ numsB f.ids) ++ t) := by simp only [List.append_assoc]
  rw [e, reads_u64 ht.1 ht.2]
  dsimp only
  rw [reads_nums hl h]
theorem isVals_mem {l : List Txt} {a b : Int} (h : isVals l a b = true) : ∀ s, s ∈ l → 1 ≤ s.length ∧ s.length ≤ 12 := fun s hs => by
  simp only [isVals, Bool.and_eq_true] at h
  obtain ⟨j, hj, rfl⟩ := List.getElem_of_mem hs
  have := allTo_iff.1 h.1.1 j hj
  simp only [valAt, Bool.and_eq_true, decide_eq_true_eq] at this
  simpa [List.getD, hj] using this.1
theorem isVals_len {l : List Txt} {a b : Int} (h : isVals l a b = true) : a ≤ l.length ∧ (l.length : Int) ≤ b := by
  simp only [isVals, Bool.and_eq_true, decide_eq_true_eq] at h
  exact ⟨h.1.2, h.2⟩
theorem isItem_val {x : Item} (h : isItem x = true) : x.key.length ≤ 8 ∧ x.val.length ≤ 12 ∧ (∀ s, s ∈ x.vals → s.length ≤ 65535) ∧ 1 ≤ x.kind := by
  simp only [isItem, sameItem, kindOk, short, Bool.and_eq_true, decide_eq_true_eq] at h
  obtain ⟨⟨hk8, ho⟩, hk⟩ := h
  obtain ⟨key, kind, val, run, len, vals, dup, rt⟩ := x
  simp only [own] at *
  by_cases h1 : kind = 1
  · simp only [h1, if_true, Item.mk.injEq, decide_eq_true_eq] at ho hk
    obtain ⟨_, _, _, rfl, rfl, rfl, rfl, rfl⟩ := ho
    exact ⟨hk8.2, hk, by simp, by omega⟩
  · rw [if_neg h1] at ho hk
    by_cases h2 : kind = 2
    · simp only [h2, if_true, Item.mk.injEq] at ho hk
      obtain ⟨_, _, rfl, _, _, rfl, rfl, rfl⟩ := ho
      exact ⟨hk8.2, by simp, by simp, by omega⟩
    · rw [if_neg h2] at ho hk
      by_cases h3 : kind = 3
      · simp only [h3, if_true, Item.mk.injEq] at ho hk
        obtain ⟨_, _, rfl, rfl, rfl, _, _, rfl⟩ := ho
        refine ⟨hk8.2, by simp, ?_, by omega⟩
        simp only [Bool.and_eq_true, Bool.or_eq_true, decide_eq_true_eq] at hk
        rcases hk with ⟨_, hv⟩ | ⟨rfl, _⟩
        · intro s hs
          have := isVals_mem hv s hs
          omega
        · simp
      · rw [if_neg h3] at ho hk
        by_cases h4 : kind = 4
        · simp only [h4, if_true, Item.mk.injEq] at ho hk
          obtain ⟨_, _, rfl, rfl, rfl, rfl, rfl, _⟩ := ho
          exact ⟨hk8.2, by simp, by simp, by omega⟩
        · rw [if_neg h4] at hk
          exact absurd hk (by simp)
theorem own_eq {x : Item} (h : isItem x = true) : x = own x := by
  simp only [isItem, sameItem, Bool.and_eq_true, decide_eq_true_eq] at h
  exact h.1.2
theorem reads_item {x : Item} (h : isItem x = true) : Reads Cut.item (itemB x) x := fun t => by
  have hr := isItem_rng h
  have hv := isItem_val h
  have ho := own_eq h
  unfold Cut.item itemB
  simp only [List.append_assoc]
  rw [reads_text (by omega)]
  dsimp only
  rw [reads_num (by omega) (by omega)]
  dsimp only
  by_cases h1 : x.kind = 1
  · rw [if_pos h1, if_pos h1, reads_text (by omega)]
    rw [own, if_pos h1] at ho
    rw [← ho]
  · rw [if_neg h1, if_neg h1]
    by_cases h2 : x.kind = 2
    · rw [if_pos h2, if_pos h2]
      simp only [List.append_assoc]
      rw [reads_num (by omega) (by omega)]
      dsimp only
      rw [reads_num (by omega) (by omega)]
      rw [own, if_neg h1, if_pos h2] at ho
      rw [← ho]
    · rw [if_neg h2, if_neg h2]
      by_cases h3 : x.kind = 3
      · rw [if_pos h3, if_pos h3]
        simp only [List.append_assoc]
        rw [reads_vals (by omega) hv.2.2.1]
        dsimp only
        rw [reads_num (by omega) (by omega)]
        rw [own, if_neg h1, if_neg h2, if_pos h3] at ho
        rw [← ho]
      · have h4 : x.kind = 4 := by omega
        rw [if_neg h3, if_neg h3, if_pos h4, reads_root hr.2.2.2.2.2.2.2.2.2]
        rw [own, if_neg h1, if_neg h2, if_neg h3, if_pos h4] at ho
        rw [← ho]
theorem isIDs_mem {l : List Int} (h : isIDs l = true) : ∀ n, n ∈ l → 2 ≤ n ∧ n < 400 := fun n hn => by
  obtain ⟨j, hj, rfl⟩ := List.getElem_of_mem hn
  have := allTo_iff.1 h j hj
  simp only [idAt, isID, Bool.and_eq_true, decide_eq_true_eq] at this
  simpa [List.getD, hj] using this.1
theorem isLeaf_mem {l : List Item} (h : isLeaf l = true) : l.length ≤ 4 ∧ ∀ x, x ∈ l → isItem x = true := by
  simp only [isLeaf, Bool.and_eq_true, decide_eq_true_eq] at h
  refine ⟨h.2, fun x hx => ?_⟩
  obtain ⟨j, hj, rfl⟩ := List.getElem_of_mem hx
  have := allTo_iff.1 h.1.1 j hj
  simp only [leafAt, Bool.and_eq_true] at this
  simpa [List.getD, hj] using this.1
theorem reads_items {l : List Item} (h : isLeaf l = true) : Reads Cut.items (le8 l.length ++ itemsB l) l := fun t => by
  have hl := isLeaf_mem h
  unfold Cut.items itemsB
  rw [List.append_assoc, reads_num (n := l.length) (by omega) (by omega) _]
  refine eachN_all (fun x hx acc t => ?_) t (by simp)
  unfold itemStep
  rw [reads_item (hl.2 x hx)]
theorem eachN_pairs {keys : List Txt} {kids : List Int} (hk : ∀ i, i < kids.length → (keys.getD i []).length ≤ 65535 ∧ 0 ≤ kids.getD i 0 ∧ kids.getD i 0 ≤ 1073741824) (hl : keys.length = kids.length) (t : Txt) :
    ∀ k, k ≤ kids.length → eachN keyStep k (([], []), ⟨kidsTo keys kids kids.length ++ t, false⟩) = ((keys.take k, kids.take k), ⟨(((List.range kids.length).drop k).map (kidB keys kids)).flatten ++ t, false⟩)
  | 0, _ => by simp [eachN, kidsTo]
  | k + 1, hk1 => by
    have ih := eachN_pairs hk hl t k (by omega)
    rw [eachN_succ _ _ _ (by rw [ih]), ih]
    have hd : (List.range kids.length).drop k = k :: (List.range kids.length).drop (k + 1) := by
      rw [List.drop_eq_getElem_cons (by simp; omega)]
      simp
    have hk2 := hk k (by omega)
    rw [hd, List.map_cons, List.flatten_cons, kidB]
    simp only [List.append_assoc]
    unfold keyStep
    dsimp only
    rw [reads_text hk2.1]
    dsimp only
    rw [reads_num hk2.2.1 hk2.2.2, List.take_succ_eq_append_getElem (by omega), List.take_succ_eq_append_getElem (by omega)]
    simp [List.getD, show k < kids.length by omega, show k < keys.length by omega]
theorem isBranch_all {p : Page} (h : isBranch p = true) : p.kids.length ≤ 4 ∧ p.keys.length = p.kids.length ∧ ∀ i, i < p.kids.length → (p.keys.getD i []).length ≤ 8 ∧ 2 ≤ p.kids.getD i 0 ∧ p.kids.getD i 0 < 400 := by
  simp only [isBranch, Bool.and_eq_true, decide_eq_true_eq] at h
  obtain ⟨⟨⟨⟨_, h1⟩, h2⟩, h3⟩, h4⟩ := h
  refine ⟨h1, h2, fun i hi => ?_⟩
  have := allTo_iff.1 h4 i hi
  simp only [branchAt, isID, short, Bool.and_eq_true, Bool.or_eq_true, decide_eq_true_eq] at this
  refine ⟨?_, this.1⟩
  rcases this.2 with rfl | h
  · rw [h3]; simp
  · exact h.1.2
theorem reads_keys {p : Page} (h : isBranch p = true) : Reads Cut.keys (le8 p.kids.length ++ kidsTo p.keys p.kids p.kids.length) (p.keys, p.kids) := fun t => by
  have hl := isBranch_all h
  unfold Cut.keys
  rw [List.append_assoc, reads_num (n := p.kids.length) (by omega) (by omega) _]
  dsimp only
  rw [Int.toNat_natCast, eachN_pairs (fun i hi => by have := hl.2.2 i hi; omega) hl.2.1 t _ (Nat.le_refl _)]
  have e0 : (List.range p.kids.length).drop p.kids.length = [] := by simp
  rw [e0, List.take_of_length_le (by omega), List.take_of_length_le (by omega)]
  rfl
def Rng (p : Page) : Prop := (∀ f, f ∈ p.free → 0 ≤ f.txn ∧ f.txn < 18446744073709551616) ∧ 0 ≤ p.mt.txn ∧ p.mt.txn < 18446744073709551616
theorem total_mem {l : List Free} {f : Free} (h : f ∈ l) : f.ids.length ≤ total l := by
  unfold total
  induction l with
  | nil => simp at h
  | cons a l ih =>
    rcases List.mem_cons.1 h with rfl | h
    · simp
    · have := ih h
      simp only [List.map_cons, List.sum_cons]
      omega
theorem total_len {l : List Free} (h : ∀ f, f ∈ l → 1 ≤ f.ids.length) : l.length ≤ total l := by
  unfold total
  induction l with
  | nil => simp
  | cons a l ih =>
    have h1 := h a (by simp)
    have := ih fun f hf => h f (by simp [hf])
    simp only [List.map_cons, List.sum_cons, List.length_cons]
    omega
theorem isFree_mem {p : Page} (h : isFree p = true) : p.free.length ≤ 20 ∧ 0 ≤ p.next ∧ p.next < 400 ∧ ∀ f, f ∈ p.free → f.ids.length ≤ 20 ∧ isIDs f.ids = true := by
  simp only [isFree, noneOr, isID, Bool.and_eq_true, Bool.or_eq_true, decide_eq_true_eq] at h
  have hm : ∀ f, f ∈ p.free → 1 ≤ f.ids.length ∧ isIDs f.ids = true := fun f hf => by
    obtain ⟨j, hj, rfl⟩ := List.getElem_of_mem hf
    have := allTo_iff.1 h.1.1 j hj
    simp only [freeAt, Bool.and_eq_true, decide_eq_true_eq] at this
    have e : p.free.getD j free0 = p.free[j] := by simp [List.getD, hj]
    rw [e] at this
    exact ⟨List.length_pos_iff.2 this.1.1, this.2⟩
  have h1 := total_len fun f hf => (hm f hf).1
  refine ⟨by omega, by omega, by omega, fun f hf => ⟨?_, (hm f hf).2⟩⟩
  have := total_mem hf
  omega
theorem reads_frees {p : Page} (h : isFree p = true) (hr : Rng p) : Reads Cut.frees (le8 p.free.length ++ freesB p.free) p.free := fun t => by
  have hl := isFree_mem h
  unfold Cut.frees freesB
  rw [List.append_assoc, reads_num (n := p.free.length) (by omega) (by omega) _]
  refine eachN_all (fun x hx acc t => ?_) t (by simp)
  unfold freeStep
  have hx2 := hl.2.2.2 x hx
  rw [reads_free (hr.1 x hx) (by omega) fun n hn => by have := isIDs_mem hx2.2 n hn; omega]
theorem isMt_rng2 {m : Mt} (h : isMt m = true) : isRoot m.main = true ∧ 0 ≤ m.free ∧ m.free < 400 ∧ 2 ≤ m.last ∧ m.last ≤ 400 := by
  simp only [isMt, noneOr, isID, Bool.and_eq_true, Bool.or_eq_true, decide_eq_true_eq] at h
  refine ⟨h.1.1.1, by omega, by omega, by omega, by omega⟩
theorem reads_mt {m : Mt} (h : isMt m = true) (hr : 0 ≤ m.txn ∧ m.txn < 18446744073709551616) : Reads Cut.mt (mtB m) m := fun t => by
  have hm := isMt_rng2 h
  unfold Cut.mt mtB
  simp only [List.append_assoc]
  rw [reads_u64 hr.1 hr.2]
  dsimp only
  rw [reads_root hm.1]
  dsimp only
  rw [reads_num (by omega) (by omega)]
  dsimp only
  rw [reads_num (by omega) (by omega)]
theorem has_iff {p : Page} {a b c d e f g : Bool} (h : has p = [a, b, c, d, e, f, g]) : decide (p.items ≠ []) = a ∧ (decide (p.keys ≠ []) || decide (p.kids ≠ [])) = b ∧ decide (p.text ≠ []) = c ∧ decide (p.vals ≠ []) = d ∧ decide (p.free ≠ []) = e ∧ decide (p.next ≠ 0) = f ∧ decide (p.mt ≠ mt0) = g := by
  simpa only [has, List.cons.injEq, and_true] using h
theorem no_of {α : Type} [DecidableEq α] {a b : α} (h : decide (a ≠ b) = false) : a = b := by simpa using h
theorem reads_page {p : Page} (h : isPage p = true) (hr : Rng p) : Reads Cut.page (body p) p := fun t => by
  unfold Cut.page body partsB
  simp only [List.append_assoc]
  unfold isPage at h
  by_cases h1 : p.kind = 1
  · rw [if_pos h1, Bool.and_eq_true, decide_eq_true_eq] at h
    obtain ⟨hi, hk, ht, hv, hf, hn, hm⟩ := has_iff h.1
    simp only [Bool.or_eq_false_iff] at hk
    rw [reads_num (by omega) (by omega)]
    dsimp only
    rw [if_pos h1, if_pos h1, reads_items h.2]
    have e := (⟨no_of hk.1, no_of hk.2, no_of ht, no_of hv, no_of hf, no_of hn, no_of hm⟩ : p.keys = [] ∧ p.kids = [] ∧ p.text = [] ∧ p.vals = [] ∧ p.free = [] ∧ p.next = 0 ∧ p.mt = mt0)
    obtain ⟨kind, items, keys, kids, text, vals, free, next, mt⟩ := p
    simp only at e ⊢
    obtain ⟨rfl, rfl, rfl, rfl, rfl, rfl, rfl⟩ := e
    rfl
  rw [if_neg h1] at h
  by_cases h2 : p.kind = 2
  · rw [if_pos h2, Bool.and_eq_true, decide_eq_true_eq] at h
    obtain ⟨hi, hk, ht, hv, hf, hn, hm⟩ := has_iff h.1
    rw [reads_num (by omega) (by omega)]
    dsimp only
    rw [if_neg h1, if_pos h2, if_neg h1, if_pos h2, reads_keys h.2]
    have e := (⟨no_of hi, no_of ht, no_of hv, no_of hf, no_of hn, no_of hm⟩ : p.items = [] ∧ p.text = [] ∧ p.vals = [] ∧ p.free = [] ∧ p.next = 0 ∧ p.mt = mt0)
    obtain ⟨kind, items, keys, kids, text, vals, free, next, mt⟩ := p
    simp only at e ⊢
    obtain ⟨rfl, rfl, rfl, rfl, rfl, rfl⟩ := e
    rfl
  rw [if_neg h2] at h
  by_cases h3 : p.kind = 3
  · rw [if_pos h3, Bool.and_eq_true, decide_eq_true_eq, decide_eq_true_eq] at h
    obtain ⟨hi, hk, ht, hv, hf, hn, hm⟩ := has_iff h.1
    simp only [Bool.or_eq_false_iff] at hk
    rw [reads_num (by omega) (by omega)]
    dsimp only
    rw [if_neg h1, if_neg h2, if_pos h3, if_neg h1, if_neg h2, if_pos h3, reads_text (by omega)]
    have e := (⟨no_of hi, no_of hk.1, no_of hk.2, no_of hv, no_of hf, no_of hn, no_of hm⟩ : p.items = [] ∧ p.keys = [] ∧ p.kids = [] ∧ p.vals = [] ∧ p.free = [] ∧ p.next = 0 ∧ p.mt = mt0)
    obtain ⟨kind, items, keys, kids, text, vals, free, next, mt⟩ := p
    simp only at e ⊢
    obtain ⟨rfl, rfl, rfl, rfl, rfl, rfl, rfl⟩ := e
    rfl
  rw [if_neg h3] at h
  by_cases h4 : p.kind = 4
  · rw [if_pos h4, Bool.and_eq_true, decide_eq_true_eq] at h
    obtain ⟨hi, hk, ht, hv, hf, hn, hm⟩ := has_iff h.1
    simp only [Bool.or_eq_false_iff] at hk
    rw [reads_num (by omega) (by omega)]
    dsimp only
    have hvl := isVals_len h.2
    rw [if_neg h1, if_neg h2, if_neg h3, if_pos h4, if_neg h1, if_neg h2, if_neg h3, if_pos h4, reads_vals (by omega) fun s hs => by have := isVals_mem h.2 s hs; omega]
    have e := (⟨no_of hi, no_of hk.1, no_of hk.2, no_of ht, no_of hf, no_of hn, no_of hm⟩ : p.items = [] ∧ p.keys = [] ∧ p.kids = [] ∧ p.text = [] ∧ p.free = [] ∧ p.next = 0 ∧ p.mt = mt0)
    obtain ⟨kind, items, keys, kids, text, vals, free, next, mt⟩ := p
    simp only at e ⊢
    obtain ⟨rfl, rfl, rfl, rfl, rfl, rfl, rfl⟩ := e
    rfl
  rw [if_neg h4] at h
  by_cases h5 : p.kind = 5
  · rw [if_pos h5, Bool.and_eq_true, decide_eq_true_eq] at h
    obtain ⟨hi, hk, ht, hv, hf, hn, hm⟩ := has_iff h.1
    simp only [Bool.or_eq_false_iff] at hk
    have hfm := isFree_mem h.2
    rw [reads_num (by omega) (by omega)]
    dsimp only
    rw [if_neg h1, if_neg h2, if_neg h3, if_neg h4, if_pos h5, if_neg h1, if_neg h2, if_neg h3, if_neg h4, if_pos h5]
    have e2 : ∀ u, le8 p.free.length ++ (freesB p.free ++ le8 p.next) ++ u = (le8 p.free.length ++ freesB p.free) ++ (le8 p.next ++ u) := fun u => by simp only [List.append_assoc]
    rw [e2, reads_frees h.2 hr]
    dsimp only
    rw [reads_num (by omega) (by omega)]
    have e := (⟨no_of hi, no_of hk.1, no_of hk.2, no_of ht, no_of hv, no_of hm⟩ : p.items = [] ∧ p.keys = [] ∧ p.kids = [] ∧ p.text = [] ∧ p.vals = [] ∧ p.mt = mt0)
    obtain ⟨kind, items, keys, kids, text, vals, free, next, mt⟩ := p
    simp only at e ⊢
    obtain ⟨rfl, rfl, rfl, rfl, rfl, rfl⟩ := e
    rfl
  rw [if_neg h5] at h
  by_cases h6 : p.kind = 6
  · rw [if_pos h6, Bool.and_eq_true, decide_eq_true_eq] at h
    obtain ⟨hi, hk, ht, hv, hf, hn, hm⟩ := has_iff h.1
    simp only [Bool.or_eq_false_iff] at hk
    rw [reads_num (by omega) (by omega)]
    dsimp only
    rw [if_neg h1, if_neg h2, if_neg h3, if_neg h4, if_neg h5, if_pos h6, if_neg h1, if_neg h2, if_neg h3, if_neg h4, if_neg h5, if_pos h6, reads_mt h.2 hr.2]
    have e := (⟨no_of hi, no_of hk.1, no_of hk.2, no_of ht, no_of hv, no_of hf, no_of hn⟩ : p.items = [] ∧ p.keys = [] ∧ p.kids = [] ∧ p.text = [] ∧ p.vals = [] ∧ p.free = [] ∧ p.next = 0)
    obtain ⟨kind, items, keys, kids, text, vals, free, next, mt⟩ := p
    simp only at e ⊢
    obtain ⟨rfl, rfl, rfl, rfl, rfl, rfl, rfl⟩ := e
    rfl
  rw [if_neg h6] at h
  exact absurd h (by simp)
theorem bytes_of {p : Page} (h : isPage p = true) : bytes p = le8 (sum (body p)) ++ body p := by
  unfold bytes
  rw [if_pos h]
theorem bytes_no {p : Page} (h : isPage p = false) : bytes p = [] := by
  unfold bytes
  rw [if_neg (by simp [h])]
theorem parse_app {p : Page} (h : isPage p = true) (hr : Rng p) (t : Txt) : parse (bytes p ++ t) = p := by
  rw [bytes_of h, List.append_assoc, parse]
  have hs := sum_range (body p)
  rw [reads_u64 hs.1 hs.2]
  dsimp only
  rw [reads_page h hr]
theorem parse_bytes {p : Page} (h : isPage p = true) (hr : Rng p) : parse (bytes p) = p := by
  have := parse_app h hr []
  rwa [List.append_nil] at this
theorem body_len (p : Page) : 8 ≤ (body p).length := by
  unfold body
  rw [List.length_append, le8_length]
  omega
theorem bytes_len {p : Page} (h : isPage p = true) : 16 ≤ (bytes p).length := by
  have := body_len p
  rw [bytes_of h, List.length_append, le8_length]
  omega
theorem readOk_bytes {p : Page} (h : isPage p = true) (hr : Rng p) : readOk (bytes p) = true := by
  have := bytes_len h
  unfold readOk
  rw [parse_bytes h hr]
  simp only [Bool.and_eq_true, decide_eq_true_eq, and_true]
  rintro e
  rw [e] at this
  simp at this
theorem readOk_page {s : Txt} (h : readOk s = true) : isPage (parse s) = true ∧ bytes (parse s) = s := by
  simp only [readOk, Bool.and_eq_true, decide_eq_true_eq] at h
  refine ⟨?_, h.2⟩
  rcases hb : isPage (parse s) with _ | _
  · exact absurd ((bytes_no hb).symm.trans h.2).symm h.1
  · rfl
end Sp
end Go.Proofs.YtlpmjeiogdlifaaGreat
namespace Go.Proofs.YtlpmjeiogdlifaaGreat
open Go.RowKit
attribute [local go_sem low] mk_extract
attribute [local go_sem] After.cell After.frozen mk_extract_end ByteArray.mk_append_mk
namespace Sp
theorem eachN_mem {β : Type} {step : List β → Cut → List β × Cut} {P : β → Prop} (h : ∀ l c, (∀ x, x ∈ l → P x) → ∀ x, x ∈ (step l c).1 → P x) (s : List β × Cut) (hs : ∀ x, x ∈ s.1 → P x) : ∀ n, ∀ x, x ∈ (eachN step n s).1 → P x
  | 0 => hs
  | n + 1 => by
    have ih := eachN_mem h s hs n
    have e : eachN step (n + 1) s = if (eachN step n s).2.bad = true then eachN step n s else step (eachN step n s).1 (eachN step n s).2 := rfl
    rw [e]
    split
    · exact ih
    · exact h _ _ ih
theorem frees_rng (c : Cut) : ∀ f, f ∈ c.frees.1 → 0 ≤ f.txn ∧ f.txn < 18446744073709551616 := by
  unfold Cut.frees
  refine eachN_mem (P := fun f : Free => 0 ≤ f.txn ∧ f.txn < 18446744073709551616) (fun l c h x hx => ?_) _ (by simp) _
  unfold freeStep at hx
  simp only [List.mem_append, List.mem_singleton] at hx
  rcases hx with hx | rfl
  · exact h x hx
  · exact c.u64_rng
theorem page_rng (c : Cut) : Rng c.page.1 := by
  have h0 : 0 ≤ mt0.txn ∧ mt0.txn < 18446744073709551616 := by decide
  have hn : ∀ f : Free, f ∈ ([] : List Free) → 0 ≤ f.txn ∧ f.txn < 18446744073709551616 := by simp
  unfold Cut.page Rng
  by_cases h1 : c.num.1 = 1
  · rw [if_pos h1]; exact ⟨hn, h0⟩
  rw [if_neg h1]
  by_cases h2 : c.num.1 = 2
  · rw [if_pos h2]; exact ⟨hn, h0⟩
  rw [if_neg h2]
  by_cases h3 : c.num.1 = 3
  · rw [if_pos h3]; exact ⟨hn, h0⟩
  rw [if_neg h3]
  by_cases h4 : c.num.1 = 4
  · rw [if_pos h4]; exact ⟨hn, h0⟩
  rw [if_neg h4]
  by_cases h5 : c.num.1 = 5
  · rw [if_pos h5]; exact ⟨frees_rng _, h0⟩
  rw [if_neg h5]
  by_cases h6 : c.num.1 = 6
  · rw [if_pos h6]; exact ⟨hn, Cut.u64_rng _⟩
  rw [if_neg h6]
  exact ⟨hn, h0⟩
theorem parse_rng (s : Txt) : Rng (parse s) := page_rng _
end Sp
end Go.Proofs.YtlpmjeiogdlifaaGreat
namespace Go.Proofs.YtlpmjeiogdlifaaGreat
open Go.RowKit
attribute [local go_sem low] mk_extract
attribute [local go_sem] After.cell After.frozen mk_extract_end ByteArray.mk_append_mk
namespace Sp
def pgM (m : Mt) : Page := ⟨6, [], [], [], [], [], [], 0, m⟩
def fresh (i : Int) : Mt := ⟨min (max i 0) 1, root0, 0, 2⟩
def metaB (m : Mt) : Txt := bytes (pgM m)
end Sp
end Go.Proofs.YtlpmjeiogdlifaaGreat
namespace Go.Proofs.YtlpmjeiogdlifaaGreat
open Go.RowKit Go.Conc
section
variable {P : Program} {ops : Array Oper} {Q : Exit → Act → World → Prop} {a : Act} {w w' : World} {i : Nat} {rest : List Nat} {o : Oper}
def InReg (P : Program) (ops : Array Oper) (Q : Exit → Act → World → Prop) (l : List Nat) (a : Act) (w : World) : Prop :=
  ∀ (b : Frame) (k : List Item) (cs : List Frame), ∃ e a' w', Q e a' w' ∧ Arrives P (lone (b.at a (.inRegion ops l :: k)) cs w) b k cs e a' w'
theorem InReg.region {id : Nat} (h : InReg P ops Q (List.range ops.size) a w) : (Code.region id ops false).wp P Q a w :=
  fun b k cs => let ⟨e, a', w', q, r⟩ := h b k cs; ⟨e, a', w', q, .of_steps (.one step_region) r⟩
theorem InReg.nil (h : Q .normal a w) : InReg P ops Q [] a w := fun _ _ _ => ⟨.normal, a, w, h, .one step_region_end⟩
theorem finish_put (ho : ops[i]? = some o) (b : Frame) (k : List Item) (v : Value) : (b.at a (.inRegion ops (i :: rest) :: k)).finish v = b.at (a.put o.dst v) (.inRegion ops rest :: k) := by
  rw [Frame.finish_at, ho]
  rfl
theorem InReg.val {v : Value} (ho : ops[i]? = some o) (hw : Region.wanted o (yielded ops a.tmps) = true) (hr : (execOp a.eval o).run P w = .ok (.value v) w') (h : InReg P ops Q rest (a.put o.dst v) w') : InReg P ops Q (i :: rest) a w := fun b k cs => by
  obtain ⟨e, a', w'', hq, harr⟩ := h b k cs
  refine ⟨e, a', w'', hq, .of_steps (.one (step_lone_go ?_)) harr⟩
  rw [stepG_op (b := b) (k := k) (cs := cs) (w := w) (rest := rest) ho hw, ← finish_put ho]
  simp [stepG.apply, hr]
theorem stepG_comm' {b : Frame} {k : List Item} {cs : List Frame} {cases : Array CommCase} {blocking : Bool} {shape : CommShape} (ho : ops[i]? = some o) (hw : Region.wanted o (yielded ops a.tmps) = true)
    (hr : (execOp a.eval o).run P w = .ok (.comm cases blocking shape) w') :
    ∃ es, stepG P true (G (b.at a (.inRegion ops (i :: rest) :: k)) cs) w = .comm (G (b.at a (.inRegion ops (i :: rest) :: k)) cs) cases blocking shape w' es := by
  rw [Go.Conc.stepG_oper ho hw]
  by_cases hk : b.kind = .early
  · have hk' : (b.kind == CallKind.early) = true := by simpa using hk
    exact ⟨_, by simp [stepG.apply, hr, G, Frame.at, hk', GStep.after]; rfl⟩
  · have hk' : (b.kind == CallKind.early) = false := by simpa using hk
    exact ⟨_, by simp [stepG.apply, hr, G, Frame.at, hk', GStep.after]; rfl⟩
theorem InReg.default {c cap s r : Nat} {z : Value} {tm : Bool} (ho : ops[i]? = some o) (hw : Region.wanted o (yielded ops a.tmps) = true) (hr : (execOp a.eval o).run P w = .ok (.comm #[rcase c z] false .select) w')
    (hc : w'.heap[c]? = some (.chan cap #[] false s r tm)) (h : InReg P ops Q rest (a.put o.dst (.tuple #[goInt (-1), .bool false, z])) w') : InReg P ops Q (i :: rest) a w := fun b k cs => by
  obtain ⟨e, a', w'', hq, harr⟩ := h b k cs
  obtain ⟨es, hs⟩ := stepG_comm' (b := b) (k := k) (cs := cs) (rest := rest) ho hw hr
  have hst := step_lone_select_default hs hc
  rw [finish_put ho] at hst
  exact ⟨e, a', w'', hq, .of_steps (.one hst) harr⟩
end
end Go.Proofs.YtlpmjeiogdlifaaGreat
namespace Go.Proofs.YtlpmjeiogdlifaaGreat
open Go.RowKit
attribute [local go_sem low] mk_extract
attribute [local go_sem] After.cell After.frozen mk_extract_end ByteArray.mk_append_mk
open Go.Conc
namespace Sp
def right (s : Txt) (i : Int) : Option Mt := if readOk s = true ∧ (parse s).kind = 6 ∧ (parse s).mt.txn % 2 = i then some (parse s).mt else none
def later (out : Option Mt) (m : Mt) : Option Mt := match out with | none => some m | some o => if o.txn < m.txn then some m else some o
def choose (a b : Txt) : Option Mt := ((right a 0).toList ++ (right b 1).toList).foldl later none
def rights (a b : Txt) : Nat → List Mt
  | 0 => []
  | 1 => (right a 0).toList
  | _ => (right a 0).toList ++ (right b 1).toList
end Sp
abbrev MetaT : TypeId := 57
def mtA (m : Sp.Mt) : Value := .agg (mtV m).toArray
def chooseV : Option Sp.Mt → Value
  | some m => .tuple #[.agg (mtV m).toArray, .nilIface]
  | none => .tuple #[.agg (mtV Sp.mt0).toArray, .iface ErrT (.int .i64 12)]
structure ChS (W0 : World) (r c : Nat) (l : List Sp.Mt) (w : World) : Prop where
  hb : Below W0.heap.size W0 w
  hr : W0.heap.size ≤ r
  hc : W0.heap.size ≤ c
  hrc : r < c
  br : Blk w r MetaT (mtV Sp.mt0).toArray
  ch : ∃ s q, w.heap[c]? = some (.chan 2 (l.map mtA).toArray false s q false)
  rng : ∀ m, m ∈ l → 0 ≤ m.txn ∧ m.txn < 18446744073709551616
def chLen (w : World) (c : Nat) : Nat := match w.heap[c]? with | some (.chan _ buf _ _ _ _) => buf.size | _ => 0
structure ChT (W0 : World) (r c o : Nat) (out : Option Sp.Mt) (l : List Sp.Mt) (w : World) : Prop where
  s : ChS W0 r c l w
  bo : Blk w o MetaT (mtV (out.getD Sp.mt0)).toArray
  ho : W0.heap.size ≤ o ∧ o ≠ r ∧ o ≠ c
theorem ChS.go {W0 : World} {r c : Nat} {l : List Sp.Mt} {w w' : World} (h : ChS W0 r c l w) (hb : Below w.heap.size w w') : ChS W0 r c l w' := by
  obtain ⟨s, q, hc⟩ := h.ch
  have hcl : c < w.heap.size := by
    rcases Nat.lt_or_ge c w.heap.size with h1 | h1
    · exact h1
    · rw [Array.getElem?_eq_none h1] at hc; cases hc
  exact ⟨h.hb.trans (hb.mono h.hb.size), h.hr, h.hc, h.hrc, h.br.below hb h.br.lt, ⟨s, q, (hb.block c hcl).trans hc⟩, h.rng⟩
theorem ChS.lt {W0 : World} {r c : Nat} {l : List Sp.Mt} {w : World} (h : ChS W0 r c l w) : c < w.heap.size := by
  obtain ⟨s, q, hc⟩ := h.ch
  rcases Nat.lt_or_ge c w.heap.size with h1 | h1
  · exact h1
  · rw [Array.getElem?_eq_none h1] at hc; cases hc
theorem ChS.push {W0 : World} {r c : Nat} {l : List Sp.Mt} {w : World} (h : ChS W0 r c l w) (m : Sp.Mt) (hm : 0 ≤ m.txn ∧ m.txn < 18446744073709551616) {s q : Nat} (hc : w.heap[c]? = some (.chan 2 (l.map mtA).toArray false s q false)) :
    ChS W0 r c (l ++ [m]) (w.setChan c 2 ((l.map mtA).toArray.push (mtA m)) false (s + 1) q false) := by
  have hcl : c < w.heap.size := by
    rcases Nat.lt_or_ge c w.heap.size with h1 | h1
    · exact h1
    · rw [Array.getElem?_eq_none h1] at hc; cases hc
  refine ⟨below_setChan h.hb h.hc _ _ _ _ _ _, h.hr, h.hc, h.hrc, ?_, ⟨s + 1, q, ?_⟩, fun x hx => ?_⟩
  · have hne : c ≠ r := by have := h.hrc; omega
    have hbr := h.br
    unfold Blk at hbr ⊢
    simp only [World.setChan]
    rw [Array.getElem?_setIfInBounds_ne hne]
    exact hbr
  · rw [heap_setChan _ _ _ _ _ _ _ _ hcl]
    simp
  · rcases List.mem_append.1 hx with h1 | h1
    · exact h.rng x h1
    · rw [List.mem_singleton.1 h1]; exact hm
theorem Blk.row {w : World} {g : Nat} {t : TypeId} {cs ds : Array Value} (h : Blk w g t cs) : Blk (w.setRow g ds) g t ds := setRow_heap w g cs ds t (0, 0) h
theorem below_setRow {B : Nat} {a w : World} (h : Below B a w) {g : Nat} (hg : B ≤ g) (cs : Array Value) : Below B a (w.setRow g cs) :=
  h.trans ⟨rfl, rfl, rfl, by simp, fun k hk => setRow_other w g k cs (by omega)⟩
theorem Blk.at6 {w : World} {g : Nat} {t : TypeId} {a b c d e f : Value} (h : Blk w g t #[a, b, c, d, e, f]) : w.cell? ⟨g, 0, none⟩ = some a ∧ w.cell? ⟨g, 1, none⟩ = some b ∧ w.cell? ⟨g, 2, none⟩ = some c ∧ w.cell? ⟨g, 3, none⟩ = some d ∧ w.cell? ⟨g, 4, none⟩ = some e ∧ w.cell? ⟨g, 5, none⟩ = some f :=
  ⟨h.cell 0, h.cell 1, h.cell 2, h.cell 3, h.cell 4, h.cell 5⟩
theorem ChT.go {W0 : World} {r c o : Nat} {out : Option Sp.Mt} {l : List Sp.Mt} {w w' : World} (h : ChT W0 r c o out l w) (hb : Below w.heap.size w w') : ChT W0 r c o out l w' := ⟨h.s.go hb, h.bo.below hb h.bo.lt, h.ho⟩
theorem ChT.len {W0 : World} {r c o : Nat} {out : Option Sp.Mt} {l : List Sp.Mt} {w : World} (h : ChT W0 r c o out l w) : chLen w c = l.length := by
  obtain ⟨s, q, hc⟩ := h.s.ch
  unfold chLen
  rw [hc]
  simp
theorem ChT.put {W0 : World} {r c o : Nat} {out : Option Sp.Mt} {l : List Sp.Mt} {w : World} (h : ChT W0 r c o out l w) (m : Sp.Mt) : ChT W0 r c o (some m) l (w.setRow o (mtV m).toArray) := by
  obtain ⟨s, q, hc⟩ := h.s.ch
  have hb := h.s.br
  unfold Blk at hb
  exact ⟨⟨below_setRow h.s.hb h.ho.1 _, h.s.hr, h.s.hc, h.s.hrc, (setRow_other w o r _ (Ne.symm h.ho.2.1)).trans hb, ⟨s, q, (setRow_other w o c _ (Ne.symm h.ho.2.2)).trans hc⟩, h.s.rng⟩, h.bo.row, h.ho⟩
end Go.Proofs.YtlpmjeiogdlifaaGreat
namespace Go.Proofs.YtlpmjeiogdlifaaGreat
open Go.RowKit
attribute [local go_sem low] mk_extract
attribute [local go_sem] After.cell After.frozen mk_extract_end ByteArray.mk_append_mk
theorem run_eql_slice_nl (b off n c : Nat) (W : World) : (binOp .eql 31 (.slice (some ⟨b, off, none⟩) n c) (.slice none 0 0)).run Tryz.prog W = .ok (.bool false) W := by
  unfold binOp
  simp [run_equal_slice_nil W 31 9 _ n c Tryz.underlying31]
set_option maxRecDepth 100000 in
set_option maxHeartbeats 1600000 in
theorem clone_any (l : List Txt) (b off c : Nat) {M : Nat → Prop} (w : World) (hl : Txts w M (some ⟨b, off, none⟩) l) (hn : l.length ≤ 1000) :
    Calls Tryz.prog 46 #[.slice (some ⟨b, off, none⟩) l.length c] w fun e w' => ∃ g cap, e = .returned (.slice (some ⟨g, 0, none⟩) l.length cap) ∧ w'.ownsRow w.heap.size StrT 1 (.slice (some ⟨g, 0, none⟩) l.length cap) l.length (l.map tv) ∧ Below w.heap.size w w' := by
  obtain ⟨i0, hi0, hz0, hz1, hz2⟩ := info_parts info_str
  have HL := Lib.hid hl
  have HN := Lib.hid hn
  clear hl hn
  have hnl := fun W => run_eql_slice_nl (b := b) (off := off) l.length c W
  go_enter Tryz.func46, Tryz.ntmps46
  go_wp2_with (at_builtin; refine wpList_append_own _ rfl _ _ 31 rfl w.heap.size StrT i0 _ 1 16 Tryz.underlying31 hi0 hz0 hz1 hz2 rfl (by decide) _ 0 [] rfl ?c0 ⟨b, off, none⟩ l.length c (l.map tv) rfl ?c6 ?c1 ?c2 ?c3 ?c4 ?c5 ?_)
  case c0 => exact ⟨rfl, .inr ⟨w.heap.size, 0, #[], rfl, Nat.le_refl _, heap_alloc_new _ _, Nat.le_refl _, by simp [maxLen], rfl, rfl⟩⟩
  case c6 => simp
  case c1 =>
    intro j u hu
    have hj : j < l.length := by
      have := (List.getElem?_eq_some_iff.1 hu).1
      rwa [List.length_map] at this
    obtain ⟨b', off', e, hb, hc⟩ := HL.out.at_ hj
    obtain ⟨rfl, rfl⟩ : b = b' ∧ off = off' := by simpa using e
    have h := hc j hj
    have hal : Below w.heap.size w (w.alloc (.cells #[] StrT)) := (Below.refl _ _).alloc (Nat.le_refl _) _
    rw [Go.WideShapes.add_plain]
    refine (hal.cell (p := ⟨b, off + j, none⟩) hb).trans (h.trans ?_)
    rw [List.getElem?_map, List.getElem?_eq_getElem hj] at hu
    simp only [Option.map_some, Option.some.injEq] at hu
    rw [← hu]
    simp [List.getD, hj, tv]
  case c2 =>
    intro u hu
    obtain ⟨s, _, rfl⟩ := List.mem_map.1 hu
    rfl
  case c3 => have := HN.out; simp only [maxLen]; omega
  case c4 => have := HN.out; omega
  case c5 => simp
  intro v' w' hown' hgr' hnil
  obtain ⟨g, cap, rfl⟩ : ∃ g cap, v' = .slice (some ⟨g, 0, none⟩) l.length cap := by
    rcases hown'.2 with ⟨h, _⟩ | ⟨g, cap, cur, h, _⟩
    · exact absurd h (fun e => (hnil e).elim)
    · exact ⟨g, cap, h⟩
  clear hnil
  have hb2 : Below w.heap.size w w' := by
    have h1 : Below w.heap.size w (w.alloc (.cells #[] StrT)) := (Below.refl _ _).alloc (Nat.le_refl _) _
    exact h1.trans (Chg.below (S := fun k => some w.heap.size = some k) (Chg.of_grown hgr' (fun k hk => .inl (by simpa [Value.ownBlock] using hk))) (by simp) (fun k hk e => by simp at e; omega))
  have HB := Lib.hid hb2
  have HO := Lib.hid hown'
  clear hown' hgr' hb2
  go_wp2_with fail
  go_ret
  exact ⟨g, cap, rfl, HO.out, HB.out⟩
namespace Sp
def atV (V : List Txt) (i : Int) : Txt := if i < 0 then [] else V.getD i.toNat []
end Sp
set_option maxRecDepth 100000 in
set_option maxHeartbeats 1600000 in
theorem at_any (V : List Txt) (A : Option Addr) (c : Nat) {M : Nat → Prop} (i : Int) (w : World) (hV : Txts w M A V) :
    Calls Tryz.prog 123 #[.slice A V.length c, .int .i64 i] w fun e w' => e = .returned (.string ⟨(Sp.atV V i).toArray⟩) ∧ w = w' := by
  by_cases h0 : i < 0
  · have HV := Lib.hid (show Sp.atV V i = [] by unfold Sp.atV; rw [if_pos h0])
    rw [HV.out]
    clear hV
    go_enter Tryz.func123, Tryz.ntmps123
    go_wp2_with fail
    go_ret
    exact ⟨rfl, rfl⟩
  · obtain ⟨j, rfl⟩ := Int.eq_ofNat_of_zero_le (by omega : 0 ≤ i)
    by_cases h1 : j < V.length
    · obtain ⟨b, off, rfl, hb, hc⟩ := hV.at_ h1
      have hcj := hc j h1
      have HV := Lib.hid (show Sp.atV V j = V.getD j [] by unfold Sp.atV; rw [if_neg h0]; rfl)
      rw [HV.out]
      clear hV hc
      generalize V.getD j [] = s at *
      go_enter Tryz.func123, Tryz.ntmps123
      go_wp2_with fail
      go_ret
      exact ⟨rfl, rfl⟩
    · have HV := Lib.hid (show Sp.atV V j = [] by unfold Sp.atV; rw [if_neg h0]; exact (List.getD_eq_getElem?_getD ..).trans (by rw [List.getElem?_eq_none (by simpa using h1)]; rfl))
      rw [HV.out]
      clear hV
      have h2 : (V.length : Int) ≤ (j : Int) := by omega
      go_enter Tryz.func123, Tryz.ntmps123
      go_wp2_with fail
      go_ret
      exact ⟨rfl, rfl⟩
theorem FileAt.txts {w : World} {f m n c : Nat} {A : Option Addr} {V : List Txt} (h : FileAt w f (.slice A n c) m V) (hn : V.length ≤ 4611686018427387904) : n = V.length ∧ Txts w NoM A V := by
  obtain ⟨A', c', e⟩ := own_form h.own
  simp only [Value.slice.injEq] at e
  obtain ⟨rfl, rfl, rfl⟩ := e
  refine ⟨rfl, ?_⟩
  have := TRow.of_own h.own (by rw [List.length_map]; exact hn)
  exact this.row (fun _ _ h => h)
set_option maxRecDepth 100000 in
set_option maxHeartbeats 1600000 in
theorem fileRead_any (f m : Nat) (v : Value) (V : List Txt) (i : Int) (w : World) (hf : FileAt w f v m V) (hn : V.length ≤ 4611686018427387904) :
    Calls Tryz.prog 68 #[.pointer (some ⟨f, 0, none⟩), .int .i64 i] w fun e w' => e = .returned (.string ⟨(Sp.atV V i).toArray⟩) ∧ w = w' := by
  obtain ⟨A, c, rfl⟩ := own_form hf.own
  have HT := Lib.hid (hf.txts hn).2
  obtain ⟨sv, hb⟩ := hf.bf
  have c0 : w.cell? ⟨f, 0, none⟩ = some (.slice A V.length c) := hb.cell 0
  clear hf hb
  go_enter Tryz.func68, Tryz.ntmps68
  go_wp2_with (go_at_call 123; refine (at_any V A c i _ HT.out).mono ?_; rintro e w2 ⟨rfl, rfl⟩)
  go_ret
  exact ⟨rfl, rfl⟩
end Go.Proofs.YtlpmjeiogdlifaaGreat
namespace Go.Proofs.YtlpmjeiogdlifaaGreat
open Go.RowKit
attribute [local go_sem low] mk_extract
attribute [local go_sem] After.cell After.frozen mk_extract_end ByteArray.mk_append_mk
theorem Txts.of_own {w : World} {base g cap : Nat} {l : List Txt} (h : w.ownsRow base StrT 1 (.slice (some ⟨g, 0, none⟩) l.length cap) l.length (l.map tv)) (hn : l.length ≤ 4611686018427387904) : Txts w NoM (some ⟨g, 0, none⟩) l :=
  (TRow.of_own h (by rw [List.length_map]; exact hn)).row (fun _ _ h => h)
theorem own_less {w : World} {base base' : Nat} {e : TypeId} {size n : Nat} {v : Value} {xs : List Value} (h : w.ownsRow base e size v n xs) (hb : base' ≤ base) : w.ownsRow base' e size v n xs := by
  refine ⟨h.1, ?_⟩
  rcases h.2 with h | ⟨g, cap, cur, hv, hg, r⟩
  · exact .inl h
  · exact .inr ⟨g, cap, cur, hv, Nat.le_trans hb hg, r⟩
set_option maxRecDepth 100000 in
set_option maxHeartbeats 1600000 in
theorem fileNew_any (l : List Txt) (b off c : Nat) {M : Nat → Prop} (w : World) (hl : Txts w M (some ⟨b, off, none⟩) l) (hn : l.length ≤ 400) (hc : l.length ≤ c) (hs : ∀ s ∈ l, s.length ≤ 4611686018427387904) :
    Calls Tryz.prog 18 #[.slice (some ⟨b, off, none⟩) l.length c] w fun e w' => ∃ f v m, e = .returned (.pointer (some ⟨f, 0, none⟩)) ∧ FileAt w' f v m l ∧ w.heap.size ≤ f ∧ w.heap.size ≤ m ∧ (∀ k, v.ownBlock = some k → w.heap.size ≤ k) ∧ Below w.heap.size w w' := by
  have HL := Lib.hid hl
  have HS := Lib.hid hs
  have h400 : (l.length : Int) ≤ 400 := by omega
  have hcc : (l.length : Int) ≤ (c : Int) := by omega
  have hmin : min (l.length : Int) 400 = (l.length : Int) := by omega
  have hmm := @run_makeMap Tryz.prog
  clear hl hs
  go_enter Tryz.func18, Tryz.ntmps18
  go_upto_region 2 with (go_at_call 46; refine (clone_any l b off c _ HL.out (by omega)).mono ?_; rintro e w1 ⟨g, cap, rfl, ho, hb1⟩; have HO := Lib.hid ho; have HB := Lib.hid hb1; clear ho hb1)
  go_wp2_with (go_at_call 46; refine (clone_any l g 0 cap _ (Txts.of_own HO.out (by omega)) (by omega)).mono ?_; rintro e w2 ⟨g2, cap2, rfl, ho2, hb2⟩; have HO2 := Lib.hid ho2; have HB2 := Lib.hid hb2; clear ho2 hb2)
  go_ret
  have hz1 := HB.out.size
  have hz2 := HB2.out.size
  refine ⟨w2.heap.size + 1, .slice (some ⟨g, 0, none⟩) l.length cap, w2.heap.size, rfl, ⟨⟨.slice (some ⟨g2, 0, none⟩) l.length cap2, ?_⟩, ?_, ⟨#[], 0, ?_, by simp⟩, HS.out⟩, by omega, by omega, fun k hk => ?_, ?_⟩
  · exact blk_second w2 _ _ _
  · have hal : Below w1.heap.size w1 ((w2.alloc (.map #[] 0)).alloc (.cells #[.slice (some ⟨g, 0, none⟩) l.length cap, .slice (some ⟨g2, 0, none⟩) l.length cap2, .map (some w2.heap.size)] FileT)) := (HB2.out.alloc hz2 _).alloc (by rw [World.size_alloc]; omega) _
    exact own_less (own_chg2 (S := NoM) HO.out (Chg.of_below hal) (fun _ _ h => h)) (Nat.zero_le _)
  · have := heap_alloc_new w2 (.map #[] 0)
    exact (((Below.refl _ _).alloc (Nat.le_refl _) _ : Below (w2.alloc (.map #[] 0)).heap.size (w2.alloc (.map #[] 0)) _).block _ (by rw [World.size_alloc]; omega)).trans this
  · have := own_lt HO.out k hk
    rcases HO.out.2 with ⟨h, _⟩ | ⟨g', cap', cur, h, hg, _⟩
    · cases h
    · simp only [Value.slice.injEq, Option.some.injEq, Addr.mk.injEq] at h
      simp only [Value.ownBlock, Option.some.injEq] at hk
      omega
  · exact ((HB.out.trans (HB2.out.mono hz1)).alloc (by omega) _).alloc (by rw [World.size_alloc]; omega) _
end Go.Proofs.YtlpmjeiogdlifaaGreat
namespace Go.Proofs.YtlpmjeiogdlifaaGreat
open Go.RowKit
attribute [local go_sem low] mk_extract
attribute [local go_sem] After.cell After.frozen mk_extract_end ByteArray.mk_append_mk
abbrev StT : TypeId := 99
abbrev PMapT : TypeId := 97
def pgZ0 : Array Value := #[.int .i64 0, .slice none 0 0, .slice none 0 0, .slice none 0 0, .string ⟨#[]⟩, .slice none 0 0, .slice none 0 0, .int .i64 0, .int .u64 0, .int .i64 0, .int .i64 0, .int .i64 0, .int .i64 0, .int .i64 0]
theorem zeroPage (W : World) : (zeroValue 59).run Tryz.prog W = .ok (.agg pgZ0) W := by kernel_rfl
structure St0 (w : World) (t f m d : Nat) (last : Int) (v : Value) (V : List Txt) : Prop where
  bt : Blk w t StT #[.pointer (some ⟨f, 0, none⟩), .map (some d), .slice none 0 0, .slice none 0 0, .int .i64 last, .int .i64 400]
  dm : ∃ c, w.heap[d]? = some (.map #[] c)
  fa : FileAt w f v m V
theorem St0.go {w w' : World} {t f m d : Nat} {last : Int} {v : Value} {V : List Txt} (h : St0 w t f m d last v V) (hb : Below w.heap.size w w') : St0 w' t f m d last v V := by
  obtain ⟨c, hd⟩ := h.dm
  exact ⟨h.bt.below hb h.bt.lt, ⟨c, (hb.block d (Array.getElem?_eq_some_iff.1 hd).1).trans hd⟩, h.fa.go hb⟩
theorem pageV_all0 (p : Sp.Page) (r : Refs) : (pageV p r).toArray.all (·.oneCell') = true := by
  rw [Array.all_eq_true_iff_forall_mem]
  intro u hu
  have hu : u ∈ pageV p r := by simpa using hu
  simp only [pageV, mtV, List.mem_append, List.mem_cons, List.not_mem_nil, or_false] at hu
  rcases hu with rfl | rfl | rfl | rfl | rfl | rfl | rfl | rfl | rfl | rfl | rfl | rfl | rfl | rfl <;> rfl
theorem chg_setRow0 (w : World) (k : Nat) (cs : Array Value) : Chg (OneM k) w (w.setRow k cs) :=
  ⟨rfl, rfl, rfl, by simp, fun i _ hs => setRow_other w k i cs (fun e => hs e)⟩
def readE (s : Txt) : Value := if Sp.readOk s then .nilIface else .iface 69 (.int .i64 12)
theorem readV_is (s : Txt) (r : Refs) : readV s r = .tuple #[.agg (pageV (readPg s) r).toArray, readE s] := by
  unfold readV readPg readE
  split <;> rfl
theorem atV_sz (V : List Txt) (i : Int) (h : ∀ s ∈ V, s.length ≤ 4611686018427387904) : (Sp.atV V i).length ≤ 4611686018427387904 := by
  unfold Sp.atV
  split
  · simp
  · rw [List.getD_eq_getElem?_getD]
    cases hq : V[i.toNat]? with
    | none => simp
    | some s => exact h s (List.mem_of_getElem? hq)
end Go.Proofs.YtlpmjeiogdlifaaGreat
