/- The plain law: what is written is read (pages as bytes, no program in sight). The plain law: a byte changed, one less, one more, and the bytes are no page's. Metas: the plain side, a version's page. Channels within one goroutine, in the walk's own form: a region that sends, or selects one receive with a default. The meta that counts, of two texts, in plain words; a channel with metas. -/
import Derived.Test.YtkcfmjlcijhieaaGreatQB03
import Derived.Test.YtkcfmjlcijhieaaGreatQB08
import Derived.Test.YtkcfmjlcijhieaaGreatQB09
import Derived.Conc.LoneCalls
import Derived.Conc.LoneSelectN
set_option linter.unusedSimpArgs false
set_option linter.unusedVariables false
namespace Go.Proofs.YtkcfmjlcijhieaaGreat
open Go.RowKit
attribute [local go_sem low] mk_extract
attribute [local go_sem] After.cell After.frozen mk_extract_end ByteArray.mk_append_mk
namespace Sp
/-- A reader that reads 'a' off the bytes 'b', whatever follows. -/
def Reads {α : Type} (f : Cut → α × Cut) (b : Txt) (a : α) : Prop := ∀ t, f ⟨b ++ t, false⟩ = (a, ⟨t, false⟩)
theorem take_app (b t : Txt) {n : Nat} (h : b.length = n) : Cut.take ⟨b ++ t, false⟩ n = b := by
  subst h
  unfold Cut.take
  rw [if_neg (by simp)]
  simp
theorem rest_app (b t : Txt) {n : Nat} (h : b.length = n) : Cut.rest ⟨b ++ t, false⟩ n = ⟨t, false⟩ := by
  subst h
  simp [Cut.rest]
theorem reads_u64 {n : Int} (h0 : 0 ≤ n) (h1 : n < 18446744073709551616) : Reads Cut.u64 (le8 n) n := fun t => by
  unfold Cut.u64
  rw [take_app _ _ (le8_length n), rest_app _ _ (le8_length n), le8, unle_leN 8 n h0 (by omega)]
theorem reads_num {n : Int} (h0 : 0 ≤ n) (h1 : n ≤ 1073741824) : Reads Cut.num (le8 n) n := fun t => by
  unfold Cut.num
  rw [take_app _ _ (le8_length n), rest_app _ _ (le8_length n), le8, unle_leN 8 n h0 (by omega), Int.min_eq_left h1]
theorem reads_text {s : Txt} (h : s.length ≤ 65535) : Reads Cut.text (text s) s := fun t => by
  have hc : cutText s = s := List.take_of_length_le h
  have hl : (leN 2 (s.length : Int)).length = 2 := leN_length _ _
  have hn : (Cut.lenOf (leN 2 (s.length : Int))).toNat = s.length := by
    rw [leN2 _ h]
    simp only [Cut.lenOf, List.getD_cons_zero, List.getD_cons_succ, UInt8.toNat_ofNat']
    omega
  unfold Cut.text text
  rw [hc]
  simp only [List.append_assoc]
  rw [take_app _ _ hl, rest_app _ _ hl, hn, take_app _ _ rfl, rest_app _ _ rfl]
  rw [if_neg (by intro h; rw [h] at hl; simp at hl)]
  simp
theorem eachN_reads {β : Type} {step : List β → Cut → List β × Cut} {enc : β → Txt} {l : List β} (h : ∀ x, x ∈ l → ∀ acc t, step acc ⟨enc x ++ t, false⟩ = (acc ++ [x], ⟨t, false⟩)) (t : Txt) :
    ∀ k, k ≤ l.length → eachN step k ([], ⟨(l.map enc).flatten ++ t, false⟩) = (l.take k, ⟨((l.drop k).map enc).flatten ++ t, false⟩)
  | 0, _ => by simp [eachN]
  | k + 1, hk => by
    have ih := eachN_reads h t k (by omega)
    rw [eachN_succ _ _ _ (by rw [ih]), ih]
    have hd : l.drop k = l[k] :: l.drop (k + 1) := List.drop_eq_getElem_cons (by omega)
    rw [hd, List.map_cons, List.flatten_cons, List.append_assoc, h _ (List.getElem_mem _), List.take_succ_eq_append_getElem (by omega)]
theorem eachN_all {β : Type} {step : List β → Cut → List β × Cut} {enc : β → Txt} {l : List β} (h : ∀ x, x ∈ l → ∀ acc t, step acc ⟨enc x ++ t, false⟩ = (acc ++ [x], ⟨t, false⟩)) (t : Txt) {n : Nat} (hn : n = l.length) :
    eachN step n ([], ⟨(l.map enc).flatten ++ t, false⟩) = (l, ⟨t, false⟩) := by
  subst hn
  rw [eachN_reads h t _ (Nat.le_refl _)]
  simp
theorem len_nat (n : Nat) (h : n ≤ 1073741824) : 0 ≤ (n : Int) ∧ (n : Int) ≤ 1073741824 := by omega
theorem reads_vals {l : List Txt} (hl : l.length ≤ 1000) (h : ∀ s, s ∈ l → s.length ≤ 65535) : Reads Cut.vals (valsB l) l := fun t => by
  unfold Cut.vals valsB
  rw [List.append_assoc, reads_num (n := l.length) (by omega) (by omega) _]
  refine eachN_all (fun x hx acc t => ?_) t (by simp)
  unfold textStep
  rw [reads_text (h x hx)]
theorem reads_nums {l : List Int} (hl : l.length ≤ 1000) (h : ∀ n, n ∈ l → 0 ≤ n ∧ n ≤ 1073741824) : Reads Cut.nums (le8 l.length ++ numsB l) l := fun t => by
  unfold Cut.nums numsB
  rw [List.append_assoc, reads_num (n := l.length) (by omega) (by omega) _]
  refine eachN_all (fun x hx acc t => ?_) t (by simp)
  unfold numStep
  rw [reads_num (h x hx).1 (h x hx).2]
theorem reads_root {r : Root} (h : isRoot r = true) : Reads Cut.root (rootB r) r := fun t => by
  have hr := isRoot_rng h
  unfold Cut.root rootB
  simp only [List.append_assoc]
  rw [reads_num (by omega) (by omega), reads_num (by omega) (by omega), reads_num (by omega) (by omega)]
theorem reads_free {f : Free} (ht : 0 ≤ f.txn ∧ f.txn < 18446744073709551616) (hl : f.ids.length ≤ 1000) (h : ∀ n, n ∈ f.ids → 0 ≤ n ∧ n ≤ 1073741824) : Reads Cut.free (freeB f) f := fun t => by
  unfold Cut.free freeB
  have e : le8 f.txn ++ le8 f.ids.length ++ numsB f.ids ++ t = le8 f.txn ++ ((le8 f.ids.length ++ numsB f.ids) ++ t) := by simp only [List.append_assoc]
  rw [e, reads_u64 ht.1 ht.2]
  dsimp only
  rw [reads_nums hl h]
theorem isVals_mem {l : List Txt} {a b : Int} (h : isVals l a b = true) : ∀ s, s ∈ l → 1 ≤ s.length ∧ s.length ≤ 12 := fun s hs => by
  simp only [isVals, Bool.and_eq_true] at h
  obtain ⟨j, hj, rfl⟩ := List.getElem_of_mem hs
  have := allTo_iff.1 h.1.1 j hj
  simp only [valAt, Bool.and_eq_true, decide_eq_true_eq] at this
  simpa [List.getD, hj] using this.1
theorem isVals_len {l : List Txt} {a b : Int} (h : isVals l a b = true) : a ≤ l.length ∧ (l.length : Int) ≤ b := by
  simp only [isVals, Bool.and_eq_true, decide_eq_true_eq] at h
  exact ⟨h.1.2, h.2⟩
theorem isItem_val {x : Item} (h : isItem x = true) : x.key.length ≤ 8 ∧ x.val.length ≤ 12 ∧ (∀ s, s ∈ x.vals → s.length ≤ 65535) ∧ 1 ≤ x.kind := by
  simp only [isItem, sameItem, kindOk, short, Bool.and_eq_true, decide_eq_true_eq] at h
  obtain ⟨⟨hk8, ho⟩, hk⟩ := h
  obtain ⟨key, kind, val, run, len, vals, dup, rt⟩ := x
  simp only [own] at *
  by_cases h1 : kind = 1
  · simp only [h1, if_true, Item.mk.injEq, decide_eq_true_eq] at ho hk
    obtain ⟨_, _, _, rfl, rfl, rfl, rfl, rfl⟩ := ho
    exact ⟨hk8.2, hk, by simp, by omega⟩
  · rw [if_neg h1] at ho hk
    by_cases h2 : kind = 2
    · simp only [h2, if_true, Item.mk.injEq] at ho hk
      obtain ⟨_, _, rfl, _, _, rfl, rfl, rfl⟩ := ho
      exact ⟨hk8.2, by simp, by simp, by omega⟩
    · rw [if_neg h2] at ho hk
      by_cases h3 : kind = 3
      · simp only [h3, if_true, Item.mk.injEq] at ho hk
        obtain ⟨_, _, rfl, rfl, rfl, _, _, rfl⟩ := ho
        refine ⟨hk8.2, by simp, ?_, by omega⟩
        simp only [Bool.and_eq_true, Bool.or_eq_true, decide_eq_true_eq] at hk
        rcases hk with ⟨_, hv⟩ | ⟨rfl, _⟩
        · intro s hs
          have := isVals_mem hv s hs
          omega
        · simp
      · rw [if_neg h3] at ho hk
        by_cases h4 : kind = 4
        · simp only [h4, if_true, Item.mk.injEq] at ho hk
          obtain ⟨_, _, rfl, rfl, rfl, rfl, rfl, _⟩ := ho
          exact ⟨hk8.2, by simp, by simp, by omega⟩
        · rw [if_neg h4] at hk
          exact absurd hk (by simp)
theorem own_eq {x : Item} (h : isItem x = true) : x = own x := by
  simp only [isItem, sameItem, Bool.and_eq_true, decide_eq_true_eq] at h
  exact h.1.2
theorem reads_item {x : Item} (h : isItem x = true) : Reads Cut.item (itemB x) x := fun t => by
  have hr := isItem_rng h
  have hv := isItem_val h
  have ho := own_eq h
  unfold Cut.item itemB
  simp only [List.append_assoc]
  rw [reads_text (by omega)]
  dsimp only
  rw [reads_num (by omega) (by omega)]
  dsimp only
  by_cases h1 : x.kind = 1
  · rw [if_pos h1, if_pos h1, reads_text (by omega)]
    rw [own, if_pos h1] at ho
    rw [← ho]
  · rw [if_neg h1, if_neg h1]
    by_cases h2 : x.kind = 2
    · rw [if_pos h2, if_pos h2]
      simp only [List.append_assoc]
      rw [reads_num (by omega) (by omega)]
      dsimp only
      rw [reads_num (by omega) (by omega)]
      rw [own, if_neg h1, if_pos h2] at ho
      rw [← ho]
    · rw [if_neg h2, if_neg h2]
      by_cases h3 : x.kind = 3
      · rw [if_pos h3, if_pos h3]
        simp only [List.append_assoc]
        rw [reads_vals (by omega) hv.2.2.1]
        dsimp only
        rw [reads_num (by omega) (by omega)]
        rw [own, if_neg h1, if_neg h2, if_pos h3] at ho
        rw [← ho]
      · have h4 : x.kind = 4 := by omega
        rw [if_neg h3, if_neg h3, if_pos h4, reads_root hr.2.2.2.2.2.2.2.2.2]
        rw [own, if_neg h1, if_neg h2, if_neg h3, if_pos h4] at ho
        rw [← ho]
theorem isIDs_mem {l : List Int} (h : isIDs l = true) : ∀ n, n ∈ l → 2 ≤ n ∧ n < 400 := fun n hn => by
  obtain ⟨j, hj, rfl⟩ := List.getElem_of_mem hn
  have := allTo_iff.1 h j hj
  simp only [idAt, isID, Bool.and_eq_true, decide_eq_true_eq] at this
  simpa [List.getD, hj] using this.1
theorem isLeaf_mem {l : List Item} (h : isLeaf l = true) : l.length ≤ 4 ∧ ∀ x, x ∈ l → isItem x = true := by
  simp only [isLeaf, Bool.and_eq_true, decide_eq_true_eq] at h
  refine ⟨h.2, fun x hx => ?_⟩
  obtain ⟨j, hj, rfl⟩ := List.getElem_of_mem hx
  have := allTo_iff.1 h.1.1 j hj
  simp only [leafAt, Bool.and_eq_true] at this
  simpa [List.getD, hj] using this.1
theorem reads_items {l : List Item} (h : isLeaf l = true) : Reads Cut.items (le8 l.length ++ itemsB l) l := fun t => by
  have hl := isLeaf_mem h
  unfold Cut.items itemsB
  rw [List.append_assoc, reads_num (n := l.length) (by omega) (by omega) _]
  refine eachN_all (fun x hx acc t => ?_) t (by simp)
  unfold itemStep
  rw [reads_item (hl.2 x hx)]
theorem eachN_pairs {keys : List Txt} {kids : List Int} (hk : ∀ i, i < kids.length → (keys.getD i []).length ≤ 65535 ∧ 0 ≤ kids.getD i 0 ∧ kids.getD i 0 ≤ 1073741824) (hl : keys.length = kids.length) (t : Txt) :
    ∀ k, k ≤ kids.length → eachN keyStep k (([], []), ⟨kidsTo keys kids kids.length ++ t, false⟩) = ((keys.take k, kids.take k), ⟨(((List.range kids.length).drop k).map (kidB keys kids)).flatten ++ t, false⟩)
  | 0, _ => by simp [eachN, kidsTo]
  | k + 1, hk1 => by
    have ih := eachN_pairs hk hl t k (by omega)
    rw [eachN_succ _ _ _ (by rw [ih]), ih]
    have hd : (List.range kids.length).drop k = k :: (List.range kids.length).drop (k + 1) := by
      rw [List.drop_eq_getElem_cons (by simp; omega)]
      simp
    have hk2 := hk k (by omega)
    rw [hd, List.map_cons, List.flatten_cons, kidB]
    simp only [List.append_assoc]
    unfold keyStep
    dsimp only
    rw [reads_text hk2.1]
    dsimp only
    rw [reads_num hk2.2.1 hk2.2.2, List.take_succ_eq_append_getElem (by omega), List.take_succ_eq_append_getElem (by omega)]
    simp [List.getD, show k < kids.length by omega, show k < keys.length by omega]
theorem lt_nil (s : Txt) (h : lt s [] = true) : False := by
  cases s <;> simp [lt, Op.bytesLess] at h
theorem isBranch_all {p : Page} (h : isBranch p = true) : p.kids.length ≤ 4 ∧ p.keys.length = p.kids.length ∧ ∀ i, i < p.kids.length → (p.keys.getD i []).length ≤ 8 ∧ 2 ≤ p.kids.getD i 0 ∧ p.kids.getD i 0 < 400 := by
  simp only [isBranch, Bool.and_eq_true, decide_eq_true_eq] at h
  obtain ⟨⟨⟨⟨_, h1⟩, h2⟩, h3⟩, h4⟩ := h
  refine ⟨h1, h2, fun i hi => ?_⟩
  have := allTo_iff.1 h4 i hi
  simp only [branchAt, isID, short, Bool.and_eq_true, Bool.or_eq_true, decide_eq_true_eq] at this
  refine ⟨?_, this.1⟩
  rcases this.2 with rfl | h
  · rw [h3]; simp
  · exact h.1.2
theorem reads_keys {p : Page} (h : isBranch p = true) : Reads Cut.keys (le8 p.kids.length ++ kidsTo p.keys p.kids p.kids.length) (p.keys, p.kids) := fun t => by
  have hl := isBranch_all h
  unfold Cut.keys
  rw [List.append_assoc, reads_num (n := p.kids.length) (by omega) (by omega) _]
  dsimp only
  rw [Int.toNat_natCast, eachN_pairs (fun i hi => by have := hl.2.2 i hi; omega) hl.2.1 t _ (Nat.le_refl _)]
  have e0 : (List.range p.kids.length).drop p.kids.length = [] := by simp
  rw [e0, List.take_of_length_le (by omega), List.take_of_length_le (by omega)]
  rfl
/-- The numbers of versions that a page has lie in a word. -/
def Rng (p : Page) : Prop := (∀ f, f ∈ p.free → 0 ≤ f.txn ∧ f.txn < 18446744073709551616) ∧ 0 ≤ p.mt.txn ∧ p.mt.txn < 18446744073709551616
theorem total_mem {l : List Free} {f : Free} (h : f ∈ l) : f.ids.length ≤ total l := by
  unfold total
  induction l with
  | nil => simp at h
  | cons a l ih =>
    rcases List.mem_cons.1 h with rfl | h
    · simp
    · have := ih h
      simp only [List.map_cons, List.sum_cons]
      omega
theorem total_len {l : List Free} (h : ∀ f, f ∈ l → 1 ≤ f.ids.length) : l.length ≤ total l := by
  unfold total
  induction l with
  | nil => simp
  | cons a l ih =>
    have h1 := h a (by simp)
    have := ih fun f hf => h f (by simp [hf])
    simp only [List.map_cons, List.sum_cons, List.length_cons]
    omega
theorem isFree_mem {p : Page} (h : isFree p = true) : p.free.length ≤ 20 ∧ 0 ≤ p.next ∧ p.next < 400 ∧ ∀ f, f ∈ p.free → f.ids.length ≤ 20 ∧ isIDs f.ids = true := by
  simp only [isFree, noneOr, isID, Bool.and_eq_true, Bool.or_eq_true, decide_eq_true_eq] at h
  have hm : ∀ f, f ∈ p.free → 1 ≤ f.ids.length ∧ isIDs f.ids = true := fun f hf => by
    obtain ⟨j, hj, rfl⟩ := List.getElem_of_mem hf
    have := allTo_iff.1 h.1.1 j hj
    simp only [freeAt, Bool.and_eq_true, decide_eq_true_eq] at this
    have e : p.free.getD j free0 = p.free[j] := by simp [List.getD, hj]
    rw [e] at this
    exact ⟨List.length_pos_iff.2 this.1.1, this.2⟩
  have h1 := total_len fun f hf => (hm f hf).1
  refine ⟨by omega, by omega, by omega, fun f hf => ⟨?_, (hm f hf).2⟩⟩
  have := total_mem hf
  omega
theorem reads_frees {p : Page} (h : isFree p = true) (hr : Rng p) : Reads Cut.frees (le8 p.free.length ++ freesB p.free) p.free := fun t => by
  have hl := isFree_mem h
  unfold Cut.frees freesB
  rw [List.append_assoc, reads_num (n := p.free.length) (by omega) (by omega) _]
  refine eachN_all (fun x hx acc t => ?_) t (by simp)
  unfold freeStep
  have hx2 := hl.2.2.2 x hx
  rw [reads_free (hr.1 x hx) (by omega) fun n hn => by have := isIDs_mem hx2.2 n hn; omega]
theorem isMt_rng2 {m : Mt} (h : isMt m = true) : isRoot m.main = true ∧ 0 ≤ m.free ∧ m.free < 400 ∧ 2 ≤ m.last ∧ m.last ≤ 400 := by
  simp only [isMt, noneOr, isID, Bool.and_eq_true, Bool.or_eq_true, decide_eq_true_eq] at h
  refine ⟨h.1.1.1, by omega, by omega, by omega, by omega⟩
theorem reads_mt {m : Mt} (h : isMt m = true) (hr : 0 ≤ m.txn ∧ m.txn < 18446744073709551616) : Reads Cut.mt (mtB m) m := fun t => by
  have hm := isMt_rng2 h
  unfold Cut.mt mtB
  simp only [List.append_assoc]
  rw [reads_u64 hr.1 hr.2]
  dsimp only
  rw [reads_root hm.1]
  dsimp only
  rw [reads_num (by omega) (by omega)]
  dsimp only
  rw [reads_num (by omega) (by omega)]
theorem has_iff {p : Page} {a b c d e f g : Bool} (h : has p = [a, b, c, d, e, f, g]) : decide (p.items ≠ []) = a ∧ (decide (p.keys ≠ []) || decide (p.kids ≠ [])) = b ∧ decide (p.text ≠ []) = c ∧ decide (p.vals ≠ []) = d ∧ decide (p.free ≠ []) = e ∧ decide (p.next ≠ 0) = f ∧ decide (p.mt ≠ mt0) = g := by
  simpa only [has, List.cons.injEq, and_true] using h
theorem no_of {α : Type} [DecidableEq α] {a b : α} (h : decide (a ≠ b) = false) : a = b := by simpa using h
theorem reads_page {p : Page} (h : isPage p = true) (hr : Rng p) : Reads Cut.page (body p) p := fun t => by
  unfold Cut.page body partsB
  simp only [List.append_assoc]
  unfold isPage at h
  by_cases h1 : p.kind = 1
  · rw [if_pos h1, Bool.and_eq_true, decide_eq_true_eq] at h
    obtain ⟨hi, hk, ht, hv, hf, hn, hm⟩ := has_iff h.1
    simp only [Bool.or_eq_false_iff] at hk
    rw [reads_num (by omega) (by omega)]
    dsimp only
    rw [if_pos h1, if_pos h1, reads_items h.2]
    have e := (⟨no_of hk.1, no_of hk.2, no_of ht, no_of hv, no_of hf, no_of hn, no_of hm⟩ : p.keys = [] ∧ p.kids = [] ∧ p.text = [] ∧ p.vals = [] ∧ p.free = [] ∧ p.next = 0 ∧ p.mt = mt0)
    obtain ⟨kind, items, keys, kids, text, vals, free, next, mt⟩ := p
    simp only at e ⊢
    obtain ⟨rfl, rfl, rfl, rfl, rfl, rfl, rfl⟩ := e
    rfl
  rw [if_neg h1] at h
  by_cases h2 : p.kind = 2
  · rw [if_pos h2, Bool.and_eq_true, decide_eq_true_eq] at h
    obtain ⟨hi, hk, ht, hv, hf, hn, hm⟩ := has_iff h.1
    rw [reads_num (by omega) (by omega)]
    dsimp only
    rw [if_neg h1, if_pos h2, if_neg h1, if_pos h2, reads_keys h.2]
    have e := (⟨no_of hi, no_of ht, no_of hv, no_of hf, no_of hn, no_of hm⟩ : p.items = [] ∧ p.text = [] ∧ p.vals = [] ∧ p.free = [] ∧ p.next = 0 ∧ p.mt = mt0)
    obtain ⟨kind, items, keys, kids, text, vals, free, next, mt⟩ := p
    simp only at e ⊢
    obtain ⟨rfl, rfl, rfl, rfl, rfl, rfl⟩ := e
    rfl
  rw [if_neg h2] at h
  by_cases h3 : p.kind = 3
  · rw [if_pos h3, Bool.and_eq_true, decide_eq_true_eq, decide_eq_true_eq] at h
    obtain ⟨hi, hk, ht, hv, hf, hn, hm⟩ := has_iff h.1
    simp only [Bool.or_eq_false_iff] at hk
    rw [reads_num (by omega) (by omega)]
    dsimp only
    rw [if_neg h1, if_neg h2, if_pos h3, if_neg h1, if_neg h2, if_pos h3, reads_text (by omega)]
    have e := (⟨no_of hi, no_of hk.1, no_of hk.2, no_of hv, no_of hf, no_of hn, no_of hm⟩ : p.items = [] ∧ p.keys = [] ∧ p.kids = [] ∧ p.vals = [] ∧ p.free = [] ∧ p.next = 0 ∧ p.mt = mt0)
    obtain ⟨kind, items, keys, kids, text, vals, free, next, mt⟩ := p
    simp only at e ⊢
    obtain ⟨rfl, rfl, rfl, rfl, rfl, rfl, rfl⟩ := e
    rfl
  rw [if_neg h3] at h
  by_cases h4 : p.kind = 4
  · rw [if_pos h4, Bool.and_eq_true, decide_eq_true_eq] at h
    obtain ⟨hi, hk, ht, hv, hf, hn, hm⟩ := has_iff h.1
    simp only [Bool.or_eq_false_iff] at hk
    rw [reads_num (by omega) (by omega)]
    dsimp only
    have hvl := isVals_len h.2
    rw [if_neg h1, if_neg h2, if_neg h3, if_pos h4, if_neg h1, if_neg h2, if_neg h3, if_pos h4, reads_vals (by omega) fun s hs => by have := isVals_mem h.2 s hs; omega]
    have e := (⟨no_of hi, no_of hk.1, no_of hk.2, no_of ht, no_of hf, no_of hn, no_of hm⟩ : p.items = [] ∧ p.keys = [] ∧ p.kids = [] ∧ p.text = [] ∧ p.free = [] ∧ p.next = 0 ∧ p.mt = mt0)
    obtain ⟨kind, items, keys, kids, text, vals, free, next, mt⟩ := p
    simp only at e ⊢
    obtain ⟨rfl, rfl, rfl, rfl, rfl, rfl, rfl⟩ := e
    rfl
  rw [if_neg h4] at h
  by_cases h5 : p.kind = 5
  · rw [if_pos h5, Bool.and_eq_true, decide_eq_true_eq] at h
    obtain ⟨hi, hk, ht, hv, hf, hn, hm⟩ := has_iff h.1
    simp only [Bool.or_eq_false_iff] at hk
    have hfm := isFree_mem h.2
    rw [reads_num (by omega) (by omega)]
    dsimp only
    rw [if_neg h1, if_neg h2, if_neg h3, if_neg h4, if_pos h5, if_neg h1, if_neg h2, if_neg h3, if_neg h4, if_pos h5]
    have e2 : ∀ u, le8 p.free.length ++ (freesB p.free ++ le8 p.next) ++ u = (le8 p.free.length ++ freesB p.free) ++ (le8 p.next ++ u) := fun u => by simp only [List.append_assoc]
    rw [e2, reads_frees h.2 hr]
    dsimp only
    rw [reads_num (by omega) (by omega)]
    have e := (⟨no_of hi, no_of hk.1, no_of hk.2, no_of ht, no_of hv, no_of hm⟩ : p.items = [] ∧ p.keys = [] ∧ p.kids = [] ∧ p.text = [] ∧ p.vals = [] ∧ p.mt = mt0)
    obtain ⟨kind, items, keys, kids, text, vals, free, next, mt⟩ := p
    simp only at e ⊢
    obtain ⟨rfl, rfl, rfl, rfl, rfl, rfl⟩ := e
    rfl
  rw [if_neg h5] at h
  by_cases h6 : p.kind = 6
  · rw [if_pos h6, Bool.and_eq_true, decide_eq_true_eq] at h
    obtain ⟨hi, hk, ht, hv, hf, hn, hm⟩ := has_iff h.1
    simp only [Bool.or_eq_false_iff] at hk
    rw [reads_num (by omega) (by omega)]
    dsimp only
    rw [if_neg h1, if_neg h2, if_neg h3, if_neg h4, if_neg h5, if_pos h6, if_neg h1, if_neg h2, if_neg h3, if_neg h4, if_neg h5, if_pos h6, reads_mt h.2 hr.2]
    have e := (⟨no_of hi, no_of hk.1, no_of hk.2, no_of ht, no_of hv, no_of hf, no_of hn⟩ : p.items = [] ∧ p.keys = [] ∧ p.kids = [] ∧ p.text = [] ∧ p.vals = [] ∧ p.free = [] ∧ p.next = 0)
    obtain ⟨kind, items, keys, kids, text, vals, free, next, mt⟩ := p
    simp only at e ⊢
    obtain ⟨rfl, rfl, rfl, rfl, rfl, rfl, rfl⟩ := e
    rfl
  rw [if_neg h6] at h
  exact absurd h (by simp)
theorem bytes_of {p : Page} (h : isPage p = true) : bytes p = le8 (sum (body p)) ++ body p := by
  unfold bytes
  rw [if_pos h]
theorem bytes_no {p : Page} (h : isPage p = false) : bytes p = [] := by
  unfold bytes
  rw [if_neg (by simp [h])]
theorem parse_app {p : Page} (h : isPage p = true) (hr : Rng p) (t : Txt) : parse (bytes p ++ t) = p := by
  rw [bytes_of h, List.append_assoc, parse]
  have hs := sum_range (body p)
  rw [reads_u64 hs.1 hs.2]
  dsimp only
  rw [reads_page h hr]
theorem parse_bytes {p : Page} (h : isPage p = true) (hr : Rng p) : parse (bytes p) = p := by
  have := parse_app h hr []
  rwa [List.append_nil] at this
theorem body_len (p : Page) : 8 ≤ (body p).length := by
  unfold body
  rw [List.length_append, le8_length]
  omega
theorem bytes_len {p : Page} (h : isPage p = true) : 16 ≤ (bytes p).length := by
  have := body_len p
  rw [bytes_of h, List.length_append, le8_length]
  omega
theorem readOk_bytes {p : Page} (h : isPage p = true) (hr : Rng p) : readOk (bytes p) = true := by
  have := bytes_len h
  unfold readOk
  rw [parse_bytes h hr]
  simp only [Bool.and_eq_true, decide_eq_true_eq, and_true]
  rintro e
  rw [e] at this
  simp at this
theorem readOk_page {s : Txt} (h : readOk s = true) : isPage (parse s) = true ∧ bytes (parse s) = s := by
  simp only [readOk, Bool.and_eq_true, decide_eq_true_eq] at h
  refine ⟨?_, h.2⟩
  rcases hb : isPage (parse s) with _ | _
  · exact absurd ((bytes_no hb).symm.trans h.2).symm h.1
  · rfl
theorem bytes_inj {p q : Page} (hp : isPage p = true) (hq : isPage q = true) (rp : Rng p) (rq : Rng q) (h : bytes p = bytes q) : p = q := by
  rw [← parse_bytes hp rp, ← parse_bytes hq rq, h]
end Sp
end Go.Proofs.YtkcfmjlcijhieaaGreat
namespace Go.Proofs.YtkcfmjlcijhieaaGreat
open Go.RowKit
attribute [local go_sem low] mk_extract
attribute [local go_sem] After.cell After.frozen mk_extract_end ByteArray.mk_append_mk
namespace Sp
theorem eachN_mem {β : Type} {step : List β → Cut → List β × Cut} {P : β → Prop} (h : ∀ l c, (∀ x, x ∈ l → P x) → ∀ x, x ∈ (step l c).1 → P x) (s : List β × Cut) (hs : ∀ x, x ∈ s.1 → P x) : ∀ n, ∀ x, x ∈ (eachN step n s).1 → P x
  | 0 => hs
  | n + 1 => by
    have ih := eachN_mem h s hs n
    have e : eachN step (n + 1) s = if (eachN step n s).2.bad = true then eachN step n s else step (eachN step n s).1 (eachN step n s).2 := rfl
    rw [e]
    split
    · exact ih
    · exact h _ _ ih
theorem frees_rng (c : Cut) : ∀ f, f ∈ c.frees.1 → 0 ≤ f.txn ∧ f.txn < 18446744073709551616 := by
  unfold Cut.frees
  refine eachN_mem (P := fun f : Free => 0 ≤ f.txn ∧ f.txn < 18446744073709551616) (fun l c h x hx => ?_) _ (by simp) _
  unfold freeStep at hx
  simp only [List.mem_append, List.mem_singleton] at hx
  rcases hx with hx | rfl
  · exact h x hx
  · exact c.u64_rng
theorem page_rng (c : Cut) : Rng c.page.1 := by
  have h0 : 0 ≤ mt0.txn ∧ mt0.txn < 18446744073709551616 := by decide
  have hn : ∀ f : Free, f ∈ ([] : List Free) → 0 ≤ f.txn ∧ f.txn < 18446744073709551616 := by simp
  unfold Cut.page Rng
  by_cases h1 : c.num.1 = 1
  · rw [if_pos h1]; exact ⟨hn, h0⟩
  rw [if_neg h1]
  by_cases h2 : c.num.1 = 2
  · rw [if_pos h2]; exact ⟨hn, h0⟩
  rw [if_neg h2]
  by_cases h3 : c.num.1 = 3
  · rw [if_pos h3]; exact ⟨hn, h0⟩
  rw [if_neg h3]
  by_cases h4 : c.num.1 = 4
  · rw [if_pos h4]; exact ⟨hn, h0⟩
  rw [if_neg h4]
  by_cases h5 : c.num.1 = 5
  · rw [if_pos h5]; exact ⟨frees_rng _, h0⟩
  rw [if_neg h5]
  by_cases h6 : c.num.1 = 6
  · rw [if_pos h6]; exact ⟨hn, Cut.u64_rng _⟩
  rw [if_neg h6]
  exact ⟨hn, h0⟩
theorem parse_rng (s : Txt) : Rng (parse s) := page_rng _
theorem less_no {p : Page} (h : isPage p = true) (hr : Rng p) {t : Txt} (ht : t ≠ []) {u : Txt} (hu : bytes p = u ++ t) : readOk u = false := by
  rcases hb : readOk u with _ | _
  · rfl
  exfalso
  have hp := readOk_page hb
  have e1 := parse_bytes h hr
  have e2 := parse_app hp.1 (parse_rng u) t
  rw [hp.2, ← hu, e1] at e2
  have e3 := hp.2
  rw [← e2, hu] at e3
  have := congrArg List.length e3
  rw [List.length_append] at this
  have := List.length_pos_iff.2 ht
  omega
theorem more_no {p : Page} (h : isPage p = true) (hr : Rng p) {t : Txt} (ht : t ≠ []) : readOk (bytes p ++ t) = false := by
  rcases hb : readOk (bytes p ++ t) with _ | _
  · rfl
  exfalso
  have hp := (readOk_page hb).2
  rw [parse_app h hr] at hp
  have := congrArg List.length hp
  rw [List.length_append] at this
  have := List.length_pos_iff.2 ht
  omega
theorem sumStep_def (n : Int) (b : UInt8) : sumStep n b = (n * 33 + (b.toNat : Int)) % 18446744073709551616 := by
  unfold sumStep
  simp only [IntKind.wrap_u64]
  rw [← Int.add_emod]
theorem inv33 (n : Int) : (n * 33 * 1117984489315730401) % 18446744073709551616 = n % 18446744073709551616 := by
  have e : n * 33 * 1117984489315730401 = n + 18446744073709551616 * (n * 2) := by omega
  rw [e, Int.add_mul_emod_self_left]
theorem cancel33 {n m : Int} (hn : 0 ≤ n ∧ n < 18446744073709551616) (hm : 0 ≤ m ∧ m < 18446744073709551616) {c : Int} (h : (n * 33 + c) % 18446744073709551616 = (m * 33 + c) % 18446744073709551616) : n = m := by
  have h1 : (n * 33) % 18446744073709551616 = (m * 33) % 18446744073709551616 := by
    generalize n * 33 = x at *
    generalize m * 33 = y at *
    omega
  have h2 : (n * 33 * 1117984489315730401) % 18446744073709551616 = (m * 33 * 1117984489315730401) % 18446744073709551616 := by
    rw [Int.mul_emod, h1, ← Int.mul_emod]
  rw [inv33, inv33, Int.emod_eq_of_lt hn.1 hn.2, Int.emod_eq_of_lt hm.1 hm.2] at h2
  exact h2
theorem sumStep_left {n m : Int} {b : UInt8} (hn : 0 ≤ n ∧ n < 18446744073709551616) (hm : 0 ≤ m ∧ m < 18446744073709551616) (h : sumStep n b = sumStep m b) : n = m := by
  rw [sumStep_def, sumStep_def] at h
  exact cancel33 hn hm h
theorem sumStep_right {n : Int} {b c : UInt8} (h : sumStep n b = sumStep n c) : b = c := by
  have hb := b.toNat_lt
  have hc := c.toNat_lt
  rw [sumStep_def, sumStep_def] at h
  generalize n * 33 = x at *
  exact UInt8.toNat_inj.1 (by omega)
theorem foldl_rng {n : Int} (h : 0 ≤ n ∧ n < 18446744073709551616) : ∀ l : Txt, 0 ≤ l.foldl sumStep n ∧ l.foldl sumStep n < 18446744073709551616
  | [] => h
  | b :: l => foldl_rng (sumStep_range n b) l
theorem foldl_left {n m : Int} (hn : 0 ≤ n ∧ n < 18446744073709551616) (hm : 0 ≤ m ∧ m < 18446744073709551616) : ∀ l : Txt, l.foldl sumStep n = l.foldl sumStep m → n = m
  | [], h => h
  | b :: l, h => sumStep_left hn hm (foldl_left (sumStep_range n b) (sumStep_range m b) l h)
theorem sum_mid (l m : Txt) (b c : UInt8) (h : sum (l ++ b :: m) = sum (l ++ c :: m)) : b = c := by
  unfold sum at h
  rw [List.foldl_append, List.foldl_append, List.foldl_cons, List.foldl_cons] at h
  exact sumStep_right (foldl_left (sumStep_range _ _) (sumStep_range _ _) m h)
theorem le8_inj {n m : Int} (hn : 0 ≤ n ∧ n < 18446744073709551616) (hm : 0 ≤ m ∧ m < 18446744073709551616) (h : le8 n = le8 m) : n = m := by
  rw [← unle_leN 8 n hn.1 (by omega), ← unle_leN 8 m hm.1 (by omega)]
  exact congrArg unle h
/-- Of two pages' bytes that are alike but for one byte that byte is alike too. -/
theorem one_byte {p q : Page} (hp : isPage p = true) (hq : isPage q = true) {l m : Txt} {b c : UInt8} (h1 : bytes p = l ++ b :: m) (h2 : bytes q = l ++ c :: m) : b = c := by
  rw [bytes_of hp] at h1
  rw [bytes_of hq] at h2
  have hsp := sum_range (body p)
  have hsq := sum_range (body q)
  rcases Nat.lt_or_ge l.length 8 with hl | hl
  · have e1 : body p = (l ++ b :: m).drop 8 := by rw [← h1, List.drop_left' (le8_length _)]
    have e2 : body q = (l ++ c :: m).drop 8 := by rw [← h2, List.drop_left' (le8_length _)]
    have e3 : body p = body q := by
      rw [e1, e2, List.drop_append, List.drop_append]
      have : 8 - l.length = (7 - l.length) + 1 := by omega
      rw [this, List.drop_succ_cons, List.drop_succ_cons]
    rw [e3, h2] at h1
    have := List.append_cancel_left h1
    exact ((List.cons.inj this).1).symm
  · have t1 : le8 (sum (body p)) = (l ++ b :: m).take 8 := by rw [← h1, List.take_left' (le8_length _)]
    have t2 : le8 (sum (body q)) = (l ++ c :: m).take 8 := by rw [← h2, List.take_left' (le8_length _)]
    rw [List.take_append_of_le_length hl] at t1 t2
    have es := le8_inj hsp hsq (t1.trans t2.symm)
    have e1 : body p = (l ++ b :: m).drop 8 := by rw [← h1, List.drop_left' (le8_length _)]
    have e2 : body q = (l ++ c :: m).drop 8 := by rw [← h2, List.drop_left' (le8_length _)]
    rw [List.drop_append_of_le_length hl] at e1 e2
    rw [e1, e2] at es
    exact sum_mid _ _ _ _ es
theorem byte_no {p : Page} (hp : isPage p = true) {l m : Txt} {b c : UInt8} (h1 : bytes p = l ++ b :: m) (hbc : b ≠ c) : readOk (l ++ c :: m) = false := by
  rcases hb : readOk (l ++ c :: m) with _ | _
  · rfl
  exact absurd (one_byte hp (readOk_page hb).1 h1 (readOk_page hb).2) hbc
end Sp
end Go.Proofs.YtkcfmjlcijhieaaGreat
namespace Go.Proofs.YtkcfmjlcijhieaaGreat
open Go.RowKit
attribute [local go_sem low] mk_extract
attribute [local go_sem] After.cell After.frozen mk_extract_end ByteArray.mk_append_mk
namespace Sp
def pgM (m : Mt) : Page := ⟨6, [], [], [], [], [], [], 0, m⟩
def fresh (i : Int) : Mt := ⟨min (max i 0) 1, root0, 0, 2⟩
def metaB (m : Mt) : Txt := bytes (pgM m)
end Sp
end Go.Proofs.YtkcfmjlcijhieaaGreat
namespace Go.Proofs.YtkcfmjlcijhieaaGreat
open Go.RowKit Go.Conc
section
variable {P : Program} {ops : Array Oper} {Q : Exit → Act → World → Prop} {a : Act} {w w' : World} {i : Nat} {rest : List Nat} {o : Oper}
/-- From these operations of a region on the statement comes to an end of which Q holds. -/
def InReg (P : Program) (ops : Array Oper) (Q : Exit → Act → World → Prop) (l : List Nat) (a : Act) (w : World) : Prop :=
  ∀ (b : Frame) (k : List Item) (cs : List Frame), ∃ e a' w', Q e a' w' ∧ Arrives P (lone (b.at a (.inRegion ops l :: k)) cs w) b k cs e a' w'
theorem InReg.region {id : Nat} (h : InReg P ops Q (List.range ops.size) a w) : (Code.region id ops false).wp P Q a w :=
  fun b k cs => let ⟨e, a', w', q, r⟩ := h b k cs; ⟨e, a', w', q, .of_steps (.one step_region) r⟩
theorem InReg.nil (h : Q .normal a w) : InReg P ops Q [] a w := fun _ _ _ => ⟨.normal, a, w, h, .one step_region_end⟩
theorem finish_put (ho : ops[i]? = some o) (b : Frame) (k : List Item) (v : Value) : (b.at a (.inRegion ops (i :: rest) :: k)).finish v = b.at (a.put o.dst v) (.inRegion ops rest :: k) := by
  rw [Frame.finish_at, ho]
  rfl
theorem InReg.val {v : Value} (ho : ops[i]? = some o) (hw : Region.wanted o (yielded ops a.tmps) = true) (hr : (execOp a.eval o).run P w = .ok (.value v) w') (h : InReg P ops Q rest (a.put o.dst v) w') : InReg P ops Q (i :: rest) a w := fun b k cs => by
  obtain ⟨e, a', w'', hq, harr⟩ := h b k cs
  refine ⟨e, a', w'', hq, .of_steps (.one (step_lone_go ?_)) harr⟩
  rw [stepG_op (b := b) (k := k) (cs := cs) (w := w) (rest := rest) ho hw, ← finish_put ho]
  simp [stepG.apply, hr]
theorem stepG_comm' {b : Frame} {k : List Item} {cs : List Frame} {cases : Array CommCase} {blocking : Bool} {shape : CommShape} (ho : ops[i]? = some o) (hw : Region.wanted o (yielded ops a.tmps) = true)
    (hr : (execOp a.eval o).run P w = .ok (.comm cases blocking shape) w') :
    ∃ es, stepG P true (G (b.at a (.inRegion ops (i :: rest) :: k)) cs) w = .comm (G (b.at a (.inRegion ops (i :: rest) :: k)) cs) cases blocking shape w' es := by
  rw [Go.Conc.stepG_oper ho hw]
  by_cases hk : b.kind = .early
  · have hk' : (b.kind == CallKind.early) = true := by simpa using hk
    exact ⟨_, by simp [stepG.apply, hr, G, Frame.at, hk', GStep.after]; rfl⟩
  · have hk' : (b.kind == CallKind.early) = false := by simpa using hk
    exact ⟨_, by simp [stepG.apply, hr, G, Frame.at, hk', GStep.after]; rfl⟩
/-- A send into a buffer with room. -/
theorem InReg.send {c cap s r : Nat} {buf : Array Value} {v z : Value} {tm : Bool} (ho : ops[i]? = some o) (hw : Region.wanted o (yielded ops a.tmps) = true) (hr : (execOp a.eval o).run P w = .ok (.comm #[scase c v z] true .send) w')
    (hc : w'.heap[c]? = some (.chan cap buf false s r tm)) (hroom : buf.size < cap) (h : InReg P ops Q rest (a.put o.dst undef) (w'.setChan c cap (buf.push v) false (s + 1) r tm)) : InReg P ops Q (i :: rest) a w := fun b k cs => by
  obtain ⟨e, a', w'', hq, harr⟩ := h b k cs
  obtain ⟨es, hs⟩ := stepG_comm' (b := b) (k := k) (cs := cs) (rest := rest) ho hw hr
  have hst := step_lone_send_room hs hc hroom
  rw [finish_put ho] at hst
  exact ⟨e, a', w'', hq, .of_steps (.one hst) harr⟩
/-- A select of one receive with a default: the buffer holds something. -/
theorem InReg.recv {c cap s r : Nat} {buf : Array Value} {z : Value} {tm closed : Bool} (ho : ops[i]? = some o) (hw : Region.wanted o (yielded ops a.tmps) = true) (hr : (execOp a.eval o).run P w = .ok (.comm #[rcase c z] false .select) w')
    (hc : w'.heap[c]? = some (.chan cap buf closed s r tm)) (hsome : 0 < buf.size) (h : InReg P ops Q rest (a.put o.dst (.tuple #[goInt 0, .bool true, buf.getD 0 undef])) (w'.setChan c cap (buf.extract 1 buf.size) closed s (r + 1) tm)) : InReg P ops Q (i :: rest) a w := fun b k cs => by
  obtain ⟨e, a', w'', hq, harr⟩ := h b k cs
  obtain ⟨es, hs⟩ := stepG_comm' (b := b) (k := k) (cs := cs) (rest := rest) ho hw hr
  have hst := step_lone_sel_recv_buf (k := 0) (z := z) hs rfl (fun m c' hm hc' => by
    rcases m with _ | m
    · exact absurd rfl hm
    · simp at hc') hc hsome
  have hcr : commResult #[rcase c z] .select ((0 : Nat) : Int) (buf.getD 0 undef) true = .tuple #[goInt 0, .bool true, buf.getD 0 undef] := by
    simp [commResult, rcase, List.zipIdx_cons]
  rw [hcr, finish_put ho] at hst
  exact ⟨e, a', w'', hq, .of_steps (.one hst) harr⟩
/-- A select of one receive with a default: the buffer is empty. -/
theorem InReg.default {c cap s r : Nat} {z : Value} {tm : Bool} (ho : ops[i]? = some o) (hw : Region.wanted o (yielded ops a.tmps) = true) (hr : (execOp a.eval o).run P w = .ok (.comm #[rcase c z] false .select) w')
    (hc : w'.heap[c]? = some (.chan cap #[] false s r tm)) (h : InReg P ops Q rest (a.put o.dst (.tuple #[goInt (-1), .bool false, z])) w') : InReg P ops Q (i :: rest) a w := fun b k cs => by
  obtain ⟨e, a', w'', hq, harr⟩ := h b k cs
  obtain ⟨es, hs⟩ := stepG_comm' (b := b) (k := k) (cs := cs) (rest := rest) ho hw hr
  have hst := step_lone_select_default hs hc
  rw [finish_put ho] at hst
  exact ⟨e, a', w'', hq, .of_steps (.one hst) harr⟩
end
end Go.Proofs.YtkcfmjlcijhieaaGreat
namespace Go.Proofs.YtkcfmjlcijhieaaGreat
open Go.RowKit
attribute [local go_sem low] mk_extract
attribute [local go_sem] After.cell After.frozen mk_extract_end ByteArray.mk_append_mk
open Go.Conc
namespace Sp
def right (s : Txt) (i : Int) : Option Mt := if readOk s = true ∧ (parse s).kind = 6 ∧ (parse s).mt.txn % 2 = i then some (parse s).mt else none
def later (out : Option Mt) (m : Mt) : Option Mt := match out with | none => some m | some o => if o.txn < m.txn then some m else some o
def choose (a b : Txt) : Option Mt := ((right a 0).toList ++ (right b 1).toList).foldl later none
def rights (a b : Txt) : Nat → List Mt
  | 0 => []
  | 1 => (right a 0).toList
  | _ => (right a 0).toList ++ (right b 1).toList
theorem rights_no0 {a b : Txt} (h : right a 0 = none) : rights a b 1 = rights a b 0 := by simp [rights, h]
theorem rights_no1 {a b : Txt} (h : right b 1 = none) : rights a b 2 = rights a b 1 := by simp [rights, h]
theorem rights_yes0 {a b : Txt} {m : Mt} (h : right a 0 = some m) : rights a b 1 = rights a b 0 ++ [m] := by simp [rights, h]
theorem rights_yes1 {a b : Txt} {m : Mt} (h : right b 1 = some m) : rights a b 2 = rights a b 1 ++ [m] := by simp [rights, h]
theorem right_rng {s : Txt} {i : Int} {m : Mt} (h : right s i = some m) : 0 ≤ m.txn ∧ m.txn < 18446744073709551616 := by
  unfold right at h
  split at h
  · injection h with h
    rw [← h]
    exact (parse_rng s).2
  · cases h
end Sp
abbrev MetaT : TypeId := 37
def mtA (m : Sp.Mt) : Value := .agg (mtV m).toArray
def chooseV : Option Sp.Mt → Value
  | some m => .tuple #[.agg (mtV m).toArray, .nilIface]
  | none => .tuple #[.agg (mtV Sp.mt0).toArray, .iface ErrT (.int .i64 12)]
/-- The result's block, and the channel with what lies in it. -/
structure ChS (W0 : World) (r c : Nat) (l : List Sp.Mt) (w : World) : Prop where
  hb : Below W0.heap.size W0 w
  hr : W0.heap.size ≤ r
  hc : W0.heap.size ≤ c
  hrc : r < c
  br : Blk w r MetaT (mtV Sp.mt0).toArray
  ch : ∃ s q, w.heap[c]? = some (.chan 2 (l.map mtA).toArray false s q false)
  rng : ∀ m, m ∈ l → 0 ≤ m.txn ∧ m.txn < 18446744073709551616
/-- How many metas lie in a channel. -/
def chLen (w : World) (c : Nat) : Nat := match w.heap[c]? with | some (.chan _ buf _ _ _ _) => buf.size | _ => 0
/-- The same, and the meta that is ahead so far, in block o. -/
structure ChT (W0 : World) (r c o : Nat) (out : Option Sp.Mt) (l : List Sp.Mt) (w : World) : Prop where
  s : ChS W0 r c l w
  bo : Blk w o MetaT (mtV (out.getD Sp.mt0)).toArray
  ho : W0.heap.size ≤ o ∧ o ≠ r ∧ o ≠ c
theorem ChS.go {W0 : World} {r c : Nat} {l : List Sp.Mt} {w w' : World} (h : ChS W0 r c l w) (hb : Below w.heap.size w w') : ChS W0 r c l w' := by
  obtain ⟨s, q, hc⟩ := h.ch
  have hcl : c < w.heap.size := by
    rcases Nat.lt_or_ge c w.heap.size with h1 | h1
    · exact h1
    · rw [Array.getElem?_eq_none h1] at hc; cases hc
  exact ⟨h.hb.trans (hb.mono h.hb.size), h.hr, h.hc, h.hrc, h.br.below hb h.br.lt, ⟨s, q, (hb.block c hcl).trans hc⟩, h.rng⟩
theorem ChS.lt {W0 : World} {r c : Nat} {l : List Sp.Mt} {w : World} (h : ChS W0 r c l w) : c < w.heap.size := by
  obtain ⟨s, q, hc⟩ := h.ch
  rcases Nat.lt_or_ge c w.heap.size with h1 | h1
  · exact h1
  · rw [Array.getElem?_eq_none h1] at hc; cases hc
theorem ChS.push {W0 : World} {r c : Nat} {l : List Sp.Mt} {w : World} (h : ChS W0 r c l w) (m : Sp.Mt) (hm : 0 ≤ m.txn ∧ m.txn < 18446744073709551616) {s q : Nat} (hc : w.heap[c]? = some (.chan 2 (l.map mtA).toArray false s q false)) :
    ChS W0 r c (l ++ [m]) (w.setChan c 2 ((l.map mtA).toArray.push (mtA m)) false (s + 1) q false) := by
  have hcl : c < w.heap.size := by
    rcases Nat.lt_or_ge c w.heap.size with h1 | h1
    · exact h1
    · rw [Array.getElem?_eq_none h1] at hc; cases hc
  refine ⟨below_setChan h.hb h.hc _ _ _ _ _ _, h.hr, h.hc, h.hrc, ?_, ⟨s + 1, q, ?_⟩, fun x hx => ?_⟩
  · have hne : c ≠ r := by have := h.hrc; omega
    have hbr := h.br
    unfold Blk at hbr ⊢
    simp only [World.setChan]
    rw [Array.getElem?_setIfInBounds_ne hne]
    exact hbr
  · rw [heap_setChan _ _ _ _ _ _ _ _ hcl]
    simp
  · rcases List.mem_append.1 hx with h1 | h1
    · exact h.rng x h1
    · rw [List.mem_singleton.1 h1]; exact hm
theorem pg_mt {w : World} {g : Nat} {p : Sp.Page} {x : Refs} (h : Blk w g PageT (pageV p x).toArray) : ∀ j v, (mtV p.mt).toArray[j]? = some v → w.cell? ⟨g, 8 + j, none⟩ = some v := fun j v hv => by
  rw [h.cell (8 + j)]
  match j, hv with
  | 0, hv => exact hv
  | 1, hv => exact hv
  | 2, hv => exact hv
  | 3, hv => exact hv
  | 4, hv => exact hv
  | 5, hv => exact hv
  | j + 6, hv => exact absurd hv (by simp [mtV])
theorem Sp.rights_room0 (a b : Txt) : ((Sp.rights a b 0).map mtA).toArray.size < 2 := by simp [Sp.rights]
theorem Sp.rights_room1 (a b : Txt) : ((Sp.rights a b 1).map mtA).toArray.size < 2 := by
  cases h : Sp.right a 0 <;> simp [Sp.rights, h]
theorem Blk.row {w : World} {g : Nat} {t : TypeId} {cs ds : Array Value} (h : Blk w g t cs) : Blk (w.setRow g ds) g t ds := setRow_heap w g cs ds t (0, 0) h
theorem below_setRow {B : Nat} {a w : World} (h : Below B a w) {g : Nat} (hg : B ≤ g) (cs : Array Value) : Below B a (w.setRow g cs) :=
  h.trans ⟨rfl, rfl, rfl, by simp, fun k hk => setRow_other w g k cs (by omega)⟩
theorem Blk.at6 {w : World} {g : Nat} {t : TypeId} {a b c d e f : Value} (h : Blk w g t #[a, b, c, d, e, f]) : w.cell? ⟨g, 0, none⟩ = some a ∧ w.cell? ⟨g, 1, none⟩ = some b ∧ w.cell? ⟨g, 2, none⟩ = some c ∧ w.cell? ⟨g, 3, none⟩ = some d ∧ w.cell? ⟨g, 4, none⟩ = some e ∧ w.cell? ⟨g, 5, none⟩ = some f :=
  ⟨h.cell 0, h.cell 1, h.cell 2, h.cell 3, h.cell 4, h.cell 5⟩
theorem ChT.pop {W0 : World} {r c o : Nat} {out : Option Sp.Mt} {m : Sp.Mt} {l : List Sp.Mt} {w : World} (h : ChT W0 r c o out (m :: l) w) {s q : Nat} (hc : w.heap[c]? = some (.chan 2 ((m :: l).map mtA).toArray false s q false)) :
    ChT W0 r c o out l (w.setChan c 2 (((m :: l).map mtA).toArray.extract 1 ((m :: l).map mtA).toArray.size) false s (q + 1) false) := by
  have hcl := h.s.lt
  have hk : ∀ g t cs, g ≠ c → Blk w g t cs → Blk (w.setChan c 2 (((m :: l).map mtA).toArray.extract 1 ((m :: l).map mtA).toArray.size) false s (q + 1) false) g t cs := fun g t cs hg hb => by
    unfold Blk at hb ⊢
    simp only [World.setChan]
    rw [Array.getElem?_setIfInBounds_ne (Ne.symm hg)]
    exact hb
  refine ⟨⟨below_setChan h.s.hb h.s.hc _ _ _ _ _ _, h.s.hr, h.s.hc, h.s.hrc, hk _ _ _ (by have := h.s.hrc; omega) h.s.br, ⟨s, q + 1, ?_⟩, fun x hx => h.s.rng x (List.mem_cons_of_mem _ hx)⟩, hk _ _ _ h.ho.2.2 h.bo, h.ho⟩
  rw [heap_setChan _ _ _ _ _ _ _ _ hcl]
  simp
  exact List.take_of_length_le (by simp)
theorem ChT.go {W0 : World} {r c o : Nat} {out : Option Sp.Mt} {l : List Sp.Mt} {w w' : World} (h : ChT W0 r c o out l w) (hb : Below w.heap.size w w') : ChT W0 r c o out l w' := ⟨h.s.go hb, h.bo.below hb h.bo.lt, h.ho⟩
theorem ChT.len {W0 : World} {r c o : Nat} {out : Option Sp.Mt} {l : List Sp.Mt} {w : World} (h : ChT W0 r c o out l w) : chLen w c = l.length := by
  obtain ⟨s, q, hc⟩ := h.s.ch
  unfold chLen
  rw [hc]
  simp
theorem ChT.put {W0 : World} {r c o : Nat} {out : Option Sp.Mt} {l : List Sp.Mt} {w : World} (h : ChT W0 r c o out l w) (m : Sp.Mt) : ChT W0 r c o (some m) l (w.setRow o (mtV m).toArray) := by
  obtain ⟨s, q, hc⟩ := h.s.ch
  have hb := h.s.br
  unfold Blk at hb
  exact ⟨⟨below_setRow h.s.hb h.ho.1 _, h.s.hr, h.s.hc, h.s.hrc, (setRow_other w o r _ (Ne.symm h.ho.2.1)).trans hb, ⟨s, q, (setRow_other w o c _ (Ne.symm h.ho.2.2)).trans hc⟩, h.s.rng⟩, h.bo.row, h.ho⟩
end Go.Proofs.YtkcfmjlcijhieaaGreat
