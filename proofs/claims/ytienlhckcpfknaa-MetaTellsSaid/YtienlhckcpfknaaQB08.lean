/- The plain law: what is written is read (pages as bytes, no program in sight). The plain law: a byte changed, one less, one more, and the bytes are no page's. The row's last step where the call leaves a world of which 'Below' alone is known. A page that comes in: what can be read as data lies in memory as a page does. -/
import Derived.Test.YtienlhckcpfknaaQB07
import Derived.Test.YtienlhckcpfknaaRows
import Derived.WalkKit
import Derived.ProofKit
import Derived.OpenShut
import Derived.Below
import Derived.ChangeSame
import Derived.SizedLaws
import Derived.SliceStrings
import Derived.ChangeSlices
import Derived.Deep.Slices
set_option linter.unusedSimpArgs false
set_option linter.unusedVariables false
namespace Go.Proofs.Ytienlhckcpfknaa
open Go.RowKit
attribute [local go_sem low] mk_extract
attribute [local go_sem] After.cell After.frozen mk_extract_end ByteArray.mk_append_mk
namespace Sp
/-- A reader that reads 'a' off the bytes 'b', whatever follows. -/
def Reads {α : Type} (f : Cut → α × Cut) (b : Txt) (a : α) : Prop := ∀ t, f ⟨b ++ t, false⟩ = (a, ⟨t, false⟩)
theorem take_app (b t : Txt) {n : Nat} (h : b.length = n) : Cut.take ⟨b ++ t, false⟩ n = b := by
  subst h
  unfold Cut.take
  rw [if_neg (by simp)]
  simp
theorem rest_app (b t : Txt) {n : Nat} (h : b.length = n) : Cut.rest ⟨b ++ t, false⟩ n = ⟨t, false⟩ := by
  subst h
  simp [Cut.rest]
theorem reads_u64 {n : Int} (h0 : 0 ≤ n) (h1 : n < 18446744073709551616) : Reads Cut.u64 (le8 n) n := fun t => by
  unfold Cut.u64
  rw [take_app _ _ (le8_length n), rest_app _ _ (le8_length n), le8, unle_leN 8 n h0 (by omega)]
theorem reads_num {n : Int} (h0 : 0 ≤ n) (h1 : n ≤ 1073741824) : Reads Cut.num (le8 n) n := fun t => by
  unfold Cut.num
  rw [take_app _ _ (le8_length n), rest_app _ _ (le8_length n), le8, unle_leN 8 n h0 (by omega), Int.min_eq_left h1]
theorem reads_text {s : Txt} (h : s.length ≤ 65535) : Reads Cut.text (text s) s := fun t => by
  have hc : cutText s = s := List.take_of_length_le h
  have hl : (leN 2 (s.length : Int)).length = 2 := leN_length _ _
  have hn : (Cut.lenOf (leN 2 (s.length : Int))).toNat = s.length := by
    rw [leN2 _ h]
    simp only [Cut.lenOf, List.getD_cons_zero, List.getD_cons_succ, UInt8.toNat_ofNat']
    omega
  unfold Cut.text text
  rw [hc]
  simp only [List.append_assoc]
  rw [take_app _ _ hl, rest_app _ _ hl, hn, take_app _ _ rfl, rest_app _ _ rfl]
  rw [if_neg (by intro h; rw [h] at hl; simp at hl)]
  simp
theorem eachN_reads {β : Type} {step : List β → Cut → List β × Cut} {enc : β → Txt} {l : List β} (h : ∀ x, x ∈ l → ∀ acc t, step acc ⟨enc x ++ t, false⟩ = (acc ++ [x], ⟨t, false⟩)) (t : Txt) :
    ∀ k, k ≤ l.length → eachN step k ([], ⟨(l.map enc).flatten ++ t, false⟩) = (l.take k, ⟨((l.drop k).map enc).flatten ++ t, false⟩)
  | 0, _ => by simp [eachN]
  | k + 1, hk => by
    have ih := eachN_reads h t k (by omega)
    rw [eachN_succ _ _ _ (by rw [ih]), ih]
    have hd : l.drop k = l[k] :: l.drop (k + 1) := List.drop_eq_getElem_cons (by omega)
    rw [hd, List.map_cons, List.flatten_cons, List.append_assoc, h _ (List.getElem_mem _), List.take_succ_eq_append_getElem (by omega)]
theorem eachN_all {β : Type} {step : List β → Cut → List β × Cut} {enc : β → Txt} {l : List β} (h : ∀ x, x ∈ l → ∀ acc t, step acc ⟨enc x ++ t, false⟩ = (acc ++ [x], ⟨t, false⟩)) (t : Txt) {n : Nat} (hn : n = l.length) :
    eachN step n ([], ⟨(l.map enc).flatten ++ t, false⟩) = (l, ⟨t, false⟩) := by
  subst hn
  rw [eachN_reads h t _ (Nat.le_refl _)]
  simp
theorem len_nat (n : Nat) (h : n ≤ 1073741824) : 0 ≤ (n : Int) ∧ (n : Int) ≤ 1073741824 := by omega
theorem reads_vals {l : List Txt} (hl : l.length ≤ 1000) (h : ∀ s, s ∈ l → s.length ≤ 65535) : Reads Cut.vals (valsB l) l := fun t => by
  unfold Cut.vals valsB
  rw [List.append_assoc, reads_num (n := l.length) (by omega) (by omega) _]
  refine eachN_all (fun x hx acc t => ?_) t (by simp)
  unfold textStep
  rw [reads_text (h x hx)]
theorem reads_nums {l : List Int} (hl : l.length ≤ 1000) (h : ∀ n, n ∈ l → 0 ≤ n ∧ n ≤ 1073741824) : Reads Cut.nums (le8 l.length ++ numsB l) l := fun t => by
  unfold Cut.nums numsB
  rw [List.append_assoc, reads_num (n := l.length) (by omega) (by omega) _]
  refine eachN_all (fun x hx acc t => ?_) t (by simp)
  unfold numStep
  rw [reads_num (h x hx).1 (h x hx).2]
theorem reads_root {r : Root} (h : isRoot r = true) : Reads Cut.root (rootB r) r := fun t => by
  have hr := isRoot_rng h
  unfold Cut.root rootB
  simp only [List.append_assoc]
  rw [reads_num (by omega) (by omega), reads_num (by omega) (by omega), reads_num (by omega) (by omega)]
theorem reads_free {f : Free} (ht : 0 ≤ f.txn ∧ f.txn < 18446744073709551616) (hl : f.ids.length ≤ 1000) (h : ∀ n, n ∈ f.ids → 0 ≤ n ∧ n ≤ 1073741824) : Reads Cut.free (freeB f) f := fun t => by
  unfold Cut.free freeB
  have e : le8 f.txn ++ le8 f.ids.length ++ numsB f.ids ++ t = le8 f.txn ++ ((le8 f.ids.length ++ numsB f.ids) ++ t) := by simp only [List.append_assoc]
  rw [e, reads_u64 ht.1 ht.2]
  dsimp only
  rw [reads_nums hl h]
theorem isVals_mem {l : List Txt} {a b : Int} (h : isVals l a b = true) : ∀ s, s ∈ l → 1 ≤ s.length ∧ s.length ≤ 12 := fun s hs => by
  simp only [isVals, Bool.and_eq_true] at h
  obtain ⟨j, hj, rfl⟩ := List.getElem_of_mem hs
  have := allTo_iff.1 h.1.1 j hj
  simp only [valAt, Bool.and_eq_true, decide_eq_true_eq] at this
  simpa [List.getD, hj] using this.1
theorem isVals_len {l : List Txt} {a b : Int} (h : isVals l a b = true) : a ≤ l.length ∧ (l.length : Int) ≤ b := by
  simp only [isVals, Bool.and_eq_true, decide_eq_true_eq] at h
  exact ⟨h.1.2, h.2⟩
theorem isItem_val {x : Item} (h : isItem x = true) : x.key.length ≤ 8 ∧ x.val.length ≤ 12 ∧ (∀ s, s ∈ x.vals → s.length ≤ 65535) ∧ 1 ≤ x.kind := by
  simp only [isItem, sameItem, kindOk, short, Bool.and_eq_true, decide_eq_true_eq] at h
  obtain ⟨⟨hk8, ho⟩, hk⟩ := h
  obtain ⟨key, kind, val, run, len, vals, dup, rt⟩ := x
  simp only [own] at *
  by_cases h1 : kind = 1
  · simp only [h1, if_true, Item.mk.injEq, decide_eq_true_eq] at ho hk
    obtain ⟨_, _, _, rfl, rfl, rfl, rfl, rfl⟩ := ho
    exact ⟨hk8.2, hk, by simp, by omega⟩
  · rw [if_neg h1] at ho hk
    by_cases h2 : kind = 2
    · simp only [h2, if_true, Item.mk.injEq] at ho hk
      obtain ⟨_, _, rfl, _, _, rfl, rfl, rfl⟩ := ho
      exact ⟨hk8.2, by simp, by simp, by omega⟩
    · rw [if_neg h2] at ho hk
      by_cases h3 : kind = 3
      · simp only [h3, if_true, Item.mk.injEq] at ho hk
        obtain ⟨_, _, rfl, rfl, rfl, _, _, rfl⟩ := ho
        refine ⟨hk8.2, by simp, ?_, by omega⟩
        simp only [Bool.and_eq_true, Bool.or_eq_true, decide_eq_true_eq] at hk
        rcases hk with ⟨_, hv⟩ | ⟨rfl, _⟩
        · intro s hs
          have := isVals_mem hv s hs
          omega
        · simp
      · rw [if_neg h3] at ho hk
        by_cases h4 : kind = 4
        · simp only [h4, if_true, Item.mk.injEq] at ho hk
          obtain ⟨_, _, rfl, rfl, rfl, rfl, rfl, _⟩ := ho
          exact ⟨hk8.2, by simp, by simp, by omega⟩
        · rw [if_neg h4] at hk
          exact absurd hk (by simp)
theorem own_eq {x : Item} (h : isItem x = true) : x = own x := by
  simp only [isItem, sameItem, Bool.and_eq_true, decide_eq_true_eq] at h
  exact h.1.2
theorem reads_item {x : Item} (h : isItem x = true) : Reads Cut.item (itemB x) x := fun t => by
  have hr := isItem_rng h
  have hv := isItem_val h
  have ho := own_eq h
  unfold Cut.item itemB
  simp only [List.append_assoc]
  rw [reads_text (by omega)]
  dsimp only
  rw [reads_num (by omega) (by omega)]
  dsimp only
  by_cases h1 : x.kind = 1
  · rw [if_pos h1, if_pos h1, reads_text (by omega)]
    rw [own, if_pos h1] at ho
    rw [← ho]
  · rw [if_neg h1, if_neg h1]
    by_cases h2 : x.kind = 2
    · rw [if_pos h2, if_pos h2]
      simp only [List.append_assoc]
      rw [reads_num (by omega) (by omega)]
      dsimp only
      rw [reads_num (by omega) (by omega)]
      rw [own, if_neg h1, if_pos h2] at ho
      rw [← ho]
    · rw [if_neg h2, if_neg h2]
      by_cases h3 : x.kind = 3
      · rw [if_pos h3, if_pos h3]
        simp only [List.append_assoc]
        rw [reads_vals (by omega) hv.2.2.1]
        dsimp only
        rw [reads_num (by omega) (by omega)]
        rw [own, if_neg h1, if_neg h2, if_pos h3] at ho
        rw [← ho]
      · have h4 : x.kind = 4 := by omega
        rw [if_neg h3, if_neg h3, if_pos h4, reads_root hr.2.2.2.2.2.2.2.2.2]
        rw [own, if_neg h1, if_neg h2, if_neg h3, if_pos h4] at ho
        rw [← ho]
theorem isIDs_mem {l : List Int} (h : isIDs l = true) : ∀ n, n ∈ l → 2 ≤ n ∧ n < 400 := fun n hn => by
  obtain ⟨j, hj, rfl⟩ := List.getElem_of_mem hn
  have := allTo_iff.1 h j hj
  simp only [idAt, isID, Bool.and_eq_true, decide_eq_true_eq] at this
  simpa [List.getD, hj] using this.1
theorem isLeaf_mem {l : List Item} (h : isLeaf l = true) : l.length ≤ 4 ∧ ∀ x, x ∈ l → isItem x = true := by
  simp only [isLeaf, Bool.and_eq_true, decide_eq_true_eq] at h
  refine ⟨h.2, fun x hx => ?_⟩
  obtain ⟨j, hj, rfl⟩ := List.getElem_of_mem hx
  have := allTo_iff.1 h.1.1 j hj
  simp only [leafAt, Bool.and_eq_true] at this
  simpa [List.getD, hj] using this.1
theorem reads_items {l : List Item} (h : isLeaf l = true) : Reads Cut.items (le8 l.length ++ itemsB l) l := fun t => by
  have hl := isLeaf_mem h
  unfold Cut.items itemsB
  rw [List.append_assoc, reads_num (n := l.length) (by omega) (by omega) _]
  refine eachN_all (fun x hx acc t => ?_) t (by simp)
  unfold itemStep
  rw [reads_item (hl.2 x hx)]
theorem eachN_pairs {keys : List Txt} {kids : List Int} (hk : ∀ i, i < kids.length → (keys.getD i []).length ≤ 65535 ∧ 0 ≤ kids.getD i 0 ∧ kids.getD i 0 ≤ 1073741824) (hl : keys.length = kids.length) (t : Txt) :
    ∀ k, k ≤ kids.length → eachN keyStep k (([], []), ⟨kidsTo keys kids kids.length ++ t, false⟩) = ((keys.take k, kids.take k), ⟨(((List.range kids.length).drop k).map (kidB keys kids)).flatten ++ t, false⟩)
  | 0, _ => by simp [eachN, kidsTo]
  | k + 1, hk1 => by
    have ih := eachN_pairs hk hl t k (by omega)
    rw [eachN_succ _ _ _ (by rw [ih]), ih]
    have hd : (List.range kids.length).drop k = k :: (List.range kids.length).drop (k + 1) := by
      rw [List.drop_eq_getElem_cons (by simp; omega)]
      simp
    have hk2 := hk k (by omega)
    rw [hd, List.map_cons, List.flatten_cons, kidB]
    simp only [List.append_assoc]
    unfold keyStep
    dsimp only
    rw [reads_text hk2.1]
    dsimp only
    rw [reads_num hk2.2.1 hk2.2.2, List.take_succ_eq_append_getElem (by omega), List.take_succ_eq_append_getElem (by omega)]
    simp [List.getD, show k < kids.length by omega, show k < keys.length by omega]
theorem lt_nil (s : Txt) (h : lt s [] = true) : False := by
  cases s <;> simp [lt, Op.bytesLess] at h
theorem isBranch_all {p : Page} (h : isBranch p = true) : p.kids.length ≤ 4 ∧ p.keys.length = p.kids.length ∧ ∀ i, i < p.kids.length → (p.keys.getD i []).length ≤ 8 ∧ 2 ≤ p.kids.getD i 0 ∧ p.kids.getD i 0 < 400 := by
  simp only [isBranch, Bool.and_eq_true, decide_eq_true_eq] at h
  obtain ⟨⟨⟨⟨_, h1⟩, h2⟩, h3⟩, h4⟩ := h
  refine ⟨h1, h2, fun i hi => ?_⟩
  have := allTo_iff.1 h4 i hi
  simp only [branchAt, isID, short, Bool.and_eq_true, Bool.or_eq_true, decide_eq_true_eq] at this
  refine ⟨?_, this.1⟩
  rcases this.2 with rfl | h
  · rw [h3]; simp
  · exact h.1.2
theorem reads_keys {p : Page} (h : isBranch p = true) : Reads Cut.keys (le8 p.kids.length ++ kidsTo p.keys p.kids p.kids.length) (p.keys, p.kids) := fun t => by
  have hl := isBranch_all h
  unfold Cut.keys
  rw [List.append_assoc, reads_num (n := p.kids.length) (by omega) (by omega) _]
  dsimp only
  rw [Int.toNat_natCast, eachN_pairs (fun i hi => by have := hl.2.2 i hi; omega) hl.2.1 t _ (Nat.le_refl _)]
  have e0 : (List.range p.kids.length).drop p.kids.length = [] := by simp
  rw [e0, List.take_of_length_le (by omega), List.take_of_length_le (by omega)]
  rfl
/-- The numbers of versions that a page has lie in a word. -/
def Rng (p : Page) : Prop := (∀ f, f ∈ p.free → 0 ≤ f.txn ∧ f.txn < 18446744073709551616) ∧ 0 ≤ p.mt.txn ∧ p.mt.txn < 18446744073709551616
theorem total_mem {l : List Free} {f : Free} (h : f ∈ l) : f.ids.length ≤ total l := by
  unfold total
  induction l with
  | nil => simp at h
  | cons a l ih =>
    rcases List.mem_cons.1 h with rfl | h
    · simp
    · have := ih h
      simp only [List.map_cons, List.sum_cons]
      omega
theorem total_len {l : List Free} (h : ∀ f, f ∈ l → 1 ≤ f.ids.length) : l.length ≤ total l := by
  unfold total
  induction l with
  | nil => simp
  | cons a l ih =>
    have h1 := h a (by simp)
    have := ih fun f hf => h f (by simp [hf])
    simp only [List.map_cons, List.sum_cons, List.length_cons]
    omega
theorem isFree_mem {p : Page} (h : isFree p = true) : p.free.length ≤ 20 ∧ 0 ≤ p.next ∧ p.next < 400 ∧ ∀ f, f ∈ p.free → f.ids.length ≤ 20 ∧ isIDs f.ids = true := by
  simp only [isFree, noneOr, isID, Bool.and_eq_true, Bool.or_eq_true, decide_eq_true_eq] at h
  have hm : ∀ f, f ∈ p.free → 1 ≤ f.ids.length ∧ isIDs f.ids = true := fun f hf => by
    obtain ⟨j, hj, rfl⟩ := List.getElem_of_mem hf
    have := allTo_iff.1 h.1.1 j hj
    simp only [freeAt, Bool.and_eq_true, decide_eq_true_eq] at this
    have e : p.free.getD j free0 = p.free[j] := by simp [List.getD, hj]
    rw [e] at this
    exact ⟨List.length_pos_iff.2 this.1.1, this.2⟩
  have h1 := total_len fun f hf => (hm f hf).1
  refine ⟨by omega, by omega, by omega, fun f hf => ⟨?_, (hm f hf).2⟩⟩
  have := total_mem hf
  omega
theorem reads_frees {p : Page} (h : isFree p = true) (hr : Rng p) : Reads Cut.frees (le8 p.free.length ++ freesB p.free) p.free := fun t => by
  have hl := isFree_mem h
  unfold Cut.frees freesB
  rw [List.append_assoc, reads_num (n := p.free.length) (by omega) (by omega) _]
  refine eachN_all (fun x hx acc t => ?_) t (by simp)
  unfold freeStep
  have hx2 := hl.2.2.2 x hx
  rw [reads_free (hr.1 x hx) (by omega) fun n hn => by have := isIDs_mem hx2.2 n hn; omega]
theorem isMt_rng2 {m : Mt} (h : isMt m = true) : isRoot m.main = true ∧ 0 ≤ m.free ∧ m.free < 400 ∧ 2 ≤ m.last ∧ m.last ≤ 400 := by
  simp only [isMt, noneOr, isID, Bool.and_eq_true, Bool.or_eq_true, decide_eq_true_eq] at h
  refine ⟨h.1.1.1, by omega, by omega, by omega, by omega⟩
theorem reads_mt {m : Mt} (h : isMt m = true) (hr : 0 ≤ m.txn ∧ m.txn < 18446744073709551616) : Reads Cut.mt (mtB m) m := fun t => by
  have hm := isMt_rng2 h
  unfold Cut.mt mtB
  simp only [List.append_assoc]
  rw [reads_u64 hr.1 hr.2]
  dsimp only
  rw [reads_root hm.1]
  dsimp only
  rw [reads_num (by omega) (by omega)]
  dsimp only
  rw [reads_num (by omega) (by omega)]
theorem has_iff {p : Page} {a b c d e f g : Bool} (h : has p = [a, b, c, d, e, f, g]) : decide (p.items ≠ []) = a ∧ (decide (p.keys ≠ []) || decide (p.kids ≠ [])) = b ∧ decide (p.text ≠ []) = c ∧ decide (p.vals ≠ []) = d ∧ decide (p.free ≠ []) = e ∧ decide (p.next ≠ 0) = f ∧ decide (p.mt ≠ mt0) = g := by
  simpa only [has, List.cons.injEq, and_true] using h
theorem no_of {α : Type} [DecidableEq α] {a b : α} (h : decide (a ≠ b) = false) : a = b := by simpa using h
theorem reads_page {p : Page} (h : isPage p = true) (hr : Rng p) : Reads Cut.page (body p) p := fun t => by
  unfold Cut.page body partsB
  simp only [List.append_assoc]
  unfold isPage at h
  by_cases h1 : p.kind = 1
  · rw [if_pos h1, Bool.and_eq_true, decide_eq_true_eq] at h
    obtain ⟨hi, hk, ht, hv, hf, hn, hm⟩ := has_iff h.1
    simp only [Bool.or_eq_false_iff] at hk
    rw [reads_num (by omega) (by omega)]
    dsimp only
    rw [if_pos h1, if_pos h1, reads_items h.2]
    have e := (⟨no_of hk.1, no_of hk.2, no_of ht, no_of hv, no_of hf, no_of hn, no_of hm⟩ : p.keys = [] ∧ p.kids = [] ∧ p.text = [] ∧ p.vals = [] ∧ p.free = [] ∧ p.next = 0 ∧ p.mt = mt0)
    obtain ⟨kind, items, keys, kids, text, vals, free, next, mt⟩ := p
    simp only at e ⊢
    obtain ⟨rfl, rfl, rfl, rfl, rfl, rfl, rfl⟩ := e
    rfl
  rw [if_neg h1] at h
  by_cases h2 : p.kind = 2
  · rw [if_pos h2, Bool.and_eq_true, decide_eq_true_eq] at h
    obtain ⟨hi, hk, ht, hv, hf, hn, hm⟩ := has_iff h.1
    rw [reads_num (by omega) (by omega)]
    dsimp only
    rw [if_neg h1, if_pos h2, if_neg h1, if_pos h2, reads_keys h.2]
    have e := (⟨no_of hi, no_of ht, no_of hv, no_of hf, no_of hn, no_of hm⟩ : p.items = [] ∧ p.text = [] ∧ p.vals = [] ∧ p.free = [] ∧ p.next = 0 ∧ p.mt = mt0)
    obtain ⟨kind, items, keys, kids, text, vals, free, next, mt⟩ := p
    simp only at e ⊢
    obtain ⟨rfl, rfl, rfl, rfl, rfl, rfl⟩ := e
    rfl
  rw [if_neg h2] at h
  by_cases h3 : p.kind = 3
  · rw [if_pos h3, Bool.and_eq_true, decide_eq_true_eq, decide_eq_true_eq] at h
    obtain ⟨hi, hk, ht, hv, hf, hn, hm⟩ := has_iff h.1
    simp only [Bool.or_eq_false_iff] at hk
    rw [reads_num (by omega) (by omega)]
    dsimp only
    rw [if_neg h1, if_neg h2, if_pos h3, if_neg h1, if_neg h2, if_pos h3, reads_text (by omega)]
    have e := (⟨no_of hi, no_of hk.1, no_of hk.2, no_of hv, no_of hf, no_of hn, no_of hm⟩ : p.items = [] ∧ p.keys = [] ∧ p.kids = [] ∧ p.vals = [] ∧ p.free = [] ∧ p.next = 0 ∧ p.mt = mt0)
    obtain ⟨kind, items, keys, kids, text, vals, free, next, mt⟩ := p
    simp only at e ⊢
    obtain ⟨rfl, rfl, rfl, rfl, rfl, rfl, rfl⟩ := e
    rfl
  rw [if_neg h3] at h
  by_cases h4 : p.kind = 4
  · rw [if_pos h4, Bool.and_eq_true, decide_eq_true_eq] at h
    obtain ⟨hi, hk, ht, hv, hf, hn, hm⟩ := has_iff h.1
    simp only [Bool.or_eq_false_iff] at hk
    rw [reads_num (by omega) (by omega)]
    dsimp only
    have hvl := isVals_len h.2
    rw [if_neg h1, if_neg h2, if_neg h3, if_pos h4, if_neg h1, if_neg h2, if_neg h3, if_pos h4, reads_vals (by omega) fun s hs => by have := isVals_mem h.2 s hs; omega]
    have e := (⟨no_of hi, no_of hk.1, no_of hk.2, no_of ht, no_of hf, no_of hn, no_of hm⟩ : p.items = [] ∧ p.keys = [] ∧ p.kids = [] ∧ p.text = [] ∧ p.free = [] ∧ p.next = 0 ∧ p.mt = mt0)
    obtain ⟨kind, items, keys, kids, text, vals, free, next, mt⟩ := p
    simp only at e ⊢
    obtain ⟨rfl, rfl, rfl, rfl, rfl, rfl, rfl⟩ := e
    rfl
  rw [if_neg h4] at h
  by_cases h5 : p.kind = 5
  · rw [if_pos h5, Bool.and_eq_true, decide_eq_true_eq] at h
    obtain ⟨hi, hk, ht, hv, hf, hn, hm⟩ := has_iff h.1
    simp only [Bool.or_eq_false_iff] at hk
    have hfm := isFree_mem h.2
    rw [reads_num (by omega) (by omega)]
    dsimp only
    rw [if_neg h1, if_neg h2, if_neg h3, if_neg h4, if_pos h5, if_neg h1, if_neg h2, if_neg h3, if_neg h4, if_pos h5]
    have e2 : ∀ u, le8 p.free.length ++ (freesB p.free ++ le8 p.next) ++ u = (le8 p.free.length ++ freesB p.free) ++ (le8 p.next ++ u) := fun u => by simp only [List.append_assoc]
    rw [e2, reads_frees h.2 hr]
    dsimp only
    rw [reads_num (by omega) (by omega)]
    have e := (⟨no_of hi, no_of hk.1, no_of hk.2, no_of ht, no_of hv, no_of hm⟩ : p.items = [] ∧ p.keys = [] ∧ p.kids = [] ∧ p.text = [] ∧ p.vals = [] ∧ p.mt = mt0)
    obtain ⟨kind, items, keys, kids, text, vals, free, next, mt⟩ := p
    simp only at e ⊢
    obtain ⟨rfl, rfl, rfl, rfl, rfl, rfl⟩ := e
    rfl
  rw [if_neg h5] at h
  by_cases h6 : p.kind = 6
  · rw [if_pos h6, Bool.and_eq_true, decide_eq_true_eq] at h
    obtain ⟨hi, hk, ht, hv, hf, hn, hm⟩ := has_iff h.1
    simp only [Bool.or_eq_false_iff] at hk
    rw [reads_num (by omega) (by omega)]
    dsimp only
    rw [if_neg h1, if_neg h2, if_neg h3, if_neg h4, if_neg h5, if_pos h6, if_neg h1, if_neg h2, if_neg h3, if_neg h4, if_neg h5, if_pos h6, reads_mt h.2 hr.2]
    have e := (⟨no_of hi, no_of hk.1, no_of hk.2, no_of ht, no_of hv, no_of hf, no_of hn⟩ : p.items = [] ∧ p.keys = [] ∧ p.kids = [] ∧ p.text = [] ∧ p.vals = [] ∧ p.free = [] ∧ p.next = 0)
    obtain ⟨kind, items, keys, kids, text, vals, free, next, mt⟩ := p
    simp only at e ⊢
    obtain ⟨rfl, rfl, rfl, rfl, rfl, rfl, rfl⟩ := e
    rfl
  rw [if_neg h6] at h
  exact absurd h (by simp)
theorem bytes_of {p : Page} (h : isPage p = true) : bytes p = le8 (sum (body p)) ++ body p := by
  unfold bytes
  rw [if_pos h]
theorem bytes_no {p : Page} (h : isPage p = false) : bytes p = [] := by
  unfold bytes
  rw [if_neg (by simp [h])]
theorem parse_app {p : Page} (h : isPage p = true) (hr : Rng p) (t : Txt) : parse (bytes p ++ t) = p := by
  rw [bytes_of h, List.append_assoc, parse]
  have hs := sum_range (body p)
  rw [reads_u64 hs.1 hs.2]
  dsimp only
  rw [reads_page h hr]
theorem parse_bytes {p : Page} (h : isPage p = true) (hr : Rng p) : parse (bytes p) = p := by
  have := parse_app h hr []
  rwa [List.append_nil] at this
theorem body_len (p : Page) : 8 ≤ (body p).length := by
  unfold body
  rw [List.length_append, le8_length]
  omega
theorem bytes_len {p : Page} (h : isPage p = true) : 16 ≤ (bytes p).length := by
  have := body_len p
  rw [bytes_of h, List.length_append, le8_length]
  omega
theorem readOk_bytes {p : Page} (h : isPage p = true) (hr : Rng p) : readOk (bytes p) = true := by
  have := bytes_len h
  unfold readOk
  rw [parse_bytes h hr]
  simp only [Bool.and_eq_true, decide_eq_true_eq, and_true]
  rintro e
  rw [e] at this
  simp at this
theorem readOk_page {s : Txt} (h : readOk s = true) : isPage (parse s) = true ∧ bytes (parse s) = s := by
  simp only [readOk, Bool.and_eq_true, decide_eq_true_eq] at h
  refine ⟨?_, h.2⟩
  rcases hb : isPage (parse s) with _ | _
  · exact absurd ((bytes_no hb).symm.trans h.2).symm h.1
  · rfl
theorem bytes_inj {p q : Page} (hp : isPage p = true) (hq : isPage q = true) (rp : Rng p) (rq : Rng q) (h : bytes p = bytes q) : p = q := by
  rw [← parse_bytes hp rp, ← parse_bytes hq rq, h]
end Sp
end Go.Proofs.Ytienlhckcpfknaa
namespace Go.Proofs.Ytienlhckcpfknaa
open Go.RowKit
attribute [local go_sem low] mk_extract
attribute [local go_sem] After.cell After.frozen mk_extract_end ByteArray.mk_append_mk
namespace Sp
theorem eachN_mem {β : Type} {step : List β → Cut → List β × Cut} {P : β → Prop} (h : ∀ l c, (∀ x, x ∈ l → P x) → ∀ x, x ∈ (step l c).1 → P x) (s : List β × Cut) (hs : ∀ x, x ∈ s.1 → P x) : ∀ n, ∀ x, x ∈ (eachN step n s).1 → P x
  | 0 => hs
  | n + 1 => by
    have ih := eachN_mem h s hs n
    have e : eachN step (n + 1) s = if (eachN step n s).2.bad = true then eachN step n s else step (eachN step n s).1 (eachN step n s).2 := rfl
    rw [e]
    split
    · exact ih
    · exact h _ _ ih
theorem frees_rng (c : Cut) : ∀ f, f ∈ c.frees.1 → 0 ≤ f.txn ∧ f.txn < 18446744073709551616 := by
  unfold Cut.frees
  refine eachN_mem (P := fun f : Free => 0 ≤ f.txn ∧ f.txn < 18446744073709551616) (fun l c h x hx => ?_) _ (by simp) _
  unfold freeStep at hx
  simp only [List.mem_append, List.mem_singleton] at hx
  rcases hx with hx | rfl
  · exact h x hx
  · exact c.u64_rng
theorem page_rng (c : Cut) : Rng c.page.1 := by
  have h0 : 0 ≤ mt0.txn ∧ mt0.txn < 18446744073709551616 := by decide
  have hn : ∀ f : Free, f ∈ ([] : List Free) → 0 ≤ f.txn ∧ f.txn < 18446744073709551616 := by simp
  unfold Cut.page Rng
  by_cases h1 : c.num.1 = 1
  · rw [if_pos h1]; exact ⟨hn, h0⟩
  rw [if_neg h1]
  by_cases h2 : c.num.1 = 2
  · rw [if_pos h2]; exact ⟨hn, h0⟩
  rw [if_neg h2]
  by_cases h3 : c.num.1 = 3
  · rw [if_pos h3]; exact ⟨hn, h0⟩
  rw [if_neg h3]
  by_cases h4 : c.num.1 = 4
  · rw [if_pos h4]; exact ⟨hn, h0⟩
  rw [if_neg h4]
  by_cases h5 : c.num.1 = 5
  · rw [if_pos h5]; exact ⟨frees_rng _, h0⟩
  rw [if_neg h5]
  by_cases h6 : c.num.1 = 6
  · rw [if_pos h6]; exact ⟨hn, Cut.u64_rng _⟩
  rw [if_neg h6]
  exact ⟨hn, h0⟩
theorem parse_rng (s : Txt) : Rng (parse s) := page_rng _
theorem less_no {p : Page} (h : isPage p = true) (hr : Rng p) {t : Txt} (ht : t ≠ []) {u : Txt} (hu : bytes p = u ++ t) : readOk u = false := by
  rcases hb : readOk u with _ | _
  · rfl
  exfalso
  have hp := readOk_page hb
  have e1 := parse_bytes h hr
  have e2 := parse_app hp.1 (parse_rng u) t
  rw [hp.2, ← hu, e1] at e2
  have e3 := hp.2
  rw [← e2, hu] at e3
  have := congrArg List.length e3
  rw [List.length_append] at this
  have := List.length_pos_iff.2 ht
  omega
theorem more_no {p : Page} (h : isPage p = true) (hr : Rng p) {t : Txt} (ht : t ≠ []) : readOk (bytes p ++ t) = false := by
  rcases hb : readOk (bytes p ++ t) with _ | _
  · rfl
  exfalso
  have hp := (readOk_page hb).2
  rw [parse_app h hr] at hp
  have := congrArg List.length hp
  rw [List.length_append] at this
  have := List.length_pos_iff.2 ht
  omega
theorem sumStep_def (n : Int) (b : UInt8) : sumStep n b = (n * 33 + (b.toNat : Int)) % 18446744073709551616 := by
  unfold sumStep
  simp only [IntKind.wrap_u64]
  rw [← Int.add_emod]
theorem inv33 (n : Int) : (n * 33 * 1117984489315730401) % 18446744073709551616 = n % 18446744073709551616 := by
  have e : n * 33 * 1117984489315730401 = n + 18446744073709551616 * (n * 2) := by omega
  rw [e, Int.add_mul_emod_self_left]
theorem cancel33 {n m : Int} (hn : 0 ≤ n ∧ n < 18446744073709551616) (hm : 0 ≤ m ∧ m < 18446744073709551616) {c : Int} (h : (n * 33 + c) % 18446744073709551616 = (m * 33 + c) % 18446744073709551616) : n = m := by
  have h1 : (n * 33) % 18446744073709551616 = (m * 33) % 18446744073709551616 := by
    generalize n * 33 = x at *
    generalize m * 33 = y at *
    omega
  have h2 : (n * 33 * 1117984489315730401) % 18446744073709551616 = (m * 33 * 1117984489315730401) % 18446744073709551616 := by
    rw [Int.mul_emod, h1, ← Int.mul_emod]
  rw [inv33, inv33, Int.emod_eq_of_lt hn.1 hn.2, Int.emod_eq_of_lt hm.1 hm.2] at h2
  exact h2
theorem sumStep_left {n m : Int} {b : UInt8} (hn : 0 ≤ n ∧ n < 18446744073709551616) (hm : 0 ≤ m ∧ m < 18446744073709551616) (h : sumStep n b = sumStep m b) : n = m := by
  rw [sumStep_def, sumStep_def] at h
  exact cancel33 hn hm h
theorem sumStep_right {n : Int} {b c : UInt8} (h : sumStep n b = sumStep n c) : b = c := by
  have hb := b.toNat_lt
  have hc := c.toNat_lt
  rw [sumStep_def, sumStep_def] at h
  generalize n * 33 = x at *
  exact UInt8.toNat_inj.1 (by omega)
theorem foldl_rng {n : Int} (h : 0 ≤ n ∧ n < 18446744073709551616) : ∀ l : Txt, 0 ≤ l.foldl sumStep n ∧ l.foldl sumStep n < 18446744073709551616
  | [] => h
  | b :: l => foldl_rng (sumStep_range n b) l
theorem foldl_left {n m : Int} (hn : 0 ≤ n ∧ n < 18446744073709551616) (hm : 0 ≤ m ∧ m < 18446744073709551616) : ∀ l : Txt, l.foldl sumStep n = l.foldl sumStep m → n = m
  | [], h => h
  | b :: l, h => sumStep_left hn hm (foldl_left (sumStep_range n b) (sumStep_range m b) l h)
theorem sum_mid (l m : Txt) (b c : UInt8) (h : sum (l ++ b :: m) = sum (l ++ c :: m)) : b = c := by
  unfold sum at h
  rw [List.foldl_append, List.foldl_append, List.foldl_cons, List.foldl_cons] at h
  exact sumStep_right (foldl_left (sumStep_range _ _) (sumStep_range _ _) m h)
theorem le8_inj {n m : Int} (hn : 0 ≤ n ∧ n < 18446744073709551616) (hm : 0 ≤ m ∧ m < 18446744073709551616) (h : le8 n = le8 m) : n = m := by
  rw [← unle_leN 8 n hn.1 (by omega), ← unle_leN 8 m hm.1 (by omega)]
  exact congrArg unle h
/-- Of two pages' bytes that are alike but for one byte that byte is alike too. -/
theorem one_byte {p q : Page} (hp : isPage p = true) (hq : isPage q = true) {l m : Txt} {b c : UInt8} (h1 : bytes p = l ++ b :: m) (h2 : bytes q = l ++ c :: m) : b = c := by
  rw [bytes_of hp] at h1
  rw [bytes_of hq] at h2
  have hsp := sum_range (body p)
  have hsq := sum_range (body q)
  rcases Nat.lt_or_ge l.length 8 with hl | hl
  · have e1 : body p = (l ++ b :: m).drop 8 := by rw [← h1, List.drop_left' (le8_length _)]
    have e2 : body q = (l ++ c :: m).drop 8 := by rw [← h2, List.drop_left' (le8_length _)]
    have e3 : body p = body q := by
      rw [e1, e2, List.drop_append, List.drop_append]
      have : 8 - l.length = (7 - l.length) + 1 := by omega
      rw [this, List.drop_succ_cons, List.drop_succ_cons]
    rw [e3, h2] at h1
    have := List.append_cancel_left h1
    exact ((List.cons.inj this).1).symm
  · have t1 : le8 (sum (body p)) = (l ++ b :: m).take 8 := by rw [← h1, List.take_left' (le8_length _)]
    have t2 : le8 (sum (body q)) = (l ++ c :: m).take 8 := by rw [← h2, List.take_left' (le8_length _)]
    rw [List.take_append_of_le_length hl] at t1 t2
    have es := le8_inj hsp hsq (t1.trans t2.symm)
    have e1 : body p = (l ++ b :: m).drop 8 := by rw [← h1, List.drop_left' (le8_length _)]
    have e2 : body q = (l ++ c :: m).drop 8 := by rw [← h2, List.drop_left' (le8_length _)]
    rw [List.drop_append_of_le_length hl] at e1 e2
    rw [e1, e2] at es
    exact sum_mid _ _ _ _ es
theorem byte_no {p : Page} (hp : isPage p = true) {l m : Txt} {b c : UInt8} (h1 : bytes p = l ++ b :: m) (hbc : b ≠ c) : readOk (l ++ c :: m) = false := by
  rcases hb : readOk (l ++ c :: m) with _ | _
  · rfl
  exact absurd (one_byte hp (readOk_page hb).1 h1 (readOk_page hb).2) hbc
end Sp
end Go.Proofs.Ytienlhckcpfknaa
namespace Go.Proofs.Ytienlhckcpfknaa
open Go.RowKit Go.WideShapes Go.ChangeShapes
theorem laidKn : laidOutB Try.prog = true := by kernel_rfl
theorem ownKn : ownKnob Try.prog.godebug = none := by kernel_rfl
theorem post_of_below {H : Type} {enc : TypeId × Value → H} {P : Program} {f : Func} {s : ChangeSpec} {apart fresh handsOn again : Bool} {W W' : World} {args : Array Value} {v : Value} {ds gs : List (DataW H)} {before pa pv : List MemPlace}
    (hW : DataW.Whole enc P f.params.toList s.vars apart W args.toList ds gs before)
    (hres : ∀ (b : Nat) (sp : Nat → Bool) (hd : Bool), DataW.TrodAll enc P W' b sp hd f.resultTypes.toList (v.resultList f.resultTypes.size) (s.fn H (ds ++ gs)).results [])
    (hargs : ∀ sp : Nat → Bool, (∀ p ∈ before, sp p.block = true) → DataW.TrodAll enc P W' 0 sp true f.params.toList args.toList (s.fn H (ds ++ gs)).args pa)
    (hvars : ∀ sp : Nat → Bool, (∀ p ∈ before, sp p.block = true) → DataW.TrodVars enc P W' sp s.vars (s.fn H (ds ++ gs)).vars pv)
    (hps : before = pa ++ pv) (hb : Below W.heap.size W W')
    (hok : ∀ (j : Nat) (t : TypeId) (r : Value), f.resultTypes[j]? = some t → (v.resultList f.resultTypes.size)[j]? = some r → Value.okWide P W' .any 0 t r) :
    s.post enc P f apart fresh handsOn again W args v W' := by
  have hlt : ∀ p ∈ before, p.block < W.heap.size := fun p hp => hW.lt p hp
  have hold : ∀ p ∈ before, (fun b => decide (b < W.heap.size)) p.block = true := fun p hp => by simpa using hlt p hp
  refine ⟨ds, gs, before, [], pa, pv, hW, hres _ _ _, hargs _ hold, hvars _ hold, World.keptBut_mono (fun p hp => ⟨hp, ?_⟩) (hb.frame (· ∈ before)), fun _ => ?_⟩
  · rw [hps, List.mem_append] at hp
    exact Or.inr hp
  · obtain ⟨_, _, _, _, _, hz, hn⟩ := hW
    refine ⟨hok, _, _, ([] ++ pa) ++ pv, ⟨[] ++ pa, pv, trodAll_append (hargs _ (fun _ _ => rfl)) (hres _ _ _), hvars _ (fun _ _ => rfl), rfl, ?_, ?_⟩, ?_⟩
    · intro b off hp
      have hin : MemPlace.cell b off ∈ before := by rw [hps]; simpa using hp
      rw [hb.frozen (hlt _ hin)]
      exact hz b off hin
    · intro ha
      have := hn ha
      rw [hps] at this
      simpa using this
    · intro p hp _
      rw [hps]
      simpa using hp
end Go.Proofs.Ytienlhckcpfknaa
namespace Go.Proofs.Ytienlhckcpfknaa
open Go.RowKit Go.WideShapes Go.ChangeShapes Go.Deep
theorem cellsStr : Try.prog.cellsOf 9 = 1 := by kernel_rfl
theorem cellsInt : Try.prog.cellsOf 3 = 1 := by kernel_rfl
theorem cellsU64 : Try.prog.cellsOf 26 = 1 := by kernel_rfl
theorem cellsStrs : Try.prog.cellsOf 23 = 1 := by kernel_rfl
theorem cellsInts : Try.prog.cellsOf 24 = 1 := by kernel_rfl
theorem cellsItems : Try.prog.cellsOf 22 = 1 := by kernel_rfl
theorem cellsFrees : Try.prog.cellsOf 25 = 1 := by kernel_rfl
theorem cellsRoot : Try.prog.cellsOf 28 = 3 := by kernel_rfl
theorem cellsItem : Try.prog.cellsOf 51 = 10 := by kernel_rfl
theorem cellsFree : Try.prog.cellsOf 57 = 2 := by kernel_rfl
theorem cellsMeta : Try.prog.cellsOf 30 = 6 := by kernel_rfl
theorem cellsPage : Try.prog.cellsOf 32 = 14 := by kernel_rfl
theorem bytesItem : Try.prog.bytesOf 51 = 112 := by kernel_rfl
theorem bytesFree : Try.prog.bytesOf 57 = 32 := by kernel_rfl
theorem addr_of {w : World} {a : Addr} {u : Value} (h : w.cell? (a.add 0) = some u) : ∃ b off, a = ⟨b, off, none⟩ ∧ b < w.heap.size := by
  obtain ⟨b, off, spot⟩ := a
  have hspot : spot = none := by simpa [Addr.add] using World.cell?_spot h
  subst hspot
  refine ⟨b, off, rfl, ?_⟩
  have := block_lt_of_cell h
  simpa [Go.WideShapes.add_plain] using this
theorem row_of {w : World} {a : Addr} {cs : List Value} (hl : cs.length ≤ 9223372036854775807) (h : ∀ i u, cs[i]? = some u → w.cell? (a.add i) = some u) : Row w NoM (some a) cs := by
  refine ⟨hl, ?_⟩
  rcases cs with _ | ⟨c, cs⟩
  · exact .inl rfl
  · obtain ⟨b, off, rfl, hb⟩ := addr_of (h 0 c rfl)
    exact .inr ⟨b, off, rfl, hb, id, fun j u hu => by rw [← Go.WideShapes.add_plain]; exact h j u hu⟩
section
variable {H : Type} {enc : TypeId × Value → H} {w : World} {base : Nat} {spare : Nat → Bool} {held : Bool}
theorem tr_txts {n : Nat} {c : Value} {y : DataW H × List MemPlace} (h : DataW.trod enc Try.prog w base spare held n 23 [c] = some y) : ∃ A l cap, c = .slice A (List.length l) cap ∧ Txts w NoM A l := by
  rcases open_strings Try.underlying23 Try.underlying9 cellsStr h with ⟨hc, _⟩ | ⟨a, len, cap, ss, hc, _, hl, hm, hs, _, hcell, _⟩
  · simp only [List.cons.injEq, and_true] at hc
    exact ⟨none, [], 0, hc, Row.nil_⟩
  · simp only [List.cons.injEq, and_true] at hc
    have hle : len ≤ ss.length := by rw [hs]; split <;> omega
    unfold maxLen at hm
    refine ⟨some a, (ss.take len).map (fun s => s.data.toList), cap, ?_, row_of ?_ fun i u hu => ?_⟩
    · rw [hc, List.length_map, List.length_take, Nat.min_eq_left hle]
    · simp; omega
    · rw [List.getElem?_map, List.getElem?_map, List.getElem?_take] at hu
      split at hu
      · rename_i hi
        have hcl := hcell i (by omega)
        have hlt : i < ss.length := by omega
        rw [hcl]
        simp only [List.getElem?_eq_getElem hlt, Option.map_some, Option.some.injEq] at hu
        rw [← hu]
        simp [List.getD, hlt, tv]
      · simp at hu
theorem tr_ints {n : Nat} {c : Value} {y : DataW H × List MemPlace} (h : DataW.trod enc Try.prog w base spare held n 24 [c] = some y) : ∃ A l cap, c = .slice A (List.length l) cap ∧ Ints w NoM A l := by
  rcases open_ints Try.underlying24 Try.underlying3 cellsInt h with ⟨hc, _⟩ | ⟨a, len, cap, zs, hc, _, hl, hm, hs, _, hcell, _⟩
  · simp only [List.cons.injEq, and_true] at hc
    exact ⟨none, [], 0, hc, Row.nil_⟩
  · simp only [List.cons.injEq, and_true] at hc
    have hle : len ≤ zs.length := by rw [hs]; split <;> omega
    unfold maxLen at hm
    refine ⟨some a, zs.take len, cap, ?_, row_of ?_ fun i u hu => ?_⟩
    · rw [hc, List.length_take, Nat.min_eq_left hle]
    · simp; omega
    · rw [List.getElem?_map, List.getElem?_take] at hu
      split at hu
      · rename_i hi
        have hcl := hcell i (by omega)
        have hlt : i < zs.length := by omega
        rw [hcl]
        simp only [List.getElem?_eq_getElem hlt, Option.map_some, Option.some.injEq] at hu
        rw [← hu]
        simp [List.getD, hlt, iv]
      · simp at hu
theorem tr_int {n : Nat} {c : Value} {y : DataW H × List MemPlace} (h : DataW.trod enc Try.prog w base spare held n 3 [c] = some y) : ∃ k : Int, c = .int .i64 k := by
  obtain ⟨k, hc, _⟩ := DataW.trod_int Try.underlying3 h
  simp only [List.cons.injEq, and_true] at hc
  exact ⟨k, hc⟩
theorem tr_u64 {n : Nat} {c : Value} {y : DataW H × List MemPlace} (h : DataW.trod enc Try.prog w base spare held n 26 [c] = some y) : ∃ k : Int, c = .int .u64 k ∧ 0 ≤ k ∧ k < 18446744073709551616 := by
  obtain ⟨k, hc, _, hw⟩ := DataW.trod_int Try.underlying26 h
  simp only [List.cons.injEq, and_true] at hc
  refine ⟨k, hc, ?_⟩
  simp [Lit.wf, IntKind.min, IntKind.max, IntKind.signed, IntKind.bits] at hw
  omega
theorem tr_str {n : Nat} {c : Value} {y : DataW H × List MemPlace} (h : DataW.trod enc Try.prog w base spare held n 9 [c] = some y) : ∃ s : Txt, c = .string ⟨s.toArray⟩ ∧ s.length ≤ 9223372036854775807 := by
  obtain ⟨s, hc, _, hw⟩ := DataW.trod_string Try.underlying9 h
  simp only [List.cons.injEq, and_true] at hc
  refine ⟨s.data.toList, hc, ?_⟩
  unfold maxLen at hw
  exact hw
theorem fld {fs : Array Field} {n : Nat} {cs : List Value} {xs : List (DataW H × List MemPlace)} (hlen : xs.length = fs.size)
    (hg : ∀ (i : Nat) (f : Field), fs[i]? = some f → DataW.trod enc Try.prog w base spare held n f.type ((cs.drop f.offset).take (Try.prog.cellsOf f.type)) = xs[i]?) (i : Nat) (T : TypeId) (off : Nat) (hf : (fs[i]?).map (fun f => (f.type, f.offset)) = some (T, off)) :
    ∃ y, xs[i]? = some y ∧ DataW.trod enc Try.prog w base spare held n T ((cs.drop off).take (Try.prog.cellsOf T)) = some y := by
  obtain ⟨f, hf1, hf2⟩ := Option.map_eq_some_iff.1 hf
  simp only [Prod.mk.injEq] at hf2
  obtain ⟨rfl, rfl⟩ := hf2
  have hi : i < xs.length := by
    rw [hlen]
    exact (Array.getElem?_eq_some_iff.1 hf1).1
  exact ⟨xs[i], List.getElem?_eq_getElem hi, (hg i f hf1).trans (List.getElem?_eq_getElem hi)⟩
set_option maxRecDepth 100000 in
theorem tr_root {n : Nat} {cs : List Value} {y : DataW H × List MemPlace} (h : DataW.trod enc Try.prog w base spare held n 28 cs = some y) : ∃ r : Sp.Root, cs = rootV r := by
  obtain ⟨xs, m, _, _, hl, hlen, hg⟩ := DataW.trod_struct Try.underlying28 h
  rw [cellsRoot] at hl
  match cs, hl with
  | [c0, c1, c2], _ =>
    obtain ⟨_, _, g0⟩ := fld hlen hg 0 3 0 rfl
    obtain ⟨_, _, g1⟩ := fld hlen hg 1 3 1 rfl
    obtain ⟨_, _, g2⟩ := fld hlen hg 2 3 2 rfl
    simp only [cellsInt, List.drop_zero, List.drop_succ_cons, List.take_succ_cons, List.take_zero] at g0 g1 g2
    obtain ⟨a, rfl⟩ := tr_int g0
    obtain ⟨b, rfl⟩ := tr_int g1
    obtain ⟨c, rfl⟩ := tr_int g2
    exact ⟨⟨a, b, c⟩, rfl⟩
set_option maxRecDepth 100000 in
theorem tr_meta {n : Nat} {cs : List Value} {y : DataW H × List MemPlace} (h : DataW.trod enc Try.prog w base spare held n 30 cs = some y) : ∃ m : Sp.Mt, cs = mtV m ∧ 0 ≤ m.txn ∧ m.txn < 18446744073709551616 := by
  obtain ⟨xs, k, _, _, hl, hlen, hg⟩ := DataW.trod_struct Try.underlying30 h
  rw [cellsMeta] at hl
  match cs, hl with
  | [c0, c1, c2, c3, c4, c5], _ =>
    obtain ⟨_, _, g0⟩ := fld hlen hg 0 26 0 rfl
    obtain ⟨_, _, g1⟩ := fld hlen hg 1 28 1 rfl
    obtain ⟨_, _, g2⟩ := fld hlen hg 2 3 4 rfl
    obtain ⟨_, _, g3⟩ := fld hlen hg 3 3 5 rfl
    simp only [cellsInt, cellsU64, cellsRoot, List.drop_zero, List.drop_succ_cons, List.take_succ_cons, List.take_zero] at g0 g1 g2 g3
    obtain ⟨a, rfl, ha⟩ := tr_u64 g0
    obtain ⟨r, hr⟩ := tr_root g1
    obtain ⟨b, rfl⟩ := tr_int g2
    obtain ⟨c, rfl⟩ := tr_int g3
    simp only [rootV, List.cons.injEq, and_true] at hr
    obtain ⟨rfl, rfl, rfl⟩ := hr
    exact ⟨⟨a, r, b, c⟩, rfl, ha⟩
set_option maxRecDepth 100000 in
theorem tr_item {n : Nat} {cs : List Value} {y : DataW H × List MemPlace} (h : DataW.trod enc Try.prog w base spare held n 51 cs = some y) : ∃ x V c, cs = itemV x V c ∧ Txts w NoM V x.vals := by
  obtain ⟨xs, k, _, _, hl, hlen, hg⟩ := DataW.trod_struct Try.underlying51 h
  rw [cellsItem] at hl
  match cs, hl with
  | [c0, c1, c2, c3, c4, c5, c6, c7, c8, c9], _ =>
    obtain ⟨_, _, g0⟩ := fld hlen hg 0 9 0 rfl
    obtain ⟨_, _, g1⟩ := fld hlen hg 1 3 1 rfl
    obtain ⟨_, _, g2⟩ := fld hlen hg 2 9 2 rfl
    obtain ⟨_, _, g3⟩ := fld hlen hg 3 3 3 rfl
    obtain ⟨_, _, g4⟩ := fld hlen hg 4 3 4 rfl
    obtain ⟨_, _, g5⟩ := fld hlen hg 5 23 5 rfl
    obtain ⟨_, _, g6⟩ := fld hlen hg 6 3 6 rfl
    obtain ⟨_, _, g7⟩ := fld hlen hg 7 28 7 rfl
    simp only [cellsInt, cellsStr, cellsStrs, cellsRoot, List.drop_zero, List.drop_succ_cons, List.take_succ_cons, List.take_zero] at g0 g1 g2 g3 g4 g5 g6 g7
    obtain ⟨a0, rfl, _⟩ := tr_str g0
    obtain ⟨a1, rfl⟩ := tr_int g1
    obtain ⟨a2, rfl, _⟩ := tr_str g2
    obtain ⟨a3, rfl⟩ := tr_int g3
    obtain ⟨a4, rfl⟩ := tr_int g4
    obtain ⟨V, l, cap, rfl, hv⟩ := tr_txts g5
    obtain ⟨a6, rfl⟩ := tr_int g6
    obtain ⟨r, hr⟩ := tr_root g7
    simp only [rootV, List.cons.injEq, and_true] at hr
    obtain ⟨rfl, rfl, rfl⟩ := hr
    exact ⟨⟨a0, a1, a2, a3, a4, l, a6, r⟩, V, cap, rfl, hv⟩
set_option maxRecDepth 100000 in
theorem tr_free {n : Nat} {cs : List Value} {y : DataW H × List MemPlace} (h : DataW.trod enc Try.prog w base spare held n 57 cs = some y) : ∃ (f : Sp.Free) (V : Option Addr) (c : Nat), cs = [.int .u64 f.txn, .slice V f.ids.length c] ∧ Ints w NoM V f.ids ∧ 0 ≤ f.txn ∧ f.txn < 18446744073709551616 := by
  obtain ⟨xs, k, _, _, hl, hlen, hg⟩ := DataW.trod_struct Try.underlying57 h
  rw [cellsFree] at hl
  match cs, hl with
  | [c0, c1], _ =>
    obtain ⟨_, _, g0⟩ := fld hlen hg 0 26 0 rfl
    obtain ⟨_, _, g1⟩ := fld hlen hg 1 24 1 rfl
    simp only [cellsU64, cellsInts, List.drop_zero, List.drop_succ_cons, List.take_succ_cons, List.take_zero] at g0 g1
    obtain ⟨a0, rfl, ha⟩ := tr_u64 g0
    obtain ⟨V, l, cap, rfl, hv⟩ := tr_ints g1
    exact ⟨⟨a0, l⟩, V, cap, rfl, hv, ha⟩
theorem cells_at {a : Addr} {n : Nat} {cs : List Value} (h : w.cells? base a n = some cs) : ∀ j u, cs[j]? = some u → w.cell? (a.add j) = some u := fun j u hu => by
  obtain ⟨_, hl, hc⟩ := World.cells?_some h
  have hj : j < n := by
    rw [← hl]
    exact (List.getElem?_eq_some_iff.1 hu).1
  exact (hc j hj).trans hu
theorem getD_map {α : Type} (F : Nat → α) (d : α) {n k : Nat} (h : k < n) : ((List.range n).map F).getD k d = F k := by
  simp [List.getD, h]
theorem tr_items {n : Nat} {c : Value} {y : DataW H × List MemPlace} (h : DataW.trod enc Try.prog w base spare held n 22 [c] = some y) : ∃ A l cap, c = .slice A (List.length l) cap ∧ (List.length l ≤ 288230376151711744 → Items w NoM A l) ∧ (l = [] ∨ ∃ es sp, y.1 = .slice es sp ∧ es.length = List.length l) := by
  rcases open_slice Try.underlying22 h with ⟨hc, _⟩ | ⟨a, len, cap, m, n', D, Pl, hc, _, hl, hm, hmm, hx, hi⟩
  · simp only [List.cons.injEq, and_true] at hc
    exact ⟨none, [], 0, hc, fun _ => Items.nil_, .inl rfl⟩
  · simp only [List.cons.injEq, and_true] at hc
    have hle : len ≤ m := by rw [hmm]; split <;> omega
    have hex : ∀ i : Nat, ∃ x : Sp.Item, i < m → ∃ V c, (∀ j u, (itemV x V c)[j]? = some u → w.cell? (a.add (i * 10 + j)) = some u) ∧ Txts w NoM V x.vals := fun i => by
      by_cases him : i < m
      · obtain ⟨cs', hcs, ht⟩ := hi i him
        rw [cellsItem] at hcs
        obtain ⟨x, V, c', rfl, hv⟩ := tr_item ht
        refine ⟨x, fun _ => ⟨V, c', fun j u hu => ?_, hv⟩⟩
        rw [← Go.Deep.add_add]
        exact cells_at hcs j u hu
      · exact ⟨Sp.item0, fun h => absurd h him⟩
    obtain ⟨F, hF⟩ := Classical.axiomOfChoice hex
    refine ⟨some a, (List.range len).map F, cap, by rw [hc]; simp, fun hb => ⟨hb, ?_⟩, .inr ⟨_, _, congrArg Prod.fst hx, by simp⟩⟩
    rcases Nat.eq_zero_or_pos len with h0 | h0
    · left; rw [h0]; rfl
    · right
      obtain ⟨V, c', hcell, _⟩ := hF 0 (by omega)
      obtain ⟨b, off, rfl, hbl⟩ := addr_of (hcell 0 _ rfl)
      refine ⟨b, off, rfl, hbl, id, fun k hk => ?_⟩
      rw [List.length_map, List.length_range] at hk
      rw [getD_map F _ hk]
      obtain ⟨V, c', hcell, ht⟩ := hF k (by omega)
      have hc2 : ∀ j u, (itemV (F k) V c')[j]? = some u → w.cell? ⟨b, off + k * 10 + j, none⟩ = some u := fun j u hu => by
        have := hcell j u hu
        rw [Go.WideShapes.add_plain, ← Nat.add_assoc] at this
        exact this
      exact ⟨V, c', ⟨hc2 0 _ rfl, hc2 1 _ rfl, hc2 2 _ rfl, hc2 3 _ rfl, hc2 4 _ rfl, hc2 5 _ rfl, hc2 6 _ rfl, hc2 7 _ rfl, hc2 8 _ rfl, hc2 9 _ rfl⟩, ht⟩
theorem tr_frees {n : Nat} {c : Value} {y : DataW H × List MemPlace} (h : DataW.trod enc Try.prog w base spare held n 25 [c] = some y) : ∃ A l cap, c = .slice A (List.length l) cap ∧ (List.length l ≤ 1152921504606846 → Frees w NoM A l) ∧ (l = [] ∨ ∃ es sp, y.1 = .slice es sp ∧ es.length = List.length l) := by
  rcases open_slice Try.underlying25 h with ⟨hc, _⟩ | ⟨a, len, cap, m, n', D, Pl, hc, _, hl, hm, hmm, hx, hi⟩
  · simp only [List.cons.injEq, and_true] at hc
    exact ⟨none, [], 0, hc, fun _ => Frees.nil_, .inl rfl⟩
  · simp only [List.cons.injEq, and_true] at hc
    have hle : len ≤ m := by rw [hmm]; split <;> omega
    have hex : ∀ i : Nat, ∃ x : Sp.Free, i < m → ∃ (V : Option Addr) (c : Nat), (∀ j u, ([.int .u64 x.txn, .slice V x.ids.length c] : List Value)[j]? = some u → w.cell? (a.add (i * 2 + j)) = some u) ∧ Ints w NoM V x.ids ∧ 0 ≤ x.txn ∧ x.txn < 18446744073709551616 := fun i => by
      by_cases him : i < m
      · obtain ⟨cs', hcs, ht⟩ := hi i him
        rw [cellsFree] at hcs
        obtain ⟨x, V, c', rfl, hv, hr⟩ := tr_free ht
        refine ⟨x, fun _ => ⟨V, c', fun j u hu => ?_, hv, hr⟩⟩
        rw [← Go.Deep.add_add]
        exact cells_at hcs j u hu
      · exact ⟨Sp.free0, fun h => absurd h him⟩
    obtain ⟨F, hF⟩ := Classical.axiomOfChoice hex
    refine ⟨some a, (List.range len).map F, cap, by rw [hc]; simp, fun hb => ⟨hb, ?_⟩, .inr ⟨_, _, congrArg Prod.fst hx, by simp⟩⟩
    rcases Nat.eq_zero_or_pos len with h0 | h0
    · left; rw [h0]; rfl
    · right
      obtain ⟨V, c', hcell, _⟩ := hF 0 (by omega)
      obtain ⟨b, off, rfl, hbl⟩ := addr_of (hcell 0 _ rfl)
      refine ⟨b, off, rfl, hbl, id, fun k hk => ?_⟩
      rw [List.length_map, List.length_range] at hk
      rw [getD_map F _ hk]
      obtain ⟨V, c', hcell, ht, hr⟩ := hF k (by omega)
      have hc2 : ∀ j u, ([.int .u64 (F k).txn, .slice V (F k).ids.length c'] : List Value)[j]? = some u → w.cell? ⟨b, off + k * 2 + j, none⟩ = some u := fun j u hu => by
        have := hcell j u hu
        rw [Go.WideShapes.add_plain, ← Nat.add_assoc] at this
        exact this
      exact ⟨V, c', ⟨hc2 0 _ rfl, hc2 1 _ rfl⟩, ht, hr⟩
set_option maxRecDepth 100000 in
theorem open_page {r : Reach} {b0 : Nat} {v : Value} {d : DataW H} {ps : List MemPlace} (hv : Value.okWide Try.prog w r b0 32 v) (h : DataW.Trod enc Try.prog w base spare held 32 v d ps)
    (hwt : ∀ n ∈ d.weights Try.prog 32, n ≤ reachBytes) : ∃ p rf, v = .agg (pageV p rf).toArray ∧ PageRd w NoM p rf := by
  obtain ⟨cs, rfl, hsz⟩ := okWide_struct Try.underlying32 hv
  obtain ⟨fuel, hf⟩ := h
  obtain ⟨xs, k, _, hx, hl, hlen, hg⟩ := DataW.trod_struct Try.underlying32 hf
  rw [cellsPage] at hl
  obtain ⟨l⟩ := cs
  simp only [Value.cells] at hl hg hf
  match l, hl with
  | [c0, c1, c2, c3, c4, c5, c6, c7, c8, c9, c10, c11, c12, c13], _ =>
    obtain ⟨_, _, g0⟩ := fld hlen hg 0 3 0 rfl
    obtain ⟨y1, e1, g1⟩ := fld hlen hg 1 22 1 rfl
    obtain ⟨_, _, g2⟩ := fld hlen hg 2 23 2 rfl
    obtain ⟨_, _, g3⟩ := fld hlen hg 3 24 3 rfl
    obtain ⟨_, _, g4⟩ := fld hlen hg 4 9 4 rfl
    obtain ⟨_, _, g5⟩ := fld hlen hg 5 23 5 rfl
    obtain ⟨y6, e6, g6⟩ := fld hlen hg 6 25 6 rfl
    obtain ⟨_, _, g7⟩ := fld hlen hg 7 3 7 rfl
    obtain ⟨_, _, g8⟩ := fld hlen hg 8 30 8 rfl
    simp only [cellsInt, cellsStr, cellsStrs, cellsInts, cellsItems, cellsFrees, cellsMeta, List.drop_zero, List.drop_succ_cons, List.take_succ_cons, List.take_zero] at g0 g1 g2 g3 g4 g5 g6 g7 g8
    obtain ⟨a0, rfl⟩ := tr_int g0
    obtain ⟨I, li, ci, rfl, hI, hI2⟩ := tr_items g1
    obtain ⟨K, lk, ck, rfl, hK⟩ := tr_txts g2
    obtain ⟨D, ld, cd, rfl, hD⟩ := tr_ints g3
    obtain ⟨a4, rfl, _⟩ := tr_str g4
    obtain ⟨V, lv, cv, rfl, hV⟩ := tr_txts g5
    obtain ⟨F, lf, cf, rfl, hF, hF2⟩ := tr_frees g6
    obtain ⟨a7, rfl⟩ := tr_int g7
    obtain ⟨m, hm, hmt⟩ := tr_meta g8
    simp only [mtV, List.cons.injEq, and_true] at hm
    obtain ⟨rfl, rfl, rfl, rfl, rfl, rfl⟩ := hm
    have hw : ∀ (i : Nat) (t : TypeId) (y : DataW H × List MemPlace) (es sp : List (DataW H)) (e : TypeId), xs[i]? = some y → y.1 = .slice es sp → ([3, 22, 23, 24, 9, 23, 25, 3, 30] : List TypeId)[i]? = some t → Try.prog.underlying t = some (.slice e) → (es.length + sp.length) * Try.prog.bytesOf e ≤ reachBytes := by
      intro i t y es sp e hy hes hti hu
      refine hwt _ ?_
      have hd : d = .agg (xs.map (·.1)) := congrArg Prod.fst hx
      rw [hd]
      simp only [DataW.weights, Try.underlying32]
      refine DataW.weights_mem_each (j := i) (t := t) (d := .slice es sp) hti (by rw [List.getElem?_map, hy, ← hes]; rfl) _ ?_
      simp [DataW.weights, hu]
    refine ⟨⟨a0, li, lk, ld, a4, lv, lf, a7, m⟩, ⟨I, K, D, V, F, ci, ck, cd, cv, cf⟩, rfl, hI ?_, hK, hD, hV, hF ?_, hmt⟩
    · rcases hI2 with rfl | ⟨es, sp, he, hel⟩
      · simp
      · have := hw 1 _ _ es sp _ e1 he rfl Try.underlying22
        rw [bytesItem] at this
        unfold reachBytes at this
        omega
    · rcases hF2 with rfl | ⟨es, sp, he, hel⟩
      · simp
      · have := hw 6 _ _ es sp _ e6 he rfl Try.underlying25
        rw [bytesFree] at this
        unfold reachBytes at this
        omega
end
end Go.Proofs.Ytienlhckcpfknaa
