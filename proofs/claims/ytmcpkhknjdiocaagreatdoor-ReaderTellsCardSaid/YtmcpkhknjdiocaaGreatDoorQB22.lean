/- The document's pages read: the plain law. The document's pages read: what is written is read. The document's Read is the program's Read: the plain law. The document's pages read: kind 1. -/
import Derived.Test.YtmcpkhknjdiocaaGreatDoorQB09
import Derived.Test.YtmcpkhknjdiocaaGreatDoorQB11
import Derived.Test.YtmcpkhknjdiocaaGreatDoorQB21
set_option linter.unusedSimpArgs false
set_option linter.unusedVariables false
namespace Go.Proofs.YtmcpkhknjdiocaaGreatDoor
open Go.RowKit
attribute [local go_sem low] mk_extract
attribute [local go_sem] After.cell After.frozen mk_extract_end ByteArray.mk_append_mk
namespace Sp
def ditemStep (l : List Item) (c : Cut) : List Item × Cut := (l ++ [c.ditem.1], c.ditem.2)
def dkeyStep (l : List Txt × List Int) (c : Cut) : (List Txt × List Int) × Cut := ((l.1 ++ [c.text.1], l.2 ++ [(Cut.int 400 c.text.2).1]), (Cut.int 400 c.text.2).2)
def Cut.ditems (c : Cut) : List Item × Cut := eachN ditemStep (Cut.int 4 c).1.toNat ([], (Cut.int 4 c).2)
def Cut.dkeys (c : Cut) : (List Txt × List Int) × Cut := eachN dkeyStep (Cut.int 4 c).1.toNat (([], []), (Cut.int 4 c).2)
def Cut.dmt (c : Cut) : Mt × Cut := (⟨c.u64.1, c.u64.2.droot.1, (Cut.int 400 c.u64.2.droot.2).1, (Cut.int 400 (Cut.int 400 c.u64.2.droot.2).2).1⟩, (Cut.int 400 (Cut.int 400 c.u64.2.droot.2).2).2)
def Cut.dpage (c : Cut) : Page × Cut :=
  if (Cut.int 6 c).1 = 1 then (⟨(Cut.int 6 c).1, (Cut.int 6 c).2.ditems.1, [], [], [], [], [], 0, mt0⟩, (Cut.int 6 c).2.ditems.2)
  else if (Cut.int 6 c).1 = 2 then (⟨(Cut.int 6 c).1, [], (Cut.int 6 c).2.dkeys.1.1, (Cut.int 6 c).2.dkeys.1.2, [], [], [], 0, mt0⟩, (Cut.int 6 c).2.dkeys.2)
  else if (Cut.int 6 c).1 = 3 then (⟨(Cut.int 6 c).1, [], [], [], (Cut.int 6 c).2.text.1, [], [], 0, mt0⟩, (Cut.int 6 c).2.text.2)
  else if (Cut.int 6 c).1 = 4 then (⟨(Cut.int 6 c).1, [], [], [], [], (Cut.dtexts 12 (Cut.int 6 c).2).1, [], 0, mt0⟩, (Cut.dtexts 12 (Cut.int 6 c).2).2)
  else if (Cut.int 6 c).1 = 5 then (⟨(Cut.int 6 c).1, [], [], [], [], [], (Cut.int 6 c).2.dfrees.1, (Cut.int 400 (Cut.int 6 c).2.dfrees.2).1, mt0⟩, (Cut.int 400 (Cut.int 6 c).2.dfrees.2).2)
  else if (Cut.int 6 c).1 = 6 then (⟨(Cut.int 6 c).1, [], [], [], [], [], [], 0, (Cut.int 6 c).2.dmt.1⟩, (Cut.int 6 c).2.dmt.2)
  else (⟨(Cut.int 6 c).1, [], [], [], [], [], [], 0, mt0⟩, (Cut.int 6 c).2)
end Sp
theorem FrCells.lessF {w : World} {b0 b1 : Nat} (hb : b1 ≤ b0) : ∀ {l : List Sp.Free} {xs : List Value}, FrCells w b0 l xs → FrCells w b1 l xs
  | [], _, h => h
  | _ :: _, _, ⟨V, c, ys, e, ht, hr, h⟩ => ⟨V, c, ys, e, ht.less hb, hr, h.lessF hb⟩
theorem ItCells.lessF {w : World} {b0 b1 : Nat} (hb : b1 ≤ b0) : ∀ {l : List Sp.Item} {xs : List Value}, ItCells w b0 l xs → ItCells w b1 l xs
  | [], _, h => h
  | _ :: _, _, ⟨V, c, ys, e, ht, h⟩ => ⟨V, c, ys, e, ht.less hb, h.lessF hb⟩
def DPageOut (g : Nat) (c : Sp.Cut) (w : World) (e : Ending) (w' : World) : Prop :=
  ∃ r, e = .returned (.agg (pageV c.dpage.1 r).toArray) ∧ (∀ M : Nat → Prop, (∀ k, w.heap.size ≤ k → ¬ M k) → PageRd w' M c.dpage.1 r) ∧ DCut w' g c.dpage.2.s c.dpage.2.bad ∧ Chg (OneM g) w w'
theorem Row.behind {w W W' : World} {e t : TypeId} {A : Option Addr} {xs : List Value} {k : Nat} {cs zs : Array Value} (h : TRow W w.heap.size e A xs) (hb : Blk W k t cs) (hne : t ≠ e) : TRow (W.setRow k zs) w.heap.size e A xs :=
  h.keep1 (chg_setRow1 W k zs) hb hne
end Go.Proofs.YtmcpkhknjdiocaaGreatDoor
namespace Go.Proofs.YtmcpkhknjdiocaaGreatDoor
open Go.RowKit
attribute [local go_sem low] mk_extract
attribute [local go_sem] After.cell After.frozen mk_extract_end ByteArray.mk_append_mk
namespace Sp
theorem reads_int {most n : Int} (h0 : 0 ≤ n) (h1 : n ≤ most ∧ n ≤ 1073741824) : Reads (Cut.int most) (le8 n) n := fun t => by
  unfold Cut.int
  rw [reads_u64 h0 (by omega), if_neg (by dsimp only; omega)]
theorem reads_dtexts {most : Int} {l : List Txt} (hl : l.length ≤ 1000 ∧ (l.length : Int) ≤ most) (h : ∀ s, s ∈ l → s.length ≤ 65535) : Reads (Cut.dtexts most) (valsB l) l := fun t => by
  unfold Cut.dtexts valsB
  rw [List.append_assoc, reads_int (n := l.length) (by omega) (by omega) _]
  refine eachN_all (fun x hx acc t => ?_) t (by simp)
  unfold textStep
  rw [reads_text (h x hx)]
theorem reads_dnums {l : List Int} (hl : l.length ≤ 20) (h : ∀ n, n ∈ l → 0 ≤ n ∧ n ≤ 400) : Reads Cut.dnums (le8 l.length ++ numsB l) l := fun t => by
  unfold Cut.dnums numsB
  rw [List.append_assoc, reads_int (n := l.length) (by omega) (by omega) _]
  refine eachN_all (fun x hx acc t => ?_) t (by simp)
  unfold dnumStep
  rw [reads_int (h x hx).1 (by have := h x hx; omega)]
theorem reads_droot {r : Root} (h : isRoot r = true) : Reads Cut.droot (rootB r) r := fun t => by
  have hr := isRoot_rng h
  unfold Cut.droot rootB
  simp only [List.append_assoc]
  rw [reads_int (by omega) (by omega), reads_int (by omega) (by omega), reads_int (by omega) (by omega)]
theorem reads_dfree {f : Free} (ht : 0 ≤ f.txn ∧ f.txn < 18446744073709551616) (hl : f.ids.length ≤ 20) (h : ∀ n, n ∈ f.ids → 0 ≤ n ∧ n ≤ 400) : Reads Cut.dfree (freeB f) f := fun t => by
  unfold Cut.dfree freeB
  have e : le8 f.txn ++ le8 f.ids.length ++ numsB f.ids ++ t = le8 f.txn ++ ((le8 f.ids.length ++ numsB f.ids) ++ t) := by simp only [List.append_assoc]
  rw [e, reads_u64 ht.1 ht.2]
  dsimp only
  rw [reads_dnums hl h]
theorem reads_ditem {x : Item} (h : isItem x = true) : Reads Cut.ditem (itemB x) x := fun t => by
  have hr := isItem_rng h
  have hv := isItem_val h
  have ho := own_eq h
  unfold Cut.ditem itemB
  simp only [List.append_assoc]
  rw [reads_text (by omega)]
  dsimp only
  rw [reads_int (by omega) (by omega)]
  dsimp only
  by_cases h1 : x.kind = 1
  · rw [if_pos h1, if_pos h1, reads_text (by omega)]
    rw [own, if_pos h1] at ho
    rw [← ho]
  · rw [if_neg h1, if_neg h1]
    by_cases h2 : x.kind = 2
    · rw [if_pos h2, if_pos h2]
      simp only [List.append_assoc]
      rw [reads_int (by omega) (by omega)]
      dsimp only
      rw [reads_int (by omega) (by omega)]
      rw [own, if_neg h1, if_pos h2] at ho
      rw [← ho]
    · rw [if_neg h2, if_neg h2]
      by_cases h3 : x.kind = 3
      · rw [if_pos h3, if_pos h3]
        simp only [List.append_assoc]
        rw [reads_dtexts (by omega) hv.2.2.1]
        dsimp only
        rw [reads_int (by omega) (by omega)]
        rw [own, if_neg h1, if_neg h2, if_pos h3] at ho
        rw [← ho]
      · have h4 : x.kind = 4 := by omega
        rw [if_neg h3, if_neg h3, if_pos h4, reads_droot hr.2.2.2.2.2.2.2.2.2]
        rw [own, if_neg h1, if_neg h2, if_neg h3, if_pos h4] at ho
        rw [← ho]
theorem reads_ditems {l : List Item} (h : isLeaf l = true) : Reads Cut.ditems (le8 l.length ++ itemsB l) l := fun t => by
  have hl := isLeaf_mem h
  unfold Cut.ditems itemsB
  rw [List.append_assoc, reads_int (n := l.length) (by omega) (by omega) _]
  refine eachN_all (fun x hx acc t => ?_) t (by simp)
  unfold ditemStep
  rw [reads_ditem (hl.2 x hx)]
theorem eachN_dpairs {keys : List Txt} {kids : List Int} (hk : ∀ i, i < kids.length → (keys.getD i []).length ≤ 65535 ∧ 0 ≤ kids.getD i 0 ∧ kids.getD i 0 ≤ 400) (hl : keys.length = kids.length) (t : Txt) :
    ∀ k, k ≤ kids.length → eachN dkeyStep k (([], []), ⟨kidsTo keys kids kids.length ++ t, false⟩) = ((keys.take k, kids.take k), ⟨(((List.range kids.length).drop k).map (kidB keys kids)).flatten ++ t, false⟩)
  | 0, _ => by simp [eachN, kidsTo]
  | k + 1, hk1 => by
    have ih := eachN_dpairs hk hl t k (by omega)
    rw [eachN_succ _ _ _ (by rw [ih]), ih]
    have hd : (List.range kids.length).drop k = k :: (List.range kids.length).drop (k + 1) := by
      rw [List.drop_eq_getElem_cons (by simp; omega)]
      simp
    have hk2 := hk k (by omega)
    rw [hd, List.map_cons, List.flatten_cons, kidB]
    simp only [List.append_assoc]
    unfold dkeyStep
    dsimp only
    rw [reads_text hk2.1]
    dsimp only
    rw [reads_int hk2.2.1 (by omega), List.take_succ_eq_append_getElem (by omega), List.take_succ_eq_append_getElem (by omega)]
    simp [List.getD, show k < kids.length by omega, show k < keys.length by omega]
theorem reads_dkeys {p : Page} (h : isBranch p = true) : Reads Cut.dkeys (le8 p.kids.length ++ kidsTo p.keys p.kids p.kids.length) (p.keys, p.kids) := fun t => by
  have hl := isBranch_all h
  unfold Cut.dkeys
  rw [List.append_assoc, reads_int (n := p.kids.length) (by omega) (by omega) _]
  dsimp only
  rw [Int.toNat_natCast, eachN_dpairs (fun i hi => by have := hl.2.2 i hi; omega) hl.2.1 t _ (Nat.le_refl _)]
  have e0 : (List.range p.kids.length).drop p.kids.length = [] := by simp
  rw [e0, List.take_of_length_le (by omega), List.take_of_length_le (by omega)]
  rfl
theorem reads_dfrees {p : Page} (h : isFree p = true) (hr : Rng p) : Reads Cut.dfrees (le8 p.free.length ++ freesB p.free) p.free := fun t => by
  have hl := isFree_mem h
  unfold Cut.dfrees freesB
  rw [List.append_assoc, reads_int (n := p.free.length) (by omega) (by omega) _]
  refine eachN_all (fun x hx acc t => ?_) t (by simp)
  unfold dfreeStep
  have hx2 := hl.2.2.2 x hx
  rw [reads_dfree (hr.1 x hx) (by omega) fun n hn => by have := isIDs_mem hx2.2 n hn; omega]
theorem reads_dmt {m : Mt} (h : isMt m = true) (hr : 0 ≤ m.txn ∧ m.txn < 18446744073709551616) : Reads Cut.dmt (mtB m) m := fun t => by
  have hm := isMt_rng2 h
  unfold Cut.dmt mtB
  simp only [List.append_assoc]
  rw [reads_u64 hr.1 hr.2]
  dsimp only
  rw [reads_droot hm.1]
  dsimp only
  rw [reads_int (by omega) (by omega)]
  dsimp only
  rw [reads_int (by omega) (by omega)]
theorem reads_dpage {p : Page} (h : isPage p = true) (hr : Rng p) : Reads Cut.dpage (body p) p := fun t => by
  unfold Cut.dpage body partsB
  simp only [List.append_assoc]
  unfold isPage at h
  by_cases h1 : p.kind = 1
  · rw [if_pos h1, Bool.and_eq_true, decide_eq_true_eq] at h
    obtain ⟨hi, hk, ht, hv, hf, hn, hm⟩ := has_iff h.1
    simp only [Bool.or_eq_false_iff] at hk
    rw [reads_int (by omega) (by omega)]
    dsimp only
    rw [if_pos h1, if_pos h1, reads_ditems h.2]
    have e := (⟨no_of hk.1, no_of hk.2, no_of ht, no_of hv, no_of hf, no_of hn, no_of hm⟩ : p.keys = [] ∧ p.kids = [] ∧ p.text = [] ∧ p.vals = [] ∧ p.free = [] ∧ p.next = 0 ∧ p.mt = mt0)
    obtain ⟨kind, items, keys, kids, text, vals, free, next, mt⟩ := p
    simp only at e ⊢
    obtain ⟨rfl, rfl, rfl, rfl, rfl, rfl, rfl⟩ := e
    rfl
  rw [if_neg h1] at h
  by_cases h2 : p.kind = 2
  · rw [if_pos h2, Bool.and_eq_true, decide_eq_true_eq] at h
    obtain ⟨hi, hk, ht, hv, hf, hn, hm⟩ := has_iff h.1
    rw [reads_int (by omega) (by omega)]
    dsimp only
    rw [if_neg h1, if_pos h2, if_neg h1, if_pos h2, reads_dkeys h.2]
    have e := (⟨no_of hi, no_of ht, no_of hv, no_of hf, no_of hn, no_of hm⟩ : p.items = [] ∧ p.text = [] ∧ p.vals = [] ∧ p.free = [] ∧ p.next = 0 ∧ p.mt = mt0)
    obtain ⟨kind, items, keys, kids, text, vals, free, next, mt⟩ := p
    simp only at e ⊢
    obtain ⟨rfl, rfl, rfl, rfl, rfl, rfl⟩ := e
    rfl
  rw [if_neg h2] at h
  by_cases h3 : p.kind = 3
  · rw [if_pos h3, Bool.and_eq_true, decide_eq_true_eq, decide_eq_true_eq] at h
    obtain ⟨hi, hk, ht, hv, hf, hn, hm⟩ := has_iff h.1
    simp only [Bool.or_eq_false_iff] at hk
    rw [reads_int (by omega) (by omega)]
    dsimp only
    rw [if_neg h1, if_neg h2, if_pos h3, if_neg h1, if_neg h2, if_pos h3, reads_text (by omega)]
    have e := (⟨no_of hi, no_of hk.1, no_of hk.2, no_of hv, no_of hf, no_of hn, no_of hm⟩ : p.items = [] ∧ p.keys = [] ∧ p.kids = [] ∧ p.vals = [] ∧ p.free = [] ∧ p.next = 0 ∧ p.mt = mt0)
    obtain ⟨kind, items, keys, kids, text, vals, free, next, mt⟩ := p
    simp only at e ⊢
    obtain ⟨rfl, rfl, rfl, rfl, rfl, rfl, rfl⟩ := e
    rfl
  rw [if_neg h3] at h
  by_cases h4 : p.kind = 4
  · rw [if_pos h4, Bool.and_eq_true, decide_eq_true_eq] at h
    obtain ⟨hi, hk, ht, hv, hf, hn, hm⟩ := has_iff h.1
    simp only [Bool.or_eq_false_iff] at hk
    rw [reads_int (by omega) (by omega)]
    dsimp only
    have hvl := isVals_len h.2
    rw [if_neg h1, if_neg h2, if_neg h3, if_pos h4, if_neg h1, if_neg h2, if_neg h3, if_pos h4, reads_dtexts (by omega) fun s hs => by have := isVals_mem h.2 s hs; omega]
    have e := (⟨no_of hi, no_of hk.1, no_of hk.2, no_of ht, no_of hf, no_of hn, no_of hm⟩ : p.items = [] ∧ p.keys = [] ∧ p.kids = [] ∧ p.text = [] ∧ p.free = [] ∧ p.next = 0 ∧ p.mt = mt0)
    obtain ⟨kind, items, keys, kids, text, vals, free, next, mt⟩ := p
    simp only at e ⊢
    obtain ⟨rfl, rfl, rfl, rfl, rfl, rfl, rfl⟩ := e
    rfl
  rw [if_neg h4] at h
  by_cases h5 : p.kind = 5
  · rw [if_pos h5, Bool.and_eq_true, decide_eq_true_eq] at h
    obtain ⟨hi, hk, ht, hv, hf, hn, hm⟩ := has_iff h.1
    simp only [Bool.or_eq_false_iff] at hk
    have hfm := isFree_mem h.2
    rw [reads_int (by omega) (by omega)]
    dsimp only
    rw [if_neg h1, if_neg h2, if_neg h3, if_neg h4, if_pos h5, if_neg h1, if_neg h2, if_neg h3, if_neg h4, if_pos h5]
    have e2 : ∀ u, le8 p.free.length ++ (freesB p.free ++ le8 p.next) ++ u = (le8 p.free.length ++ freesB p.free) ++ (le8 p.next ++ u) := fun u => by simp only [List.append_assoc]
    rw [e2, reads_dfrees h.2 hr]
    dsimp only
    rw [reads_int (by omega) (by omega)]
    have e := (⟨no_of hi, no_of hk.1, no_of hk.2, no_of ht, no_of hv, no_of hm⟩ : p.items = [] ∧ p.keys = [] ∧ p.kids = [] ∧ p.text = [] ∧ p.vals = [] ∧ p.mt = mt0)
    obtain ⟨kind, items, keys, kids, text, vals, free, next, mt⟩ := p
    simp only at e ⊢
    obtain ⟨rfl, rfl, rfl, rfl, rfl, rfl⟩ := e
    rfl
  rw [if_neg h5] at h
  by_cases h6 : p.kind = 6
  · rw [if_pos h6, Bool.and_eq_true, decide_eq_true_eq] at h
    obtain ⟨hi, hk, ht, hv, hf, hn, hm⟩ := has_iff h.1
    simp only [Bool.or_eq_false_iff] at hk
    rw [reads_int (by omega) (by omega)]
    dsimp only
    rw [if_neg h1, if_neg h2, if_neg h3, if_neg h4, if_neg h5, if_pos h6, if_neg h1, if_neg h2, if_neg h3, if_neg h4, if_neg h5, if_pos h6, reads_dmt h.2 hr.2]
    have e := (⟨no_of hi, no_of hk.1, no_of hk.2, no_of ht, no_of hv, no_of hf, no_of hn⟩ : p.items = [] ∧ p.keys = [] ∧ p.kids = [] ∧ p.text = [] ∧ p.vals = [] ∧ p.free = [] ∧ p.next = 0)
    obtain ⟨kind, items, keys, kids, text, vals, free, next, mt⟩ := p
    simp only at e ⊢
    obtain ⟨rfl, rfl, rfl, rfl, rfl, rfl, rfl⟩ := e
    rfl
  rw [if_neg h6] at h
  exact absurd h (by simp)
end Sp
end Go.Proofs.YtmcpkhknjdiocaaGreatDoor
namespace Go.Proofs.YtmcpkhknjdiocaaGreatDoor
open Go.RowKit
attribute [local go_sem low] mk_extract
attribute [local go_sem] After.cell After.frozen mk_extract_end ByteArray.mk_append_mk
namespace Sp
def dOk (s : Txt) : Bool :=
  !(Cut.u64 ⟨s, false⟩).2.bad && (decide ((Cut.u64 ⟨s, false⟩).1 = sum (Cut.u64 ⟨s, false⟩).2.s) && (!(Cut.u64 ⟨s, false⟩).2.dpage.2.bad && (decide ((Cut.u64 ⟨s, false⟩).2.dpage.2.s = []) && (isPage (Cut.u64 ⟨s, false⟩).2.dpage.1 && decide (bytes (Cut.u64 ⟨s, false⟩).2.dpage.1 = s)))))
theorem dfrees_rng (c : Cut) : ∀ f, f ∈ c.dfrees.1 → 0 ≤ f.txn ∧ f.txn < 18446744073709551616 := by
  unfold Cut.dfrees
  refine eachN_mem (P := fun f : Free => 0 ≤ f.txn ∧ f.txn < 18446744073709551616) (fun l c h x hx => ?_) _ (by simp) _
  unfold dfreeStep at hx
  simp only [List.mem_append, List.mem_singleton] at hx
  rcases hx with hx | rfl
  · exact h x hx
  · exact c.u64_rng
theorem dpage_rng (c : Cut) : Rng c.dpage.1 := by
  have h0 : 0 ≤ mt0.txn ∧ mt0.txn < 18446744073709551616 := by decide
  have hn : ∀ f : Free, f ∈ ([] : List Free) → 0 ≤ f.txn ∧ f.txn < 18446744073709551616 := by simp
  unfold Cut.dpage Rng
  by_cases h1 : (Cut.int 6 c).1 = 1
  · rw [if_pos h1]; exact ⟨hn, h0⟩
  rw [if_neg h1]
  by_cases h2 : (Cut.int 6 c).1 = 2
  · rw [if_pos h2]; exact ⟨hn, h0⟩
  rw [if_neg h2]
  by_cases h3 : (Cut.int 6 c).1 = 3
  · rw [if_pos h3]; exact ⟨hn, h0⟩
  rw [if_neg h3]
  by_cases h4 : (Cut.int 6 c).1 = 4
  · rw [if_pos h4]; exact ⟨hn, h0⟩
  rw [if_neg h4]
  by_cases h5 : (Cut.int 6 c).1 = 5
  · rw [if_pos h5]; exact ⟨dfrees_rng _, h0⟩
  rw [if_neg h5]
  by_cases h6 : (Cut.int 6 c).1 = 6
  · rw [if_pos h6]; exact ⟨hn, Cut.u64_rng _⟩
  rw [if_neg h6]
  exact ⟨hn, h0⟩
theorem dOk_def (s : Txt) : dOk s = (!(Cut.u64 ⟨s, false⟩).2.bad && (decide ((Cut.u64 ⟨s, false⟩).1 = sum (Cut.u64 ⟨s, false⟩).2.s) && (!(Cut.u64 ⟨s, false⟩).2.dpage.2.bad && (decide ((Cut.u64 ⟨s, false⟩).2.dpage.2.s = []) && (isPage (Cut.u64 ⟨s, false⟩).2.dpage.1 && decide (bytes (Cut.u64 ⟨s, false⟩).2.dpage.1 = s)))))) := rfl
theorem and6 {a b c d e' : Bool} {f : Prop} [Decidable f] (h : (a && (b && (c && (d && (e' && decide f))))) = true) : e' = true ∧ f := by
  simp only [Bool.and_eq_true, decide_eq_true_eq] at h
  exact ⟨h.2.2.2.2.1, h.2.2.2.2.2⟩
theorem dOk_iff {s : Txt} (h : dOk s = true) : readOk s = true ∧ (Cut.u64 ⟨s, false⟩).2.dpage.1 = parse s := by
  rw [dOk_def] at h
  obtain ⟨hp, hb⟩ := and6 h
  clear h
  have hr := dpage_rng (Cut.u64 ⟨s, false⟩).2
  revert hp hb hr
  generalize (Cut.u64 ⟨s, false⟩).2.dpage.1 = p
  intro hp hb hr
  refine ⟨?_, ?_⟩
  · rw [← hb]
    exact readOk_bytes hp hr
  · have := parse_bytes hp hr
    rw [hb] at this
    exact this.symm
theorem dOk_split (s : Txt) (u : Int) (c1 c2 : Cut) (p : Page) (h1 : Cut.u64 ⟨s, false⟩ = (u, c1)) (h2 : c1.dpage = (p, c2)) :
    dOk s = (!(c1.bad || decide (u ≠ sum c1.s)) && !(c2.bad || (decide (c2.s ≠ []) || (!isPage p || decide (bytes p ≠ s))))) := by
  rw [dOk_def, h1]
  dsimp only
  rw [h2]
  dsimp only
  generalize c1.bad = x1
  generalize c2.bad = x2
  generalize isPage p = x3
  by_cases h3 : u = sum c1.s <;> by_cases h4 : c2.s = [] <;> by_cases h5 : bytes p = s <;> simp only [h3, h4, h5, ne_eq, not_true, not_false_iff, decide_true, decide_false] <;> cases x1 <;> cases x2 <;> cases x3 <;> rfl
theorem u64_of {p : Page} (h : isPage p = true) : Cut.u64 ⟨bytes p, false⟩ = (sum (body p), ⟨body p, false⟩) := by
  rw [bytes_of h]
  exact reads_u64 (sum_range (body p)).1 (sum_range (body p)).2 (body p)
theorem dpage_of {p : Page} (h : isPage p = true) (hr : Rng p) : (⟨body p, false⟩ : Cut).dpage = (p, ⟨[], false⟩) := by
  have e2 := reads_dpage h hr []
  rw [List.append_nil] at e2
  exact e2
theorem dOk_bytes {p : Page} (h : isPage p = true) (hr : Rng p) : dOk (bytes p) = true := by
  rw [dOk_split (bytes p) (sum (body p)) ⟨body p, false⟩ ⟨[], false⟩ p (u64_of h) (dpage_of h hr)]
  generalize bytes p = b
  generalize hb : sum (body p) = u
  simp only [hb, h, ne_eq, not_true, decide_false, Bool.or_self, Bool.not_false, Bool.not_true, Bool.and_self]
theorem dOk_of {s : Txt} (h : readOk s = true) : dOk s = true := by
  have hp := readOk_page h
  have := dOk_bytes hp.1 (parse_rng s)
  rw [hp.2] at this
  exact this
theorem dOk_no {s : Txt} (h : dOk s = false) : readOk s = false := by
  rcases hb : readOk s with _ | _
  · rfl
  · rw [dOk_of hb] at h
    exact absurd h (by simp)
end Sp
end Go.Proofs.YtmcpkhknjdiocaaGreatDoor
namespace Go.Proofs.YtmcpkhknjdiocaaGreatDoor
open Go.RowKit
attribute [local go_sem low] mk_extract
attribute [local go_sem] After.cell After.frozen mk_extract_end ByteArray.mk_append_mk
/-- Items that are read, of a page in the making. -/
structure It1 (w : World) (g : Nat) (kd : Int) (b3 : Nat) (l : List Sp.Item) (c : Sp.Cut) (v : Value) (W : World) : Prop where
  m : MkS w g c PageT w.heap.size #[.int .i64 0, .slice none 0 0, .slice none 0 0, .slice none 0 0, .string ⟨#[]⟩, .slice none 0 0, .slice none 0 0, .int .i64 0, .int .u64 0, .int .i64 0, .int .i64 0, .int .i64 0, .int .i64 0, .int .i64 0] b3 #[.int .i64 kd, v, .slice none 0 0, .slice none 0 0, .string ⟨#[]⟩, .slice none 0 0, .slice none 0 0, .int .i64 0, .int .u64 0, .int .i64 0, .int .i64 0, .int .i64 0, .int .i64 0, .int .i64 0] W
  ex : ∃ xs, W.ownsRow (b3 + 1) ItemT 10 v l.length xs ∧ ItCells W w.heap.size l xs
set_option maxRecDepth 100000 in
set_option maxHeartbeats 6400000 in
theorem dPage1 (g : Nat) (c : Sp.Cut) (w : World) (hs : c.s.length ≤ 4611686018427387904) (hc : DCut w g c.s c.bad) (hk : (Sp.Cut.int 6 c).1 = 1) :
    Calls Tryz.prog 148 #[.pointer (some ⟨g, 0, none⟩)] w fun e w' => DPageOut g c w e w' := by
  have hgw := hc.lt
  have hsz0 : w.heap.size < w.heap.size + 1 := by omega
  have P := Lib.hid (show PreS w g c PageT w.heap.size #[.int .i64 0, .slice none 0 0, .slice none 0 0, .slice none 0 0, .string ⟨#[]⟩, .slice none 0 0, .slice none 0 0, .int .i64 0, .int .u64 0, .int .i64 0, .int .i64 0, .int .i64 0, .int .i64 0, .int .i64 0] (w.alloc (.cells #[.int .i64 0, .slice none 0 0, .slice none 0 0, .slice none 0 0, .string ⟨#[]⟩, .slice none 0 0, .slice none 0 0, .int .i64 0, .int .u64 0, .int .i64 0, .int .i64 0, .int .i64 0, .int .i64 0, .int .i64 0] PageT)) from ⟨Blk.alloc hc _, (Chg.refl _ _).alloc _, Blk.new _ _ _, Nat.le_refl _, hgw, hs⟩)
  clear hc hs
  have hkr := Sp.Cut.int_rng 6 (by omega) c
  have hmk : ∀ (x : Sp.Page) (d : Sp.Cut), c.dpage = (x, d) → ∀ (r : Refs) (e : Ending) (w' : World), e = .returned (.agg (pageV x r).toArray) → (∀ M : Nat → Prop, (∀ k, w.heap.size ≤ k → ¬ M k) → PageRd w' M x r) → DCut w' g d.s d.bad → Chg (OneM g) w w' → DPageOut g c w e w' := fun x d h r e w' he ht hd hk => by
    unfold DPageOut
    rw [h]
    exact ⟨r, he, ht, hd, hk⟩
  have HMK := Lib.hid hmk
  clear hmk
  have HDF := Lib.hid (show c.dpage = (⟨(Sp.Cut.int 6 c).1, (Sp.Cut.int 6 c).2.ditems.1, [], [], [], [], [], 0, Sp.mt0⟩, (Sp.Cut.int 6 c).2.ditems.2) by unfold Sp.Cut.dpage; rw [if_pos hk])
  have HIN := Lib.hid (fun w hs h => dInt_any 6 (by omega) (by omega) g c.s c.bad w hs h)
  have HIL := Lib.hid (Sp.Cut.int_len 6 c)
  rw [show (⟨c.s, c.bad⟩ : Sp.Cut) = c from rfl] at HIN
  generalize Sp.Cut.int 6 c = kdc at *
  obtain ⟨kd, c2⟩ := kdc
  dsimp only at *
  have e1 : (kd == 1) = true := beq_iff_eq.2 hk
  have HKR := Lib.hid hkr
  clear hk hkr
  go_enter Tryz.func148, Tryz.ntmps148
  go_upto_region 1 with fail
  go_cut [3] (fun s3 W => ∃ b3, s3 = .pointer (some ⟨b3, 0, none⟩) ∧ w.heap.size < b3 ∧ MkS w g c2 PageT w.heap.size #[.int .i64 0, .slice none 0 0, .slice none 0 0, .slice none 0 0, .string ⟨#[]⟩, .slice none 0 0, .slice none 0 0, .int .i64 0, .int .u64 0, .int .i64 0, .int .i64 0, .int .i64 0, .int .i64 0, .int .i64 0] b3 #[.int .i64 kd, .slice none 0 0, .slice none 0 0, .slice none 0 0, .string ⟨#[]⟩, .slice none 0 0, .slice none 0 0, .int .i64 0, .int .u64 0, .int .i64 0, .int .i64 0, .int .i64 0, .int .i64 0, .int .i64 0] W)
  case first =>
    go_wp2_with (first
      | (go_at_call 168; refine (HIN.out _ P.out.hl P.out.dc).mono ?_; rintro e w1 ⟨rfl, hc1, hk1⟩; replace P := Lib.hid (P.out.call (c' := c2) hc1 hk1 HIL.out); clear hc1 hk1)
      | (refine wpList_new PageT _ _ rfl rfl rfl rfl rfl rfl _ rfl (of_decide_eq_true (by kernel_rfl)) (by kernel_rfl) (by kernel_rfl) (by kernel_rfl) ?_))
    go_meet
    case rel => exact ⟨_, rfl, P.out.z2.lt, P.out.new _⟩
  case rest =>
    obtain ⟨b3, rfl, hb3, hm⟩ := hcut
    have S := Lib.hid hm
    clear hm P
    obtain ⟨W1, rfl⟩ : ∃ W, W = wc := ⟨_, rfl⟩
    have q0 := S.out.z3.cell 0
    simp at q0
    obtain ⟨i0, hi0, hz0, hz1, hz2⟩ := info_parts info_item
    have hr2 := Sp.Cut.int_rng 4 (by omega) c2
    have HD2 := Lib.hid (fun l d' (h : Sp.eachN Sp.ditemStep (Sp.Cut.int 4 c2).1.toNat ([], (Sp.Cut.int 4 c2).2) = (l, d')) => (show c2.ditems = (l, d') from h))
    have HIL2 := Lib.hid (Sp.Cut.int_len 4 c2)
    have HIN2 := Lib.hid (fun w hs h => dInt_any 4 (by omega) (by omega) g c2.s c2.bad w hs h)
    rw [show (⟨c2.s, c2.bad⟩ : Sp.Cut) = c2 from rfl] at HIN2
    generalize Sp.Cut.int 4 c2 = nd2 at *
    obtain ⟨n, d⟩ := nd2
    dsimp only at hr2 HIL2 HIN2 HD2
    obtain ⟨hn0, hn1⟩ := hr2
    go_upto_region 7 with (go_at_call 168; refine (HIN2.out _ S.out.p.hl S.out.p.dc).mono ?_; rintro e w1 ⟨rfl, hc1, hk1⟩; replace S := Lib.hid (S.out.call (c' := d) hc1 hk1 HIL2.out); have q0 := S.out.z3.cell 0; simp at q0; clear hc1 hk1)
    go_wp2_with fail
    go_loopw [5] (fun i wr => ∃ (k : Nat) (l : List Sp.Item) (c' : Sp.Cut) (v : Value), (k : Int) ≤ n ∧ i = .int .i64 k ∧ Hid (Sp.eachN Sp.ditemStep k ([], d) = (l, c') ∧ l.length ≤ k) ∧ It1 w g kd b3 l c' v wr) (fun i _ => (n - intOf i).toNat)
    case atStart => exact ⟨0, [], d, .slice none 0 0, hn0, rfl, ⟨rfl, Nat.le_refl _⟩, S.out, [], World.ownsRow_nil _ _ _ _, rfl⟩
    case round =>
      obtain ⟨k, l, c', v, hk, rfl, he, ht⟩ := hrel
      have T := Lib.hid ht
      have q1 := ht.m.p.dc.cell 1
      simp at q1
      have q3 := ht.m.z3.cell 1
      have f3 := ht.m.z3.frozen 1
      simp at q3
      have hbw := ht.m.z3.lt
      clear ht S q0
      by_cases hlt : (k : Int) < n
      · rcases hb : c'.bad with _ | _
        · rw [hb] at q1
          have HB := Lib.hid hb
          clear hb
          obtain ⟨xs, ho, hx⟩ := T.out.ex
          have OWN := Lib.hid ho
          have HX := Lib.hid hx
          clear ho hx
          have hLg : b3 ≠ g := by omega
          go_upto_region 10 with fail
          go_region_law (first
            | (go_simp; go_at_call 169; refine (dItem_any g c' _ T.out.m.p.hl ?_).mono ?_; exact Blk.drew T.out.m.p.dc; rintro e w5 ⟨V, cv, rfl, ht5, hc5, hk5⟩; have hk6 : Chg (OneM g) wr w5 := Chg.trans ((Chg.refl _ _).drew) hk5; have HT5 : Hid (TRow w5 w.heap.size StrT V (c'.ditem.1.vals.map tv)) := Lib.hid (ht5.less T.out.m.p.ck.size); clear ht5; have HL1 := Lib.hid (Blk.chg (S := OneM g) T.out.m.z3 hk6 hLg); have qL1 := HL1.out.cell 1; simp at qL1; have fqL1 := HL1.out.frozen 1; have hzw := hk6.size; have hLw1 := Nat.lt_of_lt_of_le hbw hzw; simp only [itemV])
            | (refine step_append_lies _ rfl (.tmp 37) (.tmp 40) _ rfl (b3 + 1) ItemT i0 _ 10 112 Tryz.underlying116 hi0 hz0 hz1 hz2 rfl (by omega) v l.length xs rfl ?_ _ 1 1 (itemV c'.ditem.1 V cv) rfl rfl ?_ ?_ (by omega) ?_ ?_ ?_ _ rfl ?_; (exact own_chg OWN.out (hk6.alloc _) (fun k hk e => by unfold OneM at e; omega)); (exact news_of _ _ _); (exact fun u hu => by simp only [itemV, List.mem_cons, List.not_mem_nil, or_false] at hu; rcases hu with rfl | rfl | rfl | rfl | rfl | rfl | rfl | rfl | rfl | rfl <;> rfl); (have := he.out.2; simp only [maxLen]; omega); (have := he.out.2; omega); (first | omega | (simp; done) | (simp; omega)); (intro g2 cap2 w8 hown8 hgr8 hat8 hlt8; have h8 := after_append OWN.out hgr8 (Nat.lt_succ_self _) HL1.out; have HL8 := Lib.hid h8.1; have hk8 := h8.2; clear h8; have qL8 := HL8.out.cell 1; simp at qL8; have fqL8 := HL8.out.frozen 1)))
          all_goals
            have hnx : It1 w g kd b3 (l ++ [c'.ditem.1]) c'.ditem.2 (.slice (some ⟨g2, 0, none⟩) (l.length + 1) cap2) (w8.setCell ⟨b3, 1, none⟩ (.slice (some ⟨g2, 0, none⟩) (l.length + 1) cap2)) := by
              have hownk : ∀ k, v.ownBlock = some k → b3 + 1 ≤ k := fun k e => (OWN.out.lt k e).1
              have hck := T.out.m.p.ck
              have hA := (Chg.refl NoM w5).alloc (.cells (itemV c'.ditem.1 V cv).toArray ItemT)
              have hown5 := own_chg OWN.out (hk6.alloc (.cells (itemV c'.ditem.1 V cv).toArray ItemT)) (fun k hk e => by unfold OneM at e; omega)
              have hn8 : ∀ k, w.heap.size ≤ k → v.ownBlock = some k → ∀ cs, ¬ Blk (w5.alloc (.cells (itemV c'.ditem.1 V cv).toArray ItemT)) k StrT cs := fun k _ e => own_not hown5 (by decide) k e
              refine ⟨⟨⟨?_, ?_, ?_, T.out.m.p.h2, T.out.m.p.hg, Nat.le_trans (Sp.Cut.ditem_len _) T.out.m.p.hl⟩, ?_, T.out.m.h3, T.out.m.hne⟩, xs ++ itemV c'.ditem.1 V cv, ?_, ?_⟩
              · exact Blk.far (DCut.chg (Blk.alloc hc5 _) hk8 (fun h => by have := hownk _ h; omega)) (p := ⟨b3, 1, none⟩) (fun e => hLg e.symm) _
              · exact (Chg.step hk8 (fun i hi => .inr (by have := hownk i hi; omega)) ((hck.trans hk6).alloc _)).setCell (p := ⟨b3, 1, none⟩) (.inr (by show w.heap.size ≤ b3; omega)) _
              · exact Blk.far (((T.out.m.p.z2.chg hk6 (by unfold OneM; omega)).alloc _).chg hk8 (fun h => by have := hownk _ h; omega)) (p := ⟨b3, 1, none⟩) (by show w.heap.size ≠ b3; omega) _
              · exact HL8.out.set_ 1 (.slice (some ⟨g2, 0, none⟩) (l.length + 1) cap2)
              · rw [show (l ++ [c'.ditem.1]).length = l.length + 1 by simp]
                exact own_chg hown8 (Chg.set1 _ b3 1 _) (fun k hk e => by unfold OneM at e; omega)
              · refine ItCells.snoc ?_ ?_
                · exact (((HT5.out.chg hA (fun _ _ h => h.elim)).chg hk8 hn8).chg (Chg.set1 w8 b3 1 _) (fun k _ e => by unfold OneM at e; subst e; exact Blk.not_ HL8.out (by decide)))
                · exact ((((HX.out.chg hk6 (fun k hk e => by unfold OneM at e; omega)).chg hA (fun _ _ h => h.elim)).chg hk8 hn8).chg (Chg.set1 w8 b3 1 _) (fun k _ e => by unfold OneM at e; subst e; exact Blk.not_ HL8.out (by decide)))
            have HNX := Lib.hid hnx
            clear hnx hown8 hgr8 hat8 hlt8 hk8 HL8 qL8 fqL8 hc5 hk5 hk6 HL1 qL1 fqL1 q1 q3 f3
            generalize w8.setCell ⟨b3, 1, none⟩ (.slice (some ⟨g2, 0, none⟩) (l.length + 1) cap2) = w9 at *
            go_wp2_with fail
            go_roundw
            case rel =>
              refine ⟨k + 1, l ++ [c'.ditem.1], c'.ditem.2, _, by omega, by go_num, ⟨?_, ?_⟩, HNX.out⟩
              · rw [Sp.eachN_succ _ _ _ (by rw [he.out.1]; exact HB.out), he.out.1]
                rfl
              · have := he.out.2; simp; omega
            case measure => simp [intOf]; omega
        · rw [hb] at q1
          have HB := Lib.hid hb
          clear hb
          clear q3 f3
          go_upto_region 29 with fail
          obtain ⟨xs, ho, hx⟩ := T.out.ex
          have HX := Lib.hid hx
          have HO := Lib.hid ho
          clear hx
          obtain ⟨A, cp, hv⟩ := own_form ho
          subst hv
          clear ho
          have hdt := HD2.out l c' ((Sp.eachN_end (f := Sp.ditemStep) (s := ([], d)) (k := k) (n := n.toNat) (by omega) (.inr (by rw [he.out.1]; exact HB.out))).trans he.out.1)
          rw [hdt] at HDF
          clear hdt
          have S := Lib.hid T.out.m
          go_wp2_with (first
            | (refine wpList_row PageT _ rfl b3 rfl rfl PageT _ (0, 0) _ S.out.z3 Tryz.underlying119 rfl rfl ?_)
            | (refine wpList_store_row rfl PageT _ _ rfl w.heap.size _ rfl rfl PageT _ S.out.p.z2 (by kernel_rfl) rfl (by kernel_rfl) ?_))
          have hD := S.out.done
          obtain ⟨⟨z0, z1, z2, z3, z4, z5, z6, z7, z8, z9, z10, z11, z12, z13⟩, _⟩ := hD.2.2.at14
          refine bodyPost_ret (v := .agg #[.int .i64 kd, .slice A l.length cp, .slice none 0 0, .slice none 0 0, .string ⟨#[]⟩, .slice none 0 0, .slice none 0 0, .int .i64 0, .int .u64 0, .int .i64 0, .int .i64 0, .int .i64 0, .int .i64 0, .int .i64 0]) (by simp [results, Tryz.results148, go_sem, z0, z1, z2, z3, z4, z5, z6, z7, z8, z9, z10, z11, z12, z13]) rfl (HMK.out _ _ HDF.out (⟨A, none, none, none, none, cp, 0, 0, 0, 0⟩) _ _ rfl (fun M hM => ⟨Items.of_cells ((TRow.less (base := b3 + 1) (TRow.of_own HO.out (by have := he.out.2; have := HO.out.1; omega)) (by omega)).chg (chg_setRow1 _ _ _) (fun k _ e => by unfold OneM at e; subst e; exact Blk.not_ S.out.p.z2 (by decide))) (HX.out.chg (chg_setRow1 _ _ _) (fun k _ e => by unfold OneM at e; subst e; exact Blk.not_ S.out.p.z2 (by decide))) hM (by have := he.out.2; show l.length ≤ 1073741824; omega), Row.nil_, Row.nil_, Row.nil_, Frees.nil_, by simp [Sp.mt0]⟩) hD.1 hD.2.1)
      · clear q3 f3
        go_upto_region 29 with fail
        obtain ⟨xs, ho, hx⟩ := T.out.ex
        have HX := Lib.hid hx
        have HO := Lib.hid ho
        clear hx
        obtain ⟨A, cp, hv⟩ := own_form ho
        subst hv
        clear ho
        have hdt := HD2.out l c' ((Sp.eachN_end (f := Sp.ditemStep) (s := ([], d)) (k := k) (n := n.toNat) (by omega) (.inl (by omega))).trans he.out.1)
        rw [hdt] at HDF
        clear hdt
        have S := Lib.hid T.out.m
        go_wp2_with (first
          | (refine wpList_row PageT _ rfl b3 rfl rfl PageT _ (0, 0) _ S.out.z3 Tryz.underlying119 rfl rfl ?_)
          | (refine wpList_store_row rfl PageT _ _ rfl w.heap.size _ rfl rfl PageT _ S.out.p.z2 (by kernel_rfl) rfl (by kernel_rfl) ?_))
        have hD := S.out.done
        obtain ⟨⟨z0, z1, z2, z3, z4, z5, z6, z7, z8, z9, z10, z11, z12, z13⟩, _⟩ := hD.2.2.at14
        refine bodyPost_ret (v := .agg #[.int .i64 kd, .slice A l.length cp, .slice none 0 0, .slice none 0 0, .string ⟨#[]⟩, .slice none 0 0, .slice none 0 0, .int .i64 0, .int .u64 0, .int .i64 0, .int .i64 0, .int .i64 0, .int .i64 0, .int .i64 0]) (by simp [results, Tryz.results148, go_sem, z0, z1, z2, z3, z4, z5, z6, z7, z8, z9, z10, z11, z12, z13]) rfl (HMK.out _ _ HDF.out (⟨A, none, none, none, none, cp, 0, 0, 0, 0⟩) _ _ rfl (fun M hM => ⟨Items.of_cells ((TRow.less (base := b3 + 1) (TRow.of_own HO.out (by have := he.out.2; have := HO.out.1; omega)) (by omega)).chg (chg_setRow1 _ _ _) (fun k _ e => by unfold OneM at e; subst e; exact Blk.not_ S.out.p.z2 (by decide))) (HX.out.chg (chg_setRow1 _ _ _) (fun k _ e => by unfold OneM at e; subst e; exact Blk.not_ S.out.p.z2 (by decide))) hM (by have := he.out.2; show l.length ≤ 1073741824; omega), Row.nil_, Row.nil_, Row.nil_, Frees.nil_, by simp [Sp.mt0]⟩) hD.1 hD.2.1)
end Go.Proofs.YtmcpkhknjdiocaaGreatDoor
