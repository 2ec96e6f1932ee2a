/- Trees of the document: the first item that is wanted; the trees that are made of numbers. Trees of the document: how many pages a tree of numbers has; how deep it is. Trees of the document: an item put into a leaf's row, step by step; a branch's rows with a child replaced. Trees of the document: what is laid when an item is put in, by a row's length. Trees made of numbers: what is at or behind a number; the walk over all; the least one by counting. Trees of the document: how many pages a put needs at most; a put into a whole tree, on pages. The document's put into a leaf: what is held. The document's stores: a page that is laid behind others. -/
import Derived.Test.YtmcpkhknjdiocaaGreatQB15
import Derived.Deep.RegionLaw
set_option linter.unusedSimpArgs false
set_option linter.unusedVariables false
namespace Go.Proofs.YtmcpkhknjdiocaaGreat
open Go.RowKit
attribute [local go_sem low] mk_extract
attribute [local go_sem] After.cell After.frozen mk_extract_end ByteArray.mk_append_mk
namespace Sp
/-- What is wanted from a key on: nothing below it, all above it. -/
def Wants (w : Item → Bool) (key : Txt) : Prop := (∀ y : Item, lt y.key key = true → w y = false) ∧ ∀ y : Item, lt key y.key = true → w y = true
theorem find_none {w : Item → Bool} {l : List Item} (h : ∀ y ∈ l, w y = false) : l.find? w = none := by
  rw [List.find?_eq_none]
  intro y hy
  rw [h y hy]
  simp
theorem first_law {d : Nat} {top : Bool} {t : T d} {key : Txt} {w : Item → Bool} (h : T.Ok d top t) (hw : Wants w key) :
    (∀ y, (leafOf d t key []).1.find? w = some y → (T.items d t).find? w = some y) ∧
    ((leafOf d t key []).1.find? w = none → (leafOf d t key []).2 = [] → (T.items d t).find? w = none) ∧
    ((leafOf d t key []).1.find? w = none → (leafOf d t key []).2 ≠ [] → ∃ y, (leafOf d t (leafOf d t key []).2 []).1.find? w = some y ∧ (T.items d t).find? w = some y) := by
  obtain ⟨A, B, e1, e2, e3, e4⟩ := leaf_law d top t key [] h
  have hA : A.find? w = none := find_none fun y hy => hw.1 y (e2 y hy)
  refine ⟨fun y hy => ?_, fun hn hb => ?_, fun hn hb => ?_⟩
  · rw [e1, List.find?_append, hA, Option.none_or, List.find?_append, hy, Option.some_or]
  · rcases e4 with ⟨_, rfl⟩ | ⟨f1, _⟩
    · rw [e1, List.find?_append, hA, Option.none_or, List.append_nil, hn]
    · rw [hb, lt_nilF] at f1
      simp at f1
  · rcases e4 with ⟨h0, _⟩ | ⟨f1, f2, f3, f4, f5⟩
    · exact absurd h0 hb
    · obtain ⟨B', hB'⟩ := f5 []
      have hL2 : (leafOf d t (leafOf d t key []).2 []).1 ≠ [] := (leaf_law d top t (leafOf d t key []).2 [] h).elim fun _ h => h.elim fun _ h => h.2.2.1
      generalize (leafOf d t (leafOf d t key []).2 []).1 = L2 at *
      match L2, hL2 with
      | z :: zs, _ =>
        have hz : w z = true := hw.2 z (lt_le f1 (f3 z (by rw [hB']; simp)))
        refine ⟨z, by rw [List.find?_cons, hz], ?_⟩
        rw [e1, List.find?_append, hA, Option.none_or, List.find?_append, hn, Option.none_or, hB', List.cons_append, List.find?_cons, hz]
/-- The key of a number. -/
def keyN (n : Nat) : Txt := [UInt8.ofNat (97 + n / 26), UInt8.ofNat (97 + n % 26)]
def itN (n : Nat) : Item := ⟨keyN n, 1, [118], 0, 0, [], 0, root0⟩
theorem keyN_lt : ∀ a, a < 256 → ∀ b, b < 256 → lt (keyN a) (keyN b) = decide (a < b) := by decide +kernel
theorem itN_is : ∀ a, a < 256 → isItem (itN a) = true := by decide +kernel
/-- The numbers whose items a row has, in order: a number put in. -/
def insN (n : Nat) : List Nat → List Nat
  | [] => [n]
  | m :: l => if m < n then m :: insN n l else if m = n then m :: l else n :: m :: l
theorem mem_insN {n k : Nat} : ∀ {l : List Nat}, k ∈ insN n l ↔ k = n ∨ k ∈ l
  | [] => by simp [insN]
  | m :: l => by
    unfold insN
    split
    · rw [List.mem_cons, mem_insN, List.mem_cons]
      constructor
      · rintro (h | h | h) <;> simp [h]
      · rintro (h | h | h) <;> simp [h]
    · split
      · rename_i h
        subst h
        simp
      · simp
theorem insN_sorted {n : Nat} : ∀ {l : List Nat}, l.Pairwise (· < ·) → (insN n l).Pairwise (· < ·)
  | [], _ => by simp [insN]
  | m :: l, h => by
    obtain ⟨h1, h2⟩ := List.pairwise_cons.1 h
    unfold insN
    split
    · rename_i hm
      refine List.pairwise_cons.2 ⟨fun k hk => ?_, insN_sorted h2⟩
      rcases mem_insN.1 hk with rfl | hk
      · exact hm
      · exact h1 k hk
    · split
      · exact h
      · rename_i h3 h4
        refine List.pairwise_cons.2 ⟨fun k hk => ?_, h⟩
        rcases List.mem_cons.1 hk with rfl | hk
        · omega
        · have := h1 k hk; omega
theorem insN_len {n : Nat} : ∀ l : List Nat, (insN n l).length ≤ l.length + 1
  | [] => by simp [insN]
  | m :: l => by
    have := insN_len (n := n) l
    unfold insN
    split
    · simp; omega
    · split <;> simp
theorem insIt_N {n : Nat} (hn : n < 256) : ∀ {l : List Nat}, (∀ k ∈ l, k < 256) → insIt (itN n) (l.map itN) = (insN n l).map itN
  | [], _ => rfl
  | m :: l, h => by
    have hm := h m (by simp)
    have e1 : lt (itN m).key (itN n).key = decide (m < n) := keyN_lt m hm n hn
    have ih := insIt_N hn (l := l) fun k hk => h k (by simp [hk])
    have e2 : (itN m).key = (itN n).key ↔ m = n := by
      constructor
      · intro e
        have a1 := keyN_lt m hm n hn
        have a2 := keyN_lt n hn m hm
        rw [show keyN m = keyN n from e, lt_irr] at a1
        rw [show keyN m = keyN n from e, lt_irr] at a2
        have := of_decide_eq_false a1.symm
        have := of_decide_eq_false a2.symm
        omega
      · rintro rfl; rfl
    rw [List.map_cons]
    unfold insIt insN
    by_cases h1 : m < n
    · rw [if_pos (by rw [e1]; exact decide_eq_true h1), if_pos h1, ih]
      rfl
    · rw [if_neg (by rw [e1]; simpa using h1), if_neg h1]
      by_cases h2 : m = n
      · rw [if_pos (e2.2 h2), if_pos h2, h2]
        rfl
      · rw [if_neg (fun e => h2 (e2.1 e)), if_neg h2]
        rfl
/-- The numbers that are in a tree of these. -/
def numsOf (keys : List Nat) : List Nat := keys.foldl (fun l n => insN n l) []
theorem numsOf_snoc (keys : List Nat) (n : Nat) : numsOf (keys ++ [n]) = insN n (numsOf keys) := by
  unfold numsOf
  rw [List.foldl_append]
  rfl
end Sp
end Go.Proofs.YtmcpkhknjdiocaaGreat
namespace Go.Proofs.YtmcpkhknjdiocaaGreat
open Go.RowKit
attribute [local go_sem low] mk_extract
attribute [local go_sem] After.cell After.frozen mk_extract_end ByteArray.mk_append_mk
namespace Sp
theorem T.Ok.cnt_top {d : Nat} {t : T d} (h : T.Ok d true t) : (T.ids d t).length ≤ (T.items d t).length := by
  cases d with
  | zero =>
    show 1 ≤ t.2.length
    exact h.2.1
  | succ d =>
    have h' : T.Ok (d + 1) false t := h
    have := h'.cnt
    omega
theorem T.Ok.deep_top {d : Nat} {t : T d} (h : T.Ok d true t) : 2 ^ d ≤ (T.items d t).length := by
  cases d with
  | zero =>
    show 1 ≤ t.2.length
    exact h.2.1
  | succ d =>
    have h' : T.Ok (d + 1) false t := h
    have := h'.deep
    rw [Nat.pow_succ] at this
    omega
/-- A tree of so many items has at most so many levels. -/
theorem T.Ok.lev {d : Nat} {t : T d} (h : T.Ok d true t) (hn : (T.items d t).length < 256) : d < 8 := by
  have h1 := h.deep_top
  rcases Nat.lt_or_ge d 8 with h2 | h2
  · exact h2
  · have := Nat.pow_le_pow_right (show 0 < 2 by decide) h2
    omega
theorem Rt.At.cnt {P : List Page} {o : Option Rt} {n : Nat} (h : Rt.At P o n) : n ≤ (Rt.items o).length + 2 := by
  cases o with
  | none =>
    obtain ⟨_, rfl⟩ := h
    simp
  | some r =>
    obtain ⟨_, h2, h3⟩ := h
    have := h2.cnt_top
    show n ≤ (T.items r.d r.t).length + 2
    omega
theorem numsOf_lt {keys : List Nat} (h : ∀ k ∈ keys, k < 256) : ∀ k ∈ numsOf keys, k < 256 := by
  have : ∀ (l : List Nat), (∀ k ∈ l, k < 256) → ∀ k ∈ keys.foldl (fun l n => insN n l) l, k < 256 := by
    induction keys with
    | nil => exact fun l hl => hl
    | cons a keys ih =>
      intro l hl
      refine ih (fun k hk => h k (by simp [hk])) _ fun k hk => ?_
      rcases mem_insN.1 hk with rfl | hk
      · exact h k (by simp)
      · exact hl k hk
  exact this [] (by simp)
theorem numsOf_mem {keys : List Nat} {n : Nat} : n ∈ numsOf keys ↔ n ∈ keys := by
  have : ∀ (l : List Nat), n ∈ keys.foldl (fun l n => insN n l) l ↔ n ∈ l ∨ n ∈ keys := by
    induction keys with
    | nil => simp
    | cons a keys ih =>
      intro l
      rw [List.foldl_cons, ih, mem_insN, List.mem_cons]
      constructor
      · rintro ((h | h) | h) <;> simp [h]
      · rintro (h | h | h) <;> simp [h]
  have := this []
  simpa [numsOf] using this
theorem numsOf_sorted (keys : List Nat) : (numsOf keys).Pairwise (· < ·) := by
  have : ∀ (l : List Nat), l.Pairwise (· < ·) → (keys.foldl (fun l n => insN n l) l).Pairwise (· < ·) := by
    induction keys with
    | nil => exact fun l hl => hl
    | cons a keys ih => exact fun l hl => ih _ (insN_sorted hl)
  exact this [] List.Pairwise.nil
theorem numsOf_len (keys : List Nat) : (numsOf keys).length ≤ keys.length := by
  have : ∀ (l : List Nat), (keys.foldl (fun l n => insN n l) l).length ≤ l.length + keys.length := by
    induction keys with
    | nil => simp
    | cons a keys ih =>
      intro l
      have h1 := ih (insN a l)
      have h2 := insN_len (n := a) l
      rw [List.foldl_cons, List.length_cons]
      omega
  simpa [numsOf] using this []
theorem find_congr {α : Type} {f g : α → Bool} : ∀ {l : List α}, (∀ a ∈ l, f a = g a) → l.find? f = l.find? g
  | [], _ => rfl
  | a :: l, h => by
    rw [List.find?_cons, List.find?_cons, h a (by simp), find_congr fun b hb => h b (by simp [hb])]
/-- The first number from one on (or behind it) that is there. -/
theorem find_at {l : List Nat} (hl : ∀ k ∈ l, k < 256) {n : Nat} (hn : n < 256) : (l.map itN).find? (fun y => !lt y.key (keyN n)) = (l.find? fun k => decide (n ≤ k)).map itN := by
  rw [List.find?_map]
  congr 1
  refine find_congr fun k hk => ?_
  show (!lt (keyN k) (keyN n)) = decide (n ≤ k)
  rw [keyN_lt k (hl k hk) n hn]
  by_cases h : k < n <;> simp [h] <;> omega
theorem find_behind {l : List Nat} (hl : ∀ k ∈ l, k < 256) {n : Nat} (hn : n < 256) : (l.map itN).find? (fun y => lt (keyN n) y.key) = (l.find? fun k => decide (n < k)).map itN := by
  rw [List.find?_map]
  congr 1
  refine find_congr fun k hk => ?_
  show lt (keyN n) (keyN k) = decide (n < k)
  exact keyN_lt n hn k (hl k hk)
theorem wants_at (key : Txt) : Wants (fun y => !lt y.key key) key := ⟨fun y h => by simp [h], fun y h => by simp [lt_asymm h]⟩
theorem wants_behind (key : Txt) : Wants (fun y => lt key y.key) key := ⟨fun y h => lt_asymm h, fun y h => h⟩
end Sp
end Go.Proofs.YtmcpkhknjdiocaaGreat
namespace Go.Proofs.YtmcpkhknjdiocaaGreat
open Go.RowKit
attribute [local go_sem low] mk_extract
attribute [local go_sem] After.cell After.frozen mk_extract_end ByteArray.mk_append_mk
namespace Sp
/-- How far a row is made: so many of the leaf's items are behind it; is the new one in it? -/
def LfOk (x : Item) (l0 : List Item) (k : Nat) (L : List Item) (dn : Bool) : Prop := insIt x l0 = L ++ (if dn then l0.drop k else insIt x (l0.drop k))
theorem LfOk.start (x : Item) (l0 : List Item) : LfOk x l0 0 [] false := rfl
theorem drop_getD {l0 : List Item} {k : Nat} (hk : k < l0.length) : l0.drop k = l0.getD k item0 :: l0.drop (k + 1) := by
  rw [List.drop_eq_getElem_cons hk]
  simp [List.getD, hk]
theorem LfOk.behind {x : Item} {l0 : List Item} {k : Nat} {L : List Item} (h : LfOk x l0 k L true) (hk : k < l0.length) : LfOk x l0 (k + 1) (L ++ [l0.getD k item0]) true := by
  unfold LfOk at *
  rw [h]
  simp only [if_true]
  rw [drop_getD hk]
  simp
theorem LfOk.ahead {x : Item} {l0 : List Item} {k : Nat} {L : List Item} (h : LfOk x l0 k L false) (hk : k < l0.length) (hlt : lt (l0.getD k item0).key x.key = true) : LfOk x l0 (k + 1) (L ++ [l0.getD k item0]) false := by
  unfold LfOk at *
  rw [h]
  simp only [Bool.false_eq_true, if_false]
  rw [drop_getD hk]
  conv => lhs; unfold insIt
  rw [if_pos hlt]
  simp
theorem LfOk.same {x : Item} {l0 : List Item} {k : Nat} {L : List Item} (h : LfOk x l0 k L false) (hk : k < l0.length) (hlt : lt (l0.getD k item0).key x.key = false) (he : (l0.getD k item0).key = x.key) : LfOk x l0 (k + 1) (L ++ [x]) true := by
  unfold LfOk at *
  rw [h]
  simp only [Bool.false_eq_true, if_false, if_true]
  rw [drop_getD hk]
  conv => lhs; unfold insIt
  rw [if_neg (by rw [hlt]; simp), if_pos he]
  simp
theorem LfOk.here {x : Item} {l0 : List Item} {k : Nat} {L : List Item} (h : LfOk x l0 k L false) (hk : k < l0.length) (hlt : lt (l0.getD k item0).key x.key = false) (he : (l0.getD k item0).key ≠ x.key) : LfOk x l0 (k + 1) (L ++ [x] ++ [l0.getD k item0]) true := by
  unfold LfOk at *
  rw [h]
  simp only [Bool.false_eq_true, if_false, if_true]
  rw [drop_getD hk]
  conv => lhs; unfold insIt
  rw [if_neg (by rw [hlt]; simp), if_neg he]
  simp
theorem LfOk.done {x : Item} {l0 L : List Item} (h : LfOk x l0 l0.length L true) : insIt x l0 = L := by
  unfold LfOk at h
  simpa using h
theorem LfOk.last {x : Item} {l0 L : List Item} (h : LfOk x l0 l0.length L false) : insIt x l0 = L ++ [x] := by
  unfold LfOk at h
  simpa [insIt] using h
/-- A branch's keys and numbers, with a child replaced. -/
theorem graft_keys {α : Type} {k : Nat} {t : α} {cs : List (Txt × α)} {c : Txt × α} (hc : cs[k]? = some c) : (graft k t none cs).map (·.1) = cs.map (·.1) := by
  unfold graft
  rw [hc]
  conv => rhs; rw [split_at hc]
  simp
theorem graft_keys' {α : Type} {k : Nat} {t : α} {m : Txt × α} {cs : List (Txt × α)} {c : Txt × α} (hc : cs[k]? = some c) : (graft k t (some m) cs).map (·.1) = (cs.map (·.1)).take (k + 1) ++ [m.1] ++ (cs.map (·.1)).drop (k + 1) := by
  have hk : k < cs.length := (List.getElem?_eq_some_iff.1 hc).1
  have hce : cs[k] = c := (List.getElem?_eq_some_iff.1 hc).2
  unfold graft
  rw [hc]
  dsimp only
  rw [List.take_succ_eq_append_getElem (by simpa using hk), List.getElem_map, hce]
  simp
theorem graft_ids {α : Type} {f : α → Int} {k : Nat} {t : α} {cs : List (Txt × α)} {c : Txt × α} (hc : cs[k]? = some c) : (graft k t none cs).map (fun c => f c.2) = (cs.map fun c => f c.2).set k (f t) := by
  have hk : k < cs.length := (List.getElem?_eq_some_iff.1 hc).1
  unfold graft
  rw [hc]
  dsimp only
  rw [List.set_eq_take_append_cons_drop, if_pos (by simpa using hk)]
  simp
theorem graft_ids' {α : Type} {f : α → Int} {k : Nat} {t : α} {m : Txt × α} {cs : List (Txt × α)} {c : Txt × α} (hc : cs[k]? = some c) :
    (graft k t (some m) cs).map (fun c => f c.2) = ((cs.map fun c => f c.2).set k (f t)).take (k + 1) ++ [f m.2] ++ ((cs.map fun c => f c.2).set k (f t)).drop (k + 1) := by
  have hk : k < cs.length := (List.getElem?_eq_some_iff.1 hc).1
  unfold graft
  rw [hc]
  dsimp only
  rw [List.take_succ_eq_append_getElem (by simpa using hk), List.getElem_set_self, List.take_set_of_le (Nat.le_refl k), List.drop_set_of_lt (Nat.lt_succ_self k)]
  simp
end Sp
end Go.Proofs.YtmcpkhknjdiocaaGreat
namespace Go.Proofs.YtmcpkhknjdiocaaGreat
open Go.RowKit
attribute [local go_sem low] mk_extract
attribute [local go_sem] After.cell After.frozen mk_extract_end ByteArray.mk_append_mk
namespace Sp
def moreId (d : Nat) (m : Option (Txt × T d)) : Nat := match m with | none => 0 | some m => T.id d m.2
def moreKey {d : Nat} (m : Option (Txt × T d)) : Txt := match m with | none => [] | some m => m.1
theorem put_is {x : Item} (hx : isItem x = true) {d : Nat} {t : T d} {P P' : List Page} {n : Nat} {b : Bool} (hok : T.Ok d b t) (r : PutRes P P' d t n (T.put x d t n)) (hn : (T.put x d t n).2.2 ≤ 400) :
    isPage (T.page d (T.put x d t n).1) = true ∧ ∀ m ∈ (T.put x d t n).2.1, isPage (T.page d m.2) = true := by
  obtain ⟨_, _, h3, h4⟩ := put_spec hx d b t n hok
  have h4 : T.Ok d true (T.put x d t n).1 := by
    cases b
    · exact h4.top
    · exact h4
  refine ⟨h4.page_is fun i hi => ⟨r.holds.ge i hi, ?_⟩, fun m hm => (h3 m hm).2.2.2.1.top.page_is fun i hi => ⟨(r.more m hm).ge i hi, ?_⟩⟩
  · exact Nat.lt_of_lt_of_le (r.ids i (List.mem_append.2 (.inl hi))).2 hn
  · refine Nat.lt_of_lt_of_le (r.ids i (List.mem_append.2 (.inr ?_))).2 hn
    exact List.mem_flatMap.2 ⟨m, by simpa using hm, hi⟩
theorem put_join0 {x : Item} (hx : isItem x = true) {id n : Nat} {l0 : List Item} {b : Bool} {P : List Page} (hok : T.Ok 0 b (id, l0)) (h : T.On P 0 (id, l0) n) (hn : (T.put x 0 (id, l0) n).2.2 ≤ 400) :
    (insIt x l0).length ≤ 5 ∧
    ((insIt x l0).length ≤ 4 → isPage (leafPg (insIt x l0)) = true ∧ PutRes P (P.set (id - 2) (leafPg (insIt x l0))) 0 (id, l0) n (T.put x 0 (id, l0) n) ∧ (T.put x 0 (id, l0) n).2.1 = none) ∧
    (¬ (insIt x l0).length ≤ 4 → isPage (leafPg ((insIt x l0).take 3)) = true ∧ isPage (leafPg ((insIt x l0).drop 3)) = true ∧ PutRes P (P.set (id - 2) (leafPg ((insIt x l0).take 3)) ++ [leafPg ((insIt x l0).drop 3)]) 0 (id, l0) n (T.put x 0 (id, l0) n) ∧
      (T.put x 0 (id, l0) n).2.2 = n + 1 ∧ moreId 0 (T.put x 0 (id, l0) n).2.1 = n ∧ moreKey (T.put x 0 (id, l0) n).2.1 = ((insIt x l0).getD 3 item0).key) := by
  have h4 : l0.length ≤ 4 := hok.1
  have r := leaf_res (x := x) h h4
  dsimp only at r
  have hl := (insIt_len x l0).2
  refine ⟨by omega, fun hs => ?_, fun hs => ?_⟩
  · rw [if_pos hs] at r
    have hp := (put_is hx hok r hn).1
    have e := put_zero x id l0 n
    rw [if_pos hs] at e
    refine ⟨?_, r, by rw [e]; rfl⟩
    rw [e] at hp
    exact hp
  · rw [if_neg hs] at r
    have hp := put_is hx hok r hn
    have e := put_zero x id l0 n
    rw [if_neg hs] at e
    refine ⟨?_, ?_, r, by rw [e], by rw [e]; rfl, by rw [e]; rfl⟩
    · have := hp.1
      rw [e] at this
      exact this
    · have := hp.2 (((insIt x l0).getD 3 item0).key, (n, (insIt x l0).drop 3)) (by rw [e]; rfl)
      exact this
theorem put_join {x : Item} (hx : isItem x = true) {d id n : Nat} {cs : List (Txt × T d)} {c : Txt × T d} {b : Bool} {P P1 : List Page} {ks : List Txt} {is : List Int} (hok : T.Ok (d + 1) b (id, cs)) (h : T.On P (d + 1) (id, cs) n) (hc : cs[downI x.key cs]? = some c)
    (r : PutRes P P1 d c.2 n (T.put x d c.2 n)) (hn : (T.put x (d + 1) (id, cs) n).2.2 ≤ 400)
    (hks : ks = (graft (downI x.key cs) (T.put x d c.2 n).1 (T.put x d c.2 n).2.1 cs).map (·.1)) (his : is = (graft (downI x.key cs) (T.put x d c.2 n).1 (T.put x d c.2 n).2.1 cs).map fun c => ((T.id d c.2 : Nat) : Int)) :
    ks.length ≤ 5 ∧ is.length = ks.length ∧
    (ks.length ≤ 4 → isPage (branchPg ks is) = true ∧ PutRes P (P1.set (id - 2) (branchPg ks is)) (d + 1) (id, cs) n (T.put x (d + 1) (id, cs) n) ∧ (T.put x (d + 1) (id, cs) n).2.1 = none) ∧
    (¬ ks.length ≤ 4 → isPage (branchPg (ks.take 3) (is.take 3)) = true ∧ isPage (branchPg ([] :: ks.drop 4) (is.drop 3)) = true ∧
      PutRes P (P1.set (id - 2) (branchPg (ks.take 3) (is.take 3)) ++ [branchPg ([] :: ks.drop 4) (is.drop 3)]) (d + 1) (id, cs) n (T.put x (d + 1) (id, cs) n) ∧
      (T.put x (d + 1) (id, cs) n).2.2 = (T.put x d c.2 n).2.2 + 1 ∧ moreId (d + 1) (T.put x (d + 1) (id, cs) n).2.1 = (T.put x d c.2 n).2.2 ∧ moreKey (T.put x (d + 1) (id, cs) n).2.1 = ks.getD 3 []) := by
  have hcl : cs.length ≤ 4 := hok.2.1
  have hlen : (graft (downI x.key cs) (T.put x d c.2 n).1 (T.put x d c.2 n).2.1 cs).length ≤ 5 := by
    unfold graft
    rw [hc]
    have hk : downI x.key cs < cs.length := (List.getElem?_eq_some_iff.1 hc).1
    have hml : (T.put x d c.2 n).2.1.toList.length ≤ 1 := by cases (T.put x d c.2 n).2.1 <;> simp
    simp only [List.length_append, List.length_cons, List.length_take, List.length_drop]
    omega
  have e := put_succ x d id cs n
  rw [hc] at e
  dsimp only at e
  have hno := node_res (x := x) (P' := if ks.length ≤ 4 then P1.set (id - 2) (branchPg ks is) else P1.set (id - 2) (branchPg (ks.take 3) (is.take 3)) ++ [branchPg ([] :: ks.drop 4) (is.drop 3)]) h hc hcl r
  have hl1 : ks.length = (graft (downI x.key cs) (T.put x d c.2 n).1 (T.put x d c.2 n).2.1 cs).length := by rw [hks, List.length_map]
  have hl2 : is.length = ks.length := by rw [his, hl1, List.length_map]
  have r2 := hno (fun h4 => by
    rw [if_pos (by omega)]
    rw [hks, his]
    rfl) (fun a0 a1 a2 a3 a4 hg => by
    rw [hg] at hl1
    rw [if_neg (by rw [hl1]; simp)]
    rw [hks, his, hg]
    rfl)
  refine ⟨by omega, hl2, fun hs => ?_, fun hs => ?_⟩
  · rw [if_pos hs] at r2
    have hp := (put_is hx hok r2 hn).1
    rw [if_pos (by omega)] at e
    refine ⟨?_, r2, by rw [e]⟩
    rw [e] at hp
    rw [hks, his]
    exact hp
  · rw [if_neg hs] at r2
    have hp := put_is hx hok r2 hn
    rw [if_neg (by omega)] at e
    generalize hgr : graft (downI x.key cs) (T.put x d c.2 n).1 (T.put x d c.2 n).2.1 cs = g at *
    match g, hl1, hlen with
    | [a0, a1, a2, a3, a4], _, _ =>
      have e' : T.put x (d + 1) (id, cs) n = ((id, [a0, a1, a2]), some (a3.1, ((T.put x d c.2 n).2.2, [([], a3.2), a4])), (T.put x d c.2 n).2.2 + 1) := e
      refine ⟨?_, ?_, r2, by rw [e'], by rw [e']; rfl, by rw [e', hks]; rfl⟩
      · have := hp.1
        rw [e'] at this
        rw [hks, his]
        exact this
      · have := hp.2 (a3.1, ((T.put x d c.2 n).2.2, [([], a3.2), a4])) (by rw [e']; rfl)
        rw [hks, his]
        exact this
    | [], h1, _ => rw [h1] at hs; simp at hs
    | [_], h1, _ => rw [h1] at hs; simp at hs
    | [_, _], h1, _ => rw [h1] at hs; simp at hs
    | [_, _, _], h1, _ => rw [h1] at hs; simp at hs
    | [_, _, _, _], h1, _ => rw [h1] at hs; simp at hs
    | _ :: _ :: _ :: _ :: _ :: _ :: _, _, h2 => simp at h2
/-- A tree's child on its pages. -/
theorem T.On.kid {P : List Page} {d id n : Nat} {cs : List (Txt × T d)} {c : Txt × T d} {k : Nat} (h : T.On P (d + 1) (id, cs) n) (hc : cs[k]? = some c) : T.On P d c.2 n := by
  have hcm : c ∈ cs := List.mem_of_getElem? hc
  refine ⟨h.len, h.holds.2 c hcm, fun i hi => h.lt i (List.mem_cons_of_mem _ (List.mem_flatMap.2 ⟨c, hcm, hi⟩)), ?_⟩
  have h2 : (cs.flatMap fun a : Txt × T d => T.ids d a.2).Nodup := (List.nodup_cons.1 (show (id :: cs.flatMap fun a : Txt × T d => T.ids d a.2).Nodup from h.nodup)).2
  rw [split_at hc, List.flatMap_append, List.flatMap_cons] at h2
  exact (List.nodup_append.1 (List.nodup_append.1 h2).2.1).1
end Sp
end Go.Proofs.YtmcpkhknjdiocaaGreat
namespace Go.Proofs.YtmcpkhknjdiocaaGreat
open Go.RowKit
attribute [local go_sem low] mk_extract
attribute [local go_sem] After.cell After.frozen mk_extract_end ByteArray.mk_append_mk
namespace Sp
/-- The first number from one on. -/
def fromN (l : List Nat) (n : Nat) : Option Nat := l.find? fun k => decide (n ≤ k)
theorem from_behind (l : List Nat) (n : Nat) : (l.find? fun k => decide (n < k)) = fromN l (n + 1) := rfl
theorem from_out {l : List Nat} {n : Nat} (h : n ∉ l) : fromN l n = fromN l (n + 1) := by
  unfold fromN
  induction l with
  | nil => rfl
  | cons a l ih =>
    have h1 : n ≠ a := fun e => h (by simp [e])
    have h2 : n ∉ l := fun e => h (by simp [e])
    rw [List.find?_cons, List.find?_cons, ih h2]
    by_cases hn : n ≤ a
    · simp [hn, show n + 1 ≤ a by omega]
    · simp [hn, show ¬ n + 1 ≤ a by omega]
theorem from_in {l : List Nat} {n : Nat} (hs : l.Pairwise (· < ·)) (h : n ∈ l) : fromN l n = some n := by
  unfold fromN
  induction l with
  | nil => simp at h
  | cons a l ih =>
    obtain ⟨h1, h2⟩ := List.pairwise_cons.1 hs
    rw [List.find?_cons]
    rcases List.mem_cons.1 h with rfl | h
    · simp
    · have := h1 n h
      simp only [show ¬ n ≤ a by omega, decide_false]
      exact ih h2 h
theorem from_spec {l : List Nat} (hs : l.Pairwise (· < ·)) (n : Nat) : (fromN l n = none ∧ ∀ k ∈ l, k < n) ∨ ∃ m, fromN l n = some m ∧ m ∈ l ∧ n ≤ m ∧ ∀ k ∈ l, n ≤ k → m ≤ k := by
  unfold fromN
  induction l with
  | nil => exact .inl ⟨rfl, by simp⟩
  | cons a l ih =>
    obtain ⟨h1, h2⟩ := List.pairwise_cons.1 hs
    rw [List.find?_cons]
    by_cases hn : n ≤ a
    · simp only [hn, decide_true]
      refine .inr ⟨a, rfl, by simp, hn, fun k hk _ => ?_⟩
      rcases List.mem_cons.1 hk with rfl | hk
      · exact Nat.le_refl _
      · exact Nat.le_of_lt (h1 k hk)
    · simp only [hn, decide_false]
      rcases ih h2 with ⟨e, h⟩ | ⟨m, e, hm, hnm, h⟩
      · refine .inl ⟨e, fun k hk => ?_⟩
        rcases List.mem_cons.1 hk with rfl | hk
        · omega
        · exact h k hk
      · refine .inr ⟨m, e, by simp [hm], hnm, fun k hk hk2 => ?_⟩
        rcases List.mem_cons.1 hk with rfl | hk
        · omega
        · exact h k hk hk2
theorem from_self {l : List Nat} (hs : l.Pairwise (· < ·)) (n : Nat) : fromN l n = some n ↔ n ∈ l := by
  constructor
  · intro h
    rcases from_spec hs n with ⟨e, _⟩ | ⟨m, e, hm, _⟩
    · rw [e] at h; cases h
    · rw [e] at h
      rw [← Option.some.inj h]
      exact hm
  · exact from_in hs
theorem from_top {l : List Nat} (h : ∀ k ∈ l, k < 256) : fromN l 256 = none := by
  unfold fromN
  rw [List.find?_eq_none]
  intro k hk
  have := h k hk
  simp
  omega
theorem from_lt {l : List Nat} (h : ∀ k ∈ l, k < 256) {n m : Nat} (hm : fromN l n = some m) : m < 256 := h m (List.mem_of_find?_eq_some hm)
/-- The least number from k on among so many; 256: none. -/
def leastF (k : Nat) (keys : List Nat) : Nat := keys.foldl (fun a n => if k ≤ n then min a n else a) 256
theorem leastF_snoc (k : Nat) (keys : List Nat) (n : Nat) : leastF k (keys ++ [n]) = if k ≤ n then min (leastF k keys) n else leastF k keys := by
  unfold leastF
  rw [List.foldl_append]
  rfl
theorem leastF_spec (k : Nat) (keys : List Nat) : ∀ a, (keys.foldl (fun a n => if k ≤ n then min a n else a) a ≤ a ∧ (∀ n ∈ keys, k ≤ n → keys.foldl (fun a n => if k ≤ n then min a n else a) a ≤ n)) ∧
    (keys.foldl (fun a n => if k ≤ n then min a n else a) a = a ∨ (keys.foldl (fun a n => if k ≤ n then min a n else a) a ∈ keys ∧ k ≤ keys.foldl (fun a n => if k ≤ n then min a n else a) a)) := by
  induction keys with
  | nil => intro a; simp
  | cons n keys ih =>
    intro a
    rw [List.foldl_cons]
    obtain ⟨⟨h1, h2⟩, h3⟩ := ih (if k ≤ n then min a n else a)
    generalize keys.foldl (fun a n => if k ≤ n then min a n else a) (if k ≤ n then min a n else a) = m at *
    by_cases hn : k ≤ n
    · rw [if_pos hn] at h1 h3
      refine ⟨⟨by omega, fun j hj hk => ?_⟩, ?_⟩
      · rcases List.mem_cons.1 hj with rfl | hj
        · omega
        · exact h2 j hj hk
      · rcases h3 with h3 | ⟨h3, h4⟩
        · rcases Nat.le_total a n with h | h
          · left; omega
          · right
            have : m = n := by omega
            exact ⟨by rw [this]; simp, by omega⟩
        · exact .inr ⟨by simp [h3], h4⟩
    · rw [if_neg hn] at h1 h3
      refine ⟨⟨h1, fun j hj hk => ?_⟩, ?_⟩
      · rcases List.mem_cons.1 hj with rfl | hj
        · exact absurd hk hn
        · exact h2 j hj hk
      · rcases h3 with h3 | ⟨h3, h4⟩
        · exact .inl h3
        · exact .inr ⟨by simp [h3], h4⟩
theorem leastF_is {keys : List Nat} (hk : ∀ k ∈ keys, k < 256) (k : Nat) : leastF k keys = (fromN (numsOf keys) k).getD 256 := by
  obtain ⟨⟨h1, h2⟩, h3⟩ := leastF_spec k keys 256
  have e : leastF k keys = keys.foldl (fun a n => if k ≤ n then min a n else a) 256 := rfl
  rw [← e] at h1 h2 h3
  rcases from_spec (numsOf_sorted keys) k with ⟨e2, h⟩ | ⟨m, e2, hm, hkm, h⟩
  · rw [e2]
    rcases h3 with h3 | ⟨h3, h4⟩
    · exact h3
    · have := h _ (numsOf_mem.2 h3)
      omega
  · rw [e2]
    have hm2 := numsOf_mem.1 hm
    have h5 := h2 m hm2 hkm
    have h6 := hk m hm2
    rcases h3 with h3 | ⟨h3, h4⟩
    · omega
    · have := h _ (numsOf_mem.2 h3) h4
      show leastF k keys = m
      omega
theorem keyN_inj {a b : Nat} (ha : a < 256) (hb : b < 256) (h : keyN a = keyN b) : a = b := by
  have h1 := keyN_lt a ha b hb
  have h2 := keyN_lt b hb a ha
  rw [h, lt_irr] at h1
  rw [h, lt_irr] at h2
  have h1 : ¬ a < b := fun e => by simp [e] at h1
  have h2 : ¬ b < a := fun e => by simp [e] at h2
  omega
/-- What Get, Above, Behind tell of a tree of numbers. -/
def getI (l : List Item) (key : Txt) : Option Item := (l.find? fun y => !lt y.key key).bind fun y => if y.key = key then some y else none
theorem get_N {l : List Nat} (hl : ∀ k ∈ l, k < 256) (hs : l.Pairwise (· < ·)) {n : Nat} (hn : n < 256) : getI (l.map itN) (keyN n) = if n ∈ l then some (itN n) else none := by
  unfold getI
  rw [find_at hl hn]
  show ((fromN l n).map itN).bind _ = _
  by_cases h : n ∈ l
  · rw [from_in hs h, if_pos h]
    exact if_pos rfl
  · rw [if_neg h]
    cases hf : fromN l n with
    | none => rfl
    | some m =>
      show (if (itN m).key = keyN n then some (itN m) else none) = none
      refine if_neg fun e => h ?_
      have hm := from_lt hl hf
      have : m = n := keyN_inj hm hn e
      rw [this] at hf
      exact (from_self hs n).1 hf
theorem find_all (l : List Item) : (l.find? fun y => !lt y.key []) = l.head? := by
  cases l with
  | nil => rfl
  | cons a l =>
    rw [List.find?_cons, lt_nilF]
    rfl
theorem head_from (l : List Nat) : (l.map itN).head? = (fromN l 0).map itN := by
  cases l with
  | nil => rfl
  | cons a l => simp [fromN]
end Sp
end Go.Proofs.YtmcpkhknjdiocaaGreat
namespace Go.Proofs.YtmcpkhknjdiocaaGreat
open Go.RowKit
attribute [local go_sem low] mk_extract
attribute [local go_sem] After.cell After.frozen mk_extract_end ByteArray.mk_append_mk
namespace Sp
theorem put_bound {x : Item} (hx : isItem x = true) {P : List Page} {r : Rt} {n : Nat} (h : Rt.At P (some r) n) :
    (T.put x r.d r.t n).2.2 ≤ (insIt x (T.items r.d r.t)).length + 2 ∧ ∀ m, (T.put x r.d r.t n).2.1 = some m → (T.put x r.d r.t n).2.2 + 1 ≤ (insIt x (T.items r.d r.t)).length + 2 := by
  obtain ⟨h1, h2, h3⟩ := h
  obtain ⟨_, q2, q3, q4⟩ := put_spec hx r.d true r.t n h2
  have hc := put_cnt x r.d r.t n
  rw [← q2]
  cases hm : (T.put x r.d r.t n).2.1 with
  | none =>
    rw [hm] at hc
    have e0 : (moreIds r.d (none : Option (Txt × T r.d))).length = 0 := rfl
    have := q4.cnt_top
    refine ⟨?_, fun m h => by cases h⟩
    rw [List.length_append]
    omega
  | some m =>
    rw [hm] at hc
    have e0 : moreIds r.d (some m) = T.ids r.d m.2 := by unfold moreIds; simp
    rw [e0] at hc
    obtain ⟨_, _, _, a, b⟩ := q3 m hm
    have h5 := a.cnt
    have h6 := b.cnt
    have e1 : ((some m : Option (Txt × T r.d)).toList.flatMap fun m => T.items r.d m.2) = T.items r.d m.2 := by simp
    rw [e1, List.length_append]
    refine ⟨by omega, fun _ _ => by omega⟩
/-- A put into a whole tree: where it ends. -/
theorem putR_none (x : Item) (n : Nat) : putR x none n = (some ⟨0, (n, [x])⟩, n + 1) := rfl
theorem putR_same {x : Item} {r : Rt} {n : Nat} (h : (T.put x r.d r.t n).2.1 = none) : putR x (some r) n = (some ⟨r.d, (T.put x r.d r.t n).1⟩, (T.put x r.d r.t n).2.2) := by
  unfold putR
  dsimp only
  rw [h]
theorem putR_new {x : Item} {r : Rt} {n : Nat} {m : Txt × T r.d} (h : (T.put x r.d r.t n).2.1 = some m) : putR x (some r) n = (some ⟨r.d + 1, ((T.put x r.d r.t n).2.2, [([], (T.put x r.d r.t n).1), m])⟩, (T.put x r.d r.t n).2.2 + 1) := by
  unfold putR
  dsimp only
  rw [h]
theorem new_is {x : Item} (hx : isItem x = true) {P P' : List Page} {r : Rt} {n : Nat} {m : Txt × T r.d} (h : Rt.At P (some r) n) (hr : PutRes P P' r.d r.t n (T.put x r.d r.t n)) (hm : (T.put x r.d r.t n).2.1 = some m) (hb : (T.put x r.d r.t n).2.2 + 1 ≤ 400) :
    isPage (branchPg [[], m.1] [((T.id r.d (T.put x r.d r.t n).1 : Nat) : Int), ((T.id r.d m.2 : Nat) : Int)]) = true := by
  have h0 := (At_new hx h hr hm).1
  rw [putR_new hm] at h0
  obtain ⟨h1, h2, h3⟩ := h0
  exact h2.page_is fun i hi => ⟨h1.holds.ge i hi, Nat.lt_of_lt_of_le (h1.lt i hi) hb⟩
end Sp
end Go.Proofs.YtmcpkhknjdiocaaGreat
namespace Go.Proofs.YtmcpkhknjdiocaaGreat
open Go.RowKit
attribute [local go_sem low] mk_extract
attribute [local go_sem] After.cell After.frozen mk_extract_end ByteArray.mk_append_mk
theorem ItemAt.cells {w : World} {b o : Nat} {x : Sp.Item} {V : Option Addr} {c : Nat} (h : ItemAt w b o x V c) : ∀ j v, (itemV x V c).toArray[j]? = some v → w.cell? ⟨b, o + j, none⟩ = some v := by
  intro j v hv
  rw [List.getElem?_toArray] at hv
  match j, hv with
  | 0, hv => exact h.c0.trans hv
  | 1, hv => exact h.c1.trans hv
  | 2, hv => exact h.c2.trans hv
  | 3, hv => exact h.c3.trans hv
  | 4, hv => exact h.c4.trans hv
  | 5, hv => exact h.c5.trans hv
  | 6, hv => exact h.c6.trans hv
  | 7, hv => exact h.c7.trans hv
  | 8, hv => exact h.c8.trans hv
  | 9, hv => exact h.c9.trans hv
  | j + 10, hv => simp [itemV] at hv
theorem item_fold (x : Sp.Item) (V : Option Addr) (c : Nat) : List.foldl (fun (cs : Array Value) (x : Value × Nat) => cs.setIfInBounds x.snd x.fst) #[.string ⟨#[]⟩, .int .i64 0, .string ⟨#[]⟩, .int .i64 0, .int .i64 0, .slice none 0 0, .int .i64 0, .int .i64 0, .int .i64 0, .int .i64 0] (itemV x V c).zipIdx = (itemV x V c).toArray := by
  simp [itemV]
/-- At the start. -/
structure PlS (w W : World) (s b : Nat) (fp : Value) (P : List Sp.Page) (l0 : List Sp.Item) (r : Refs) (x : Sp.Item) (V : Option Addr) (c : Nat) : Prop where
  st : StF W s fp P
  bp : Blk W b PageT (pageV (Sp.leafPg l0) r).toArray
  bx : Blk W (b + 1) ItemT (itemV x V c).toArray
  pr : PageRd W (OneM s) (Sp.leafPg l0) r
  xv : Txts W (OneM s) V x.vals
  hb : Below w.heap.size w W
/-- A row that is being made, of items that were there. -/
structure LfW (w0 W : World) (s : Nat) (L : List Sp.Item) (v : Value) : Prop where
  hb : Below w0.heap.size w0 W
  own : ∃ xs, W.ownsRow w0.heap.size ItemT 10 v L.length xs ∧ ItP w0 (OneM s) L xs
theorem LfW.start (w0 : World) (s : Nat) : LfW w0 w0 s [] (.slice none 0 0) := ⟨Below.refl _ _, [], own_nil _ _ _ _, rfl⟩
theorem LfW.app {w0 W w' : World} {s : Nat} {L : List Sp.Item} {v v' : Value} {xs : List Value} {y : Sp.Item} {V : Option Addr} {c n : Nat} (h : LfW w0 W s L v) (hown : W.ownsRow w0.heap.size ItemT 10 v L.length xs) (hx : ItP w0 (OneM s) L xs) (hy : Txts w0 (OneM s) V y.vals)
    (hown' : w'.ownsRow w0.heap.size ItemT 10 v' n (xs ++ itemV y V c)) (hn : n = L.length + 1) (hgr : (W.alloc (.cells (itemV y V c).toArray ItemT)).grownBy w' v.ownBlock) : LfW w0 w' s (L ++ [y]) v' := by
  have hal : Below w0.heap.size w0 (W.alloc (.cells (itemV y V c).toArray ItemT)) := h.hb.alloc h.hb.size _
  have hown2 := own_chg2 (S := NoM) hown ((Chg.refl _ _).alloc (.cells (itemV y V c).toArray ItemT)) (fun _ _ h => h)
  refine ⟨hal.trans (grown_own hown2 hal.size hgr), xs ++ itemV y V c, ?_, hx.snoc hy⟩
  subst hn
  rw [List.length_append]
  exact hown'
theorem LfW.go {w0 W w' : World} {s : Nat} {L : List Sp.Item} {v : Value} (h : LfW w0 W s L v) (hb : Below W.heap.size W w') : LfW w0 w' s L v := by
  obtain ⟨xs, h1, h2⟩ := h.own
  exact ⟨h.hb.trans (hb.mono h.hb.size), xs, own_chg2 (S := NoM) h1 (Chg.of_below hb) (fun _ _ h => h), h2⟩
/-- The row that was made is a leaf's. -/
theorem LfW.row {w0 W : World} {s : Nat} {L : List Sp.Item} {v : Value} (h : LfW w0 W s L v) (hs : s < w0.heap.size) (hn : 0 < L.length) (hl : L.length ≤ 1000) :
    ∃ g cap, v = .slice (some ⟨g, 0, none⟩) L.length cap ∧ w0.heap.size ≤ g ∧ g < W.heap.size ∧ L.length ≤ cap ∧ cap ≤ maxLen ∧ Items W (OneM s) (some ⟨g, 0, none⟩) L := by
  obtain ⟨xs, h1, h2⟩ := h.own
  obtain ⟨g, cap, rfl, hg, hc⟩ := own_some h1 hn
  obtain ⟨h3, h4⟩ := own_cap h1
  have hge : w0.heap.size ≤ g := by
    rcases h1.2 with ⟨h', _⟩ | ⟨g2, _, _, hv, hb, _⟩
    · cases h'
    · simp only [Value.slice.injEq, Option.some.injEq, Addr.mk.injEq] at hv
      omega
  refine ⟨g, cap, rfl, hge, hg, h3, h4, (h2.chg (Chg.of_below h.hb)).items hg (fun e => by unfold OneM at e; omega) (fun j u hu => ?_) hl⟩
  rw [Nat.zero_add]
  exact hc j u hu
end Go.Proofs.YtmcpkhknjdiocaaGreat
namespace Go.Proofs.YtmcpkhknjdiocaaGreat
open Go.RowKit
attribute [local go_sem low] mk_extract
attribute [local go_sem] After.cell After.frozen mk_extract_end ByteArray.mk_append_mk
set_option maxRecDepth 100000 in
set_option maxHeartbeats 16000000 in
theorem dirty_ne (s : Nat) (fp lv vi vp : Value) (P : List Sp.Page) (p : Sp.Page) (r : Refs) (w : World) (bs : Blk w s StoreT #[fp, lv, .int .i64 400, .slice none 0 0, .slice none 0 0, vi, vp])
    (oi : w.ownsRow 0 3 1 vi P.length (idsV P.length)) (op : ∃ xs, w.ownsRow 0 PageT 14 vp P.length xs ∧ PgCells w (OneM s) P xs) (hp : PageRd w (OneM s) p r) (h0 : 0 < P.length) (hn : P.length < 120) :
    Calls Tryz.prog 99 #[.pointer (some ⟨s, 0, none⟩), .int .i64 ((P.length : Int) + 2), .agg (pageV p r).toArray] w fun e w' => e = .returned (.tuple #[]) ∧
      ∃ vi' vp', Blk w' s StoreT #[fp, lv, .int .i64 400, .slice none 0 0, .slice none 0 0, vi', vp'] ∧ w'.ownsRow 0 3 1 vi' (P.length + 1) (idsV (P.length + 1)) ∧
        (∃ xs, w'.ownsRow 0 PageT 14 vp' (P.length + 1) xs ∧ PgCells w' (OneM s) (P ++ [p]) xs) ∧ Chg (OneM s) w w' := by
  obtain ⟨i0, hi0, hz0, hz1, hz2⟩ := info_parts info_int
  obtain ⟨i1, hi1, hy0, hy1, hy2⟩ := info_parts info_page
  have hal : Below w.heap.size w (w.alloc (.cells (pageV p r).toArray PageT)) := (Below.refl _ _).alloc (Nat.le_refl _) _
  have hD : DrS w (w.alloc (.cells (pageV p r).toArray PageT)) s w.heap.size P.length fp lv vi vp P p r := by
    obtain ⟨xs, h1, h2⟩ := op
    exact ⟨bs.below hal bs.lt, own_chg2 (S := NoM) oi (Chg.of_below hal) (fun _ _ h => h), ⟨xs, own_chg2 (S := NoM) h1 (Chg.of_below hal) (fun _ _ h => h), h2.chg (Chg.of_below hal)⟩, Blk.new _ _ _, hp.chg (Chg.of_below hal), Chg.of_below hal, Nat.le_refl _⟩
  clear bs oi op hp hal
  go_enter Tryz.func99, Tryz.ntmps99
  go_upto_region 1 with fail
  refine wp_gen (fun W => DrS w W s w.heap.size P.length fp lv vi vp P p r) hD ?_
  clear hD
  intro w1 D1
  obtain ⟨g, cap, hvi, hgw, hcg⟩ := own_some D1.oi h0
  have c5 : w1.cell? ⟨s, 5, none⟩ = some (.slice (some ⟨g, 0, none⟩) P.length cap) := by rw [← hvi]; exact D1.bs.cell 5
  have f5 := D1.bs.frozen 5
  obtain ⟨hca, hcb⟩ := own_cap (hvi ▸ D1.oi)
  simp only [maxLen] at hcb
  have hs1 := D1.bs.lt
  have D1 := Lib.hid D1
  have HCG := Lib.hid hcg
  have HVI := Lib.hid hvi
  clear hcg hvi
  go_wp2_with fail
  go_loopw [6] (fun i wr => ∃ k : Nat, k ≤ P.length ∧ i = .int .i64 (k : Int) ∧ wr = w1) (fun i _ => P.length - (intOf i).toNat)
  case atStart => exact ⟨0, by omega, rfl, rfl⟩
  case round =>
    obtain ⟨k, hk, rfl, rfl⟩ := hrel
    by_cases hlt : k < P.length
    · have hc := HCG.out k _ (idsV_at hlt)
      have hle : (((k + 2 : Nat) : Int) < (P.length : Int) + 2) := by omega
      go_wp2_with fail
      exact ⟨⟨k + 1, by omega, by go_num, trivial⟩, by simp [intOf]; omega⟩
    · obtain rfl : k = P.length := by omega
      clear hlt
      go_upto_region 4 with fail
      have HN2 := Lib.hid (show ∀ u ∈ idsV P.length, u.oneCell' = true from fun u hu => by
        unfold idsV at hu
        obtain ⟨k, _, rfl⟩ := List.mem_map.1 hu
        rfl)
      have HL := Lib.hid (show (idsV P.length).length = P.length * 1 by simp [idsV])
      have HI1 := Lib.hid (show ∀ u ∈ [Value.int .i64 ((P.length : Int) + 2)], u.oneCell' = true from fun u hu => by rw [List.mem_singleton.1 hu]; rfl)
      obtain ⟨A0, hif⟩ : ∃ A0 : Addr, (if cap = P.length then some (⟨g, 0, none⟩ : Addr) else some ⟨g, P.length, none⟩) = some A0 := by split <;> exact ⟨_, rfl⟩
      have HIF := Lib.hid hif
      clear hif
      go_cut [] (fun W => ∃ v, DrS w W s w.heap.size (P.length + 1) fp lv v vp P p r)
      case first =>
        go_region_law (first
          | (refine step_append_own rfl (.const (.slice none 0 0)) (.tmp 33) _ rfl wr.heap.size 3 i0 _ 1 8 Tryz.underlying66 hi0 hz0 hz1 hz2 rfl (by decide) (.slice none 0 0) 0 [] rfl (own_nil _ _ _ _) ⟨g, 0, none⟩ P.length cap (idsV P.length) rfl HL.out (cells_keep (w := wr) ?_ hgw (by simpa using HCG.out)) HN2.out (by simp only [maxLen]; omega) (by omega) ?_ ?_; ((repeat (first | (with_reducible exact Below.refl _ _) | (with_reducible assumption) | (refine below_step (by assumption) (by first | omega | (simp; done) | (simp; omega)) ?_) | (with_reducible refine Below.alloc ?_ (by first | omega | (simp; done) | (simp; omega)) _) | (with_reducible refine Below.drew ?_) | (with_reducible refine below_drewN ?_ _) | (with_reducible refine Below.setCell ?_ (by first | omega | (simp; done) | (simp; omega)) _)))); (exact Below.size (B := wr.heap.size) (by (repeat (first | (with_reducible exact Below.refl _ _) | (with_reducible assumption) | (refine below_step (by assumption) (by first | omega | (simp; done) | (simp; omega)) ?_) | (with_reducible refine Below.alloc ?_ (by first | omega | (simp; done) | (simp; omega)) _) | (with_reducible refine Below.drew ?_) | (with_reducible refine below_drewN ?_ _) | (with_reducible refine Below.setCell ?_ (by first | omega | (simp; done) | (simp; omega)) _))))); (intro v2 w2 hown2 hgr2 hnil2; replace hown2 : w2.ownsRow wr.heap.size 3 1 v2 P.length (idsV P.length) := by simpa using hown2); (obtain ⟨g1, cap1, rfl, hg1, _⟩ := own_some hown2 h0; have hb1 := grown_below hgr2; have hB2 : Below wr.heap.size wr w2 := (by (repeat (first | (with_reducible exact Below.refl _ _) | (with_reducible assumption) | (refine below_step (by assumption) (by first | omega | (simp; done) | (simp; omega)) ?_) | (with_reducible refine Below.alloc ?_ (by first | omega | (simp; done) | (simp; omega)) _) | (with_reducible refine Below.drew ?_) | (with_reducible refine below_drewN ?_ _) | (with_reducible refine Below.setCell ?_ (by first | omega | (simp; done) | (simp; omega)) _)))); (first | have C36 := Lib.hid (cell_one_keep hb1) | have C36 := Lib.hid (cell_one_keepD hb1) | skip); clear hb1 hgr2 hnil2; have HO2 := Lib.hid hown2; have hz2w := hB2.size; have hs2 : s < w2.heap.size := Nat.lt_of_lt_of_le hs1 hz2w; have c52 := (hB2.cell (p := ⟨s, 5, none⟩) hs1).trans c5; have f52 := (hB2.frozen (p := ⟨s, 5, none⟩) hs1).trans f5))
          | (refine step_append_lies _ rfl (.tmp 34) (.tmp 36) _ rfl wr.heap.size 3 i0 _ 1 8 Tryz.underlying66 hi0 hz0 hz1 hz2 rfl (by decide) (.slice (some ⟨g1, 0, none⟩) P.length cap1) P.length (idsV P.length) rfl ?_ _ 1 1 [.int .i64 ((P.length : Int) + 2)] rfl rfl ?_ HI1.out (by omega) (by simp only [maxLen]; omega) (by omega) ?_ _ rfl ?_; (first | exact HO2.out | exact own_chg2 (S := NoM) HO2.out ((Chg.refl _ _).alloc _) (fun _ _ h => h)); (first | exact C36.out | exact cell_one_new _ _ _); (first | omega | (simp; omega)); (intro g2 cap2 w3 hown3 hgr3 hat3 hlt3; have hb3 := grown_own (base := wr.heap.size) (by first | exact HO2.out | exact own_chg2 (S := NoM) HO2.out ((Chg.refl _ _).alloc _) (fun _ _ h => h)) (by first | omega | (simp; omega)) hgr3; have hB3 : Below wr.heap.size wr w3 := Below.trans (by (repeat (first | (with_reducible exact Below.refl _ _) | (with_reducible assumption) | (refine below_step (by assumption) (by first | omega | (simp; done) | (simp; omega)) ?_) | (with_reducible refine Below.alloc ?_ (by first | omega | (simp; done) | (simp; omega)) _) | (with_reducible refine Below.drew ?_) | (with_reducible refine below_drewN ?_ _) | (with_reducible refine Below.setCell ?_ (by first | omega | (simp; done) | (simp; omega)) _)))) hb3; clear hb3 hgr3 hat3; have HO3 := Lib.hid hown3; have hz3w := hB3.size; have hs3 : s < w3.heap.size := Nat.lt_of_lt_of_le hs1 hz3w; have c53 := (hB3.cell (p := ⟨s, 5, none⟩) hs1).trans c5; have f53 := (hB3.frozen (p := ⟨s, 5, none⟩) hs1).trans f5))
          | (refine step_append_own rfl (.tmp 37) (.tmp 43) _ rfl wr.heap.size 3 i0 _ 1 8 Tryz.underlying66 hi0 hz0 hz1 hz2 rfl (by decide) (.slice (some ⟨g2, 0, none⟩) (P.length + 1) cap2) (P.length + 1) (idsV P.length ++ [.int .i64 ((P.length : Int) + 2)]) rfl HO3.out A0 0 (cap - P.length) [] (congrArg (fun z => Value.slice z 0 (cap - P.length)) HIF.out) rfl (fun j u h => by simp at h) (fun u h => by simp at h) (by simp only [maxLen]; omega) (by omega) (by omega) ?_; (intro v4 w4 hown4 hgr4 hnil4; replace hown4 : w4.ownsRow wr.heap.size 3 1 v4 (P.length + 1) (idsV (P.length + 1)) := by rw [idsV_succ]; simpa using hown4); (obtain ⟨g4, cap4, rfl, _, _⟩ := own_some hown4 (Nat.succ_pos _); have hB4 : Below wr.heap.size wr w4 := hB3.trans (grown_own HO3.out (by omega) hgr4); clear hgr4 hnil4; have HO4 := Lib.hid hown4; have c54 := (hB4.cell (p := ⟨s, 5, none⟩) hs1).trans c5; have f54 := (hB4.frozen (p := ⟨s, 5, none⟩) hs1).trans f5)))
        all_goals go_wp2_with fail
        all_goals
          go_meet
          case rel => exact ⟨_, DrS.ids D1.out hB4 HO4.out⟩
      case rest =>
        obtain ⟨v5, D2⟩ := hcut
        obtain ⟨w5, rfl⟩ : ∃ W, W = wc := ⟨_, rfl⟩
        clear D1 HCG HVI c5 f5 HIF A0 HN2 HL HI1
        obtain ⟨xs, hxo, hxc⟩ := D2.op
        have hxl := hxc.len
        obtain ⟨g0, cap0, rfl, hgw0, hcg0⟩ := own_some hxo h0
        obtain ⟨hca0, hcb0⟩ := own_cap hxo
        simp only [maxLen] at hcb0
        have c6 : w5.cell? ⟨s, 6, none⟩ = some (.slice (some ⟨g0, 0, none⟩) P.length cap0) := D2.bs.cell 6
        have f6 := D2.bs.frozen 6
        have hs5 := D2.bs.lt
        have hb5 := D2.bp.lt
        have hsb : s ≠ w.heap.size := fun e => Blk.not_ D2.bs (t' := PageT) (by decide) _ (e ▸ D2.bp)
        have HQ1 := Lib.hid (pageV_one p r)
        have HX1 := Lib.hid hxc.one
        have HCG := Lib.hid hcg0
        have HXC := Lib.hid hxc
        have hbp := D2.bp
        have D2 := Lib.hid D2
        clear hxo hcg0 hxc
        obtain ⟨q0, q1, q2, q3, q4, q5, q6, q7, q8, q9, q10, q11, q12, q13, hq⟩ := pageV_form p r
        have HQ := Lib.hid hq
        rw [hq] at HQ1 hbp
        have b0 := hbp.cell 0
        have b1 := hbp.cell 1
        have b2 := hbp.cell 2
        have b3 := hbp.cell 3
        have b4 := hbp.cell 4
        have b5 := hbp.cell 5
        have b6 := hbp.cell 6
        have b7 := hbp.cell 7
        have b8 := hbp.cell 8
        have b9 := hbp.cell 9
        have b10 := hbp.cell 10
        have b11 := hbp.cell 11
        have b12 := hbp.cell 12
        have b13 := hbp.cell 13
        simp at b0 b1 b2 b3 b4 b5 b6 b7 b8 b9 b10 b11 b12 b13
        have HBP := Lib.hid hbp
        clear hbp hq
        obtain ⟨A0, hif⟩ : ∃ A0 : Addr, (if cap0 = P.length then some (⟨g0, 0, none⟩ : Addr) else some ⟨g0, P.length * 14, none⟩) = some A0 := by split <;> exact ⟨_, rfl⟩
        have HIF := Lib.hid hif
        clear hif
        go_upto_region 5 with fail
        go_region_law (first
          | (refine step_append_own rfl (.const (.slice none 0 0)) (.tmp 53) _ rfl w5.heap.size PageT i1 _ 14 200 Tryz.underlying117 hi1 hy0 hy1 hy2 rfl (by decide) (.slice none 0 0) 0 [] rfl (own_nil _ _ _ _) ⟨g0, 0, none⟩ P.length cap0 xs rfl hxl (cells_keep (w := w5) ?_ hgw0 (by simpa using HCG.out)) HX1.out (by simp only [maxLen]; omega) (by omega) ?_ ?_; ((repeat (first | (with_reducible exact Below.refl _ _) | (with_reducible assumption) | (refine below_step (by assumption) (by first | omega | (simp; done) | (simp; omega)) ?_) | (with_reducible refine Below.alloc ?_ (by first | omega | (simp; done) | (simp; omega)) _) | (with_reducible refine Below.drew ?_) | (with_reducible refine below_drewN ?_ _) | (with_reducible refine Below.setCell ?_ (by first | omega | (simp; done) | (simp; omega)) _)))); (exact Below.size (B := w5.heap.size) (by (repeat (first | (with_reducible exact Below.refl _ _) | (with_reducible assumption) | (refine below_step (by assumption) (by first | omega | (simp; done) | (simp; omega)) ?_) | (with_reducible refine Below.alloc ?_ (by first | omega | (simp; done) | (simp; omega)) _) | (with_reducible refine Below.drew ?_) | (with_reducible refine below_drewN ?_ _) | (with_reducible refine Below.setCell ?_ (by first | omega | (simp; done) | (simp; omega)) _))))); (intro v2 w2 hown2 hgr2 hnil2; replace hown2 : w2.ownsRow w5.heap.size PageT 14 v2 P.length xs := by simpa using hown2); (obtain ⟨g1, cap1, rfl, hg1, _⟩ := own_some hown2 h0; have hb1 := grown_below hgr2; have hB2 : Below w5.heap.size w5 w2 := (by (repeat (first | (with_reducible exact Below.refl _ _) | (with_reducible assumption) | (refine below_step (by assumption) (by first | omega | (simp; done) | (simp; omega)) ?_) | (with_reducible refine Below.alloc ?_ (by first | omega | (simp; done) | (simp; omega)) _) | (with_reducible refine Below.drew ?_) | (with_reducible refine below_drewN ?_ _) | (with_reducible refine Below.setCell ?_ (by first | omega | (simp; done) | (simp; omega)) _)))); (first | have C36 := Lib.hid (cells_new_keep (l := [q0, q1, q2, q3, q4, q5, q6, q7, q8, q9, q10, q11, q12, q13]) hb1) | have C36 := Lib.hid (cells_new_keepD (l := [q0, q1, q2, q3, q4, q5, q6, q7, q8, q9, q10, q11, q12, q13]) hb1) | skip); clear hb1 hgr2 hnil2; have HO2 := Lib.hid hown2; have hz2w := hB2.size; have hs2 : s < w2.heap.size := Nat.lt_of_lt_of_le hs5 hz2w; have hbb2 : w.heap.size < w2.heap.size := Nat.lt_of_lt_of_le hb5 hz2w; have c62 := (hB2.cell (p := ⟨s, 6, none⟩) hs5).trans c6; have f62 := (hB2.frozen (p := ⟨s, 6, none⟩) hs5).trans f6; have HBP2 := HBP.out.below hB2 hb5; have b0 := HBP2.cell 0; have b1 := HBP2.cell 1; have b2 := HBP2.cell 2; have b3 := HBP2.cell 3; have b4 := HBP2.cell 4; have b5 := HBP2.cell 5; have b6 := HBP2.cell 6; have b7 := HBP2.cell 7; have b8 := HBP2.cell 8; have b9 := HBP2.cell 9; have b10 := HBP2.cell 10; have b11 := HBP2.cell 11; have b12 := HBP2.cell 12; have b13 := HBP2.cell 13; clear HBP2; simp at b0 b1 b2 b3 b4 b5 b6 b7 b8 b9 b10 b11 b12 b13))
          | (refine step_append_lies _ rfl (.tmp 54) (.tmp 56) _ rfl w5.heap.size PageT i1 _ 14 200 Tryz.underlying117 hi1 hy0 hy1 hy2 rfl (by decide) (.slice (some ⟨g1, 0, none⟩) P.length cap1) P.length xs rfl ?_ _ 1 1 [q0, q1, q2, q3, q4, q5, q6, q7, q8, q9, q10, q11, q12, q13] rfl rfl ?_ HQ1.out (by omega) (by simp only [maxLen]; omega) (by omega) ?_ _ rfl ?_; (first | exact HO2.out | exact own_chg2 (S := NoM) HO2.out ((Chg.refl _ _).alloc _) (fun _ _ h => h)); (first | exact C36.out | exact cells_new _ _ [q0, q1, q2, q3, q4, q5, q6, q7, q8, q9, q10, q11, q12, q13]); (first | omega | (simp; omega)); (intro g2 cap2 w3 hown3 hgr3 hat3 hlt3; have hb3 := grown_own (base := w5.heap.size) (by first | exact HO2.out | exact own_chg2 (S := NoM) HO2.out ((Chg.refl _ _).alloc _) (fun _ _ h => h)) (by first | omega | (simp; omega)) hgr3; have hB3 : Below w5.heap.size w5 w3 := Below.trans (by (repeat (first | (with_reducible exact Below.refl _ _) | (with_reducible assumption) | (refine below_step (by assumption) (by first | omega | (simp; done) | (simp; omega)) ?_) | (with_reducible refine Below.alloc ?_ (by first | omega | (simp; done) | (simp; omega)) _) | (with_reducible refine Below.drew ?_) | (with_reducible refine below_drewN ?_ _) | (with_reducible refine Below.setCell ?_ (by first | omega | (simp; done) | (simp; omega)) _)))) hb3; clear hb3 hgr3 hat3; have HO3 := Lib.hid hown3; have hz3w := hB3.size; have hs3 : s < w3.heap.size := Nat.lt_of_lt_of_le hs5 hz3w; have c63 := (hB3.cell (p := ⟨s, 6, none⟩) hs5).trans c6; have f63 := (hB3.frozen (p := ⟨s, 6, none⟩) hs5).trans f6))
          | (refine step_append_own rfl (.tmp 57) (.tmp 63) _ rfl w5.heap.size PageT i1 _ 14 200 Tryz.underlying117 hi1 hy0 hy1 hy2 rfl (by decide) (.slice (some ⟨g2, 0, none⟩) (P.length + 1) cap2) (P.length + 1) (xs ++ [q0, q1, q2, q3, q4, q5, q6, q7, q8, q9, q10, q11, q12, q13]) rfl HO3.out A0 0 (cap0 - P.length) [] (congrArg (fun z => Value.slice z 0 (cap0 - P.length)) HIF.out) rfl (fun j u h => by simp at h) (fun u h => by simp at h) (by simp only [maxLen]; omega) (by omega) (by omega) ?_; (intro v4 w4 hown4 hgr4 hnil4; replace hown4 : w4.ownsRow w5.heap.size PageT 14 v4 (P.length + 1) (xs ++ [q0, q1, q2, q3, q4, q5, q6, q7, q8, q9, q10, q11, q12, q13]) := by simpa using hown4); (obtain ⟨g4, cap4, rfl, _, _⟩ := own_some hown4 (Nat.succ_pos _); have hB4 : Below w5.heap.size w5 w4 := hB3.trans (grown_own HO3.out (by omega) hgr4); clear hgr4 hnil4; have HO4 := Lib.hid hown4; have c64 := (hB4.cell (p := ⟨s, 6, none⟩) hs5).trans c6; have f64 := (hB4.frozen (p := ⟨s, 6, none⟩) hs5).trans f6)))
        all_goals go_wp2_with fail
        all_goals
          go_end0
          have hf := DrS.page D2.out hB4 HXC.out (v := .slice (some ⟨g4, 0, none⟩) (P.length + 1) cap4) (HQ.out.symm ▸ HO4.out)
          exact ⟨rfl, _, _, hf.bs, hf.oi, hf.opn, hf.ck⟩
end Go.Proofs.YtmcpkhknjdiocaaGreat
