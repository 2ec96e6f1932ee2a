/- Trees of the document: an item put into a leaf's row, step by step; a branch's rows with a child replaced. Trees of the document: what is laid when an item is put in, by a row's length. Trees made of numbers: what is at or behind a number; the walk over all; the least one by counting. Trees of the document: how many pages a put needs at most; a put into a whole tree, on pages. A tree whose pages are on a file; which child, by going down its keys. Trees of numbers: made one by one, on pages; the pages as bytes. A new store over a tree on a file: the tree is whole in it. Rows sorted. In plain Lean. What package tree answers of a whole tree. In plain Lean. A tree walked: its children one behind the other; rows that stay while others grow. -/
import Derived.Test.YtlpmjeiogdlifaaGreatQB08
import Derived.Test.YtlpmjeiogdlifaaGreatQB10
import Derived.Test.YtlpmjeiogdlifaaGreatQB16
import Derived.Test.YtlpmjeiogdlifaaGreatQB21
import Derived.Test.YtlpmjeiogdlifaaGreatQB22
set_option linter.unusedSimpArgs false
set_option linter.unusedVariables false
namespace Go.Proofs.YtlpmjeiogdlifaaGreat
open Go.RowKit
attribute [local go_sem low] mk_extract
attribute [local go_sem] After.cell After.frozen mk_extract_end ByteArray.mk_append_mk
namespace Sp
def LfOk (x : Item) (l0 : List Item) (k : Nat) (L : List Item) (dn : Bool) : Prop := insIt x l0 = L ++ (if dn then l0.drop k else insIt x (l0.drop k))
theorem LfOk.start (x : Item) (l0 : List Item) : LfOk x l0 0 [] false := rfl
theorem drop_getD {l0 : List Item} {k : Nat} (hk : k < l0.length) : l0.drop k = l0.getD k item0 :: l0.drop (k + 1) := by
  rw [List.drop_eq_getElem_cons hk]
  simp [List.getD, hk]
theorem LfOk.behind {x : Item} {l0 : List Item} {k : Nat} {L : List Item} (h : LfOk x l0 k L true) (hk : k < l0.length) : LfOk x l0 (k + 1) (L ++ [l0.getD k item0]) true := by
  unfold LfOk at *
  rw [h]
  simp only [if_true]
  rw [drop_getD hk]
  simp
theorem LfOk.ahead {x : Item} {l0 : List Item} {k : Nat} {L : List Item} (h : LfOk x l0 k L false) (hk : k < l0.length) (hlt : lt (l0.getD k item0).key x.key = true) : LfOk x l0 (k + 1) (L ++ [l0.getD k item0]) false := by
  unfold LfOk at *
  rw [h]
  simp only [Bool.false_eq_true, if_false]
  rw [drop_getD hk]
  conv => lhs; unfold insIt
  rw [if_pos hlt]
  simp
theorem LfOk.same {x : Item} {l0 : List Item} {k : Nat} {L : List Item} (h : LfOk x l0 k L false) (hk : k < l0.length) (hlt : lt (l0.getD k item0).key x.key = false) (he : (l0.getD k item0).key = x.key) : LfOk x l0 (k + 1) (L ++ [x]) true := by
  unfold LfOk at *
  rw [h]
  simp only [Bool.false_eq_true, if_false, if_true]
  rw [drop_getD hk]
  conv => lhs; unfold insIt
  rw [if_neg (by rw [hlt]; simp), if_pos he]
  simp
theorem LfOk.here {x : Item} {l0 : List Item} {k : Nat} {L : List Item} (h : LfOk x l0 k L false) (hk : k < l0.length) (hlt : lt (l0.getD k item0).key x.key = false) (he : (l0.getD k item0).key ≠ x.key) : LfOk x l0 (k + 1) (L ++ [x] ++ [l0.getD k item0]) true := by
  unfold LfOk at *
  rw [h]
  simp only [Bool.false_eq_true, if_false, if_true]
  rw [drop_getD hk]
  conv => lhs; unfold insIt
  rw [if_neg (by rw [hlt]; simp), if_neg he]
  simp
theorem LfOk.done {x : Item} {l0 L : List Item} (h : LfOk x l0 l0.length L true) : insIt x l0 = L := by
  unfold LfOk at h
  simpa using h
theorem LfOk.last {x : Item} {l0 L : List Item} (h : LfOk x l0 l0.length L false) : insIt x l0 = L ++ [x] := by
  unfold LfOk at h
  simpa [insIt] using h
theorem graft_keys {α : Type} {k : Nat} {t : α} {cs : List (Txt × α)} {c : Txt × α} (hc : cs[k]? = some c) : (graft k t none cs).map (·.1) = cs.map (·.1) := by
  unfold graft
  rw [hc]
  conv => rhs; rw [split_at hc]
  simp
theorem graft_keys' {α : Type} {k : Nat} {t : α} {m : Txt × α} {cs : List (Txt × α)} {c : Txt × α} (hc : cs[k]? = some c) : (graft k t (some m) cs).map (·.1) = (cs.map (·.1)).take (k + 1) ++ [m.1] ++ (cs.map (·.1)).drop (k + 1) := by
  have hk : k < cs.length := (List.getElem?_eq_some_iff.1 hc).1
  have hce : cs[k] = c := (List.getElem?_eq_some_iff.1 hc).2
  unfold graft
  rw [hc]
  dsimp only
  rw [List.take_succ_eq_append_getElem (by simpa using hk), List.getElem_map, hce]
  simp
theorem graft_ids {α : Type} {f : α → Int} {k : Nat} {t : α} {cs : List (Txt × α)} {c : Txt × α} (hc : cs[k]? = some c) : (graft k t none cs).map (fun c => f c.2) = (cs.map fun c => f c.2).set k (f t) := by
  have hk : k < cs.length := (List.getElem?_eq_some_iff.1 hc).1
  unfold graft
  rw [hc]
  dsimp only
  rw [List.set_eq_take_append_cons_drop, if_pos (by simpa using hk)]
  simp
theorem graft_ids' {α : Type} {f : α → Int} {k : Nat} {t : α} {m : Txt × α} {cs : List (Txt × α)} {c : Txt × α} (hc : cs[k]? = some c) :
    (graft k t (some m) cs).map (fun c => f c.2) = ((cs.map fun c => f c.2).set k (f t)).take (k + 1) ++ [f m.2] ++ ((cs.map fun c => f c.2).set k (f t)).drop (k + 1) := by
  have hk : k < cs.length := (List.getElem?_eq_some_iff.1 hc).1
  unfold graft
  rw [hc]
  dsimp only
  rw [List.take_succ_eq_append_getElem (by simpa using hk), List.getElem_set_self, List.take_set_of_le (Nat.le_refl k), List.drop_set_of_lt (Nat.lt_succ_self k)]
  simp
end Sp
end Go.Proofs.YtlpmjeiogdlifaaGreat
namespace Go.Proofs.YtlpmjeiogdlifaaGreat
open Go.RowKit
attribute [local go_sem low] mk_extract
attribute [local go_sem] After.cell After.frozen mk_extract_end ByteArray.mk_append_mk
namespace Sp
def moreId (d : Nat) (m : Option (Txt × T d)) : Nat := match m with | none => 0 | some m => T.id d m.2
def moreKey {d : Nat} (m : Option (Txt × T d)) : Txt := match m with | none => [] | some m => m.1
theorem put_is {x : Item} (hx : isItem x = true) {d : Nat} {t : T d} {P P' : List Page} {n : Nat} {b : Bool} (hok : T.Ok d b t) (r : PutRes P P' d t n (T.put x d t n)) (hn : (T.put x d t n).2.2 ≤ 400) :
    isPage (T.page d (T.put x d t n).1) = true ∧ ∀ m ∈ (T.put x d t n).2.1, isPage (T.page d m.2) = true := by
  obtain ⟨_, _, h3, h4⟩ := put_spec hx d b t n hok
  have h4 : T.Ok d true (T.put x d t n).1 := by
    cases b
    · exact h4.top
    · exact h4
  refine ⟨h4.page_is fun i hi => ⟨r.holds.ge i hi, ?_⟩, fun m hm => (h3 m hm).2.2.2.1.top.page_is fun i hi => ⟨(r.more m hm).ge i hi, ?_⟩⟩
  · exact Nat.lt_of_lt_of_le (r.ids i (List.mem_append.2 (.inl hi))).2 hn
  · refine Nat.lt_of_lt_of_le (r.ids i (List.mem_append.2 (.inr ?_))).2 hn
    exact List.mem_flatMap.2 ⟨m, by simpa using hm, hi⟩
theorem put_join0 {x : Item} (hx : isItem x = true) {id n : Nat} {l0 : List Item} {b : Bool} {P : List Page} (hok : T.Ok 0 b (id, l0)) (h : T.On P 0 (id, l0) n) (hn : (T.put x 0 (id, l0) n).2.2 ≤ 400) :
    (insIt x l0).length ≤ 5 ∧
    ((insIt x l0).length ≤ 4 → isPage (leafPg (insIt x l0)) = true ∧ PutRes P (P.set (id - 2) (leafPg (insIt x l0))) 0 (id, l0) n (T.put x 0 (id, l0) n) ∧ (T.put x 0 (id, l0) n).2.1 = none) ∧
    (¬ (insIt x l0).length ≤ 4 → isPage (leafPg ((insIt x l0).take 3)) = true ∧ isPage (leafPg ((insIt x l0).drop 3)) = true ∧ PutRes P (P.set (id - 2) (leafPg ((insIt x l0).take 3)) ++ [leafPg ((insIt x l0).drop 3)]) 0 (id, l0) n (T.put x 0 (id, l0) n) ∧
      (T.put x 0 (id, l0) n).2.2 = n + 1 ∧ moreId 0 (T.put x 0 (id, l0) n).2.1 = n ∧ moreKey (T.put x 0 (id, l0) n).2.1 = ((insIt x l0).getD 3 item0).key) := by
  have h4 : l0.length ≤ 4 := hok.1
  have r := leaf_res (x := x) h h4
  dsimp only at r
  have hl := (insIt_len x l0).2
  refine ⟨by omega, fun hs => ?_, fun hs => ?_⟩
  · rw [if_pos hs] at r
    have hp := (put_is hx hok r hn).1
    have e := put_zero x id l0 n
    rw [if_pos hs] at e
    refine ⟨?_, r, by rw [e]; rfl⟩
    rw [e] at hp
    exact hp
  · rw [if_neg hs] at r
    have hp := put_is hx hok r hn
    have e := put_zero x id l0 n
    rw [if_neg hs] at e
    refine ⟨?_, ?_, r, by rw [e], by rw [e]; rfl, by rw [e]; rfl⟩
    · have := hp.1
      rw [e] at this
      exact this
    · have := hp.2 (((insIt x l0).getD 3 item0).key, (n, (insIt x l0).drop 3)) (by rw [e]; rfl)
      exact this
theorem put_join {x : Item} (hx : isItem x = true) {d id n : Nat} {cs : List (Txt × T d)} {c : Txt × T d} {b : Bool} {P P1 : List Page} {ks : List Txt} {is : List Int} (hok : T.Ok (d + 1) b (id, cs)) (h : T.On P (d + 1) (id, cs) n) (hc : cs[downI x.key cs]? = some c)
    (r : PutRes P P1 d c.2 n (T.put x d c.2 n)) (hn : (T.put x (d + 1) (id, cs) n).2.2 ≤ 400)
    (hks : ks = (graft (downI x.key cs) (T.put x d c.2 n).1 (T.put x d c.2 n).2.1 cs).map (·.1)) (his : is = (graft (downI x.key cs) (T.put x d c.2 n).1 (T.put x d c.2 n).2.1 cs).map fun c => ((T.id d c.2 : Nat) : Int)) :
    ks.length ≤ 5 ∧ is.length = ks.length ∧
    (ks.length ≤ 4 → isPage (branchPg ks is) = true ∧ PutRes P (P1.set (id - 2) (branchPg ks is)) (d + 1) (id, cs) n (T.put x (d + 1) (id, cs) n) ∧ (T.put x (d + 1) (id, cs) n).2.1 = none) ∧
    (¬ ks.length ≤ 4 → isPage (branchPg (ks.take 3) (is.take 3)) = true ∧ isPage (branchPg ([] :: ks.drop 4) (is.drop 3)) = true ∧
      PutRes P (P1.set (id - 2) (branchPg (ks.take 3) (is.take 3)) ++ [branchPg ([] :: ks.drop 4) (is.drop 3)]) (d + 1) (id, cs) n (T.put x (d + 1) (id, cs) n) ∧
      (T.put x (d + 1) (id, cs) n).2.2 = (T.put x d c.2 n).2.2 + 1 ∧ moreId (d + 1) (T.put x (d + 1) (id, cs) n).2.1 = (T.put x d c.2 n).2.2 ∧ moreKey (T.put x (d + 1) (id, cs) n).2.1 = ks.getD 3 []) := by
  have hcl : cs.length ≤ 4 := hok.2.1
  have hlen : (graft (downI x.key cs) (T.put x d c.2 n).1 (T.put x d c.2 n).2.1 cs).length ≤ 5 := by
    unfold graft
    rw [hc]
    have hk : downI x.key cs < cs.length := (List.getElem?_eq_some_iff.1 hc).1
    have hml : (T.put x d c.2 n).2.1.toList.length ≤ 1 := by cases (T.put x d c.2 n).2.1 <;> simp
    simp only [List.length_append, List.length_cons, List.length_take, List.length_drop]
    omega
  have e := put_succ x d id cs n
  rw [hc] at e
  dsimp only at e
  have hno := node_res (x := x) (P' := if ks.length ≤ 4 then P1.set (id - 2) (branchPg ks is) else P1.set (id - 2) (branchPg (ks.take 3) (is.take 3)) ++ [branchPg ([] :: ks.drop 4) (is.drop 3)]) h hc hcl r
  have hl1 : ks.length = (graft (downI x.key cs) (T.put x d c.2 n).1 (T.put x d c.2 n).2.1 cs).length := by rw [hks, List.length_map]
  have hl2 : is.length = ks.length := by rw [his, hl1, List.length_map]
  have r2 := hno (fun h4 => by
    rw [if_pos (by omega)]
    rw [hks, his]
    rfl) (fun a0 a1 a2 a3 a4 hg => by
    rw [hg] at hl1
    rw [if_neg (by rw [hl1]; simp)]
    rw [hks, his, hg]
    rfl)
  refine ⟨by omega, hl2, fun hs => ?_, fun hs => ?_⟩
  · rw [if_pos hs] at r2
    have hp := (put_is hx hok r2 hn).1
    rw [if_pos (by omega)] at e
    refine ⟨?_, r2, by rw [e]⟩
    rw [e] at hp
    rw [hks, his]
    exact hp
  · rw [if_neg hs] at r2
    have hp := put_is hx hok r2 hn
    rw [if_neg (by omega)] at e
    generalize hgr : graft (downI x.key cs) (T.put x d c.2 n).1 (T.put x d c.2 n).2.1 cs = g at *
    match g, hl1, hlen with
    | [a0, a1, a2, a3, a4], _, _ =>
      have e' : T.put x (d + 1) (id, cs) n = ((id, [a0, a1, a2]), some (a3.1, ((T.put x d c.2 n).2.2, [([], a3.2), a4])), (T.put x d c.2 n).2.2 + 1) := e
      refine ⟨?_, ?_, r2, by rw [e'], by rw [e']; rfl, by rw [e', hks]; rfl⟩
      · have := hp.1
        rw [e'] at this
        rw [hks, his]
        exact this
      · have := hp.2 (a3.1, ((T.put x d c.2 n).2.2, [([], a3.2), a4])) (by rw [e']; rfl)
        rw [hks, his]
        exact this
    | [], h1, _ => rw [h1] at hs; simp at hs
    | [_], h1, _ => rw [h1] at hs; simp at hs
    | [_, _], h1, _ => rw [h1] at hs; simp at hs
    | [_, _, _], h1, _ => rw [h1] at hs; simp at hs
    | [_, _, _, _], h1, _ => rw [h1] at hs; simp at hs
    | _ :: _ :: _ :: _ :: _ :: _ :: _, _, h2 => simp at h2
theorem T.On.kid {P : List Page} {d id n : Nat} {cs : List (Txt × T d)} {c : Txt × T d} {k : Nat} (h : T.On P (d + 1) (id, cs) n) (hc : cs[k]? = some c) : T.On P d c.2 n := by
  have hcm : c ∈ cs := List.mem_of_getElem? hc
  refine ⟨h.len, h.holds.2 c hcm, fun i hi => h.lt i (List.mem_cons_of_mem _ (List.mem_flatMap.2 ⟨c, hcm, hi⟩)), ?_⟩
  have h2 : (cs.flatMap fun a : Txt × T d => T.ids d a.2).Nodup := (List.nodup_cons.1 (show (id :: cs.flatMap fun a : Txt × T d => T.ids d a.2).Nodup from h.nodup)).2
  rw [split_at hc, List.flatMap_append, List.flatMap_cons] at h2
  exact (List.nodup_append.1 (List.nodup_append.1 h2).2.1).1
end Sp
end Go.Proofs.YtlpmjeiogdlifaaGreat
namespace Go.Proofs.YtlpmjeiogdlifaaGreat
open Go.RowKit
attribute [local go_sem low] mk_extract
attribute [local go_sem] After.cell After.frozen mk_extract_end ByteArray.mk_append_mk
namespace Sp
def fromN (l : List Nat) (n : Nat) : Option Nat := l.find? fun k => decide (n ≤ k)
def leastF (k : Nat) (keys : List Nat) : Nat := keys.foldl (fun a n => if k ≤ n then min a n else a) 256
def getI (l : List Item) (key : Txt) : Option Item := (l.find? fun y => !lt y.key key).bind fun y => if y.key = key then some y else none
end Sp
end Go.Proofs.YtlpmjeiogdlifaaGreat
namespace Go.Proofs.YtlpmjeiogdlifaaGreat
open Go.RowKit
attribute [local go_sem low] mk_extract
attribute [local go_sem] After.cell After.frozen mk_extract_end ByteArray.mk_append_mk
namespace Sp
theorem put_bound {x : Item} (hx : isItem x = true) {P : List Page} {r : Rt} {n : Nat} (h : Rt.At P (some r) n) :
    (T.put x r.d r.t n).2.2 ≤ (insIt x (T.items r.d r.t)).length + 2 ∧ ∀ m, (T.put x r.d r.t n).2.1 = some m → (T.put x r.d r.t n).2.2 + 1 ≤ (insIt x (T.items r.d r.t)).length + 2 := by
  obtain ⟨h1, h2, h3⟩ := h
  obtain ⟨_, q2, q3, q4⟩ := put_spec hx r.d true r.t n h2
  have hc := put_cnt x r.d r.t n
  rw [← q2]
  cases hm : (T.put x r.d r.t n).2.1 with
  | none =>
    rw [hm] at hc
    have e0 : (moreIds r.d (none : Option (Txt × T r.d))).length = 0 := rfl
    have := q4.cnt_top
    refine ⟨?_, fun m h => by cases h⟩
    rw [List.length_append]
    omega
  | some m =>
    rw [hm] at hc
    have e0 : moreIds r.d (some m) = T.ids r.d m.2 := by unfold moreIds; simp
    rw [e0] at hc
    obtain ⟨_, _, _, a, b⟩ := q3 m hm
    have h5 := a.cnt
    have h6 := b.cnt
    have e1 : ((some m : Option (Txt × T r.d)).toList.flatMap fun m => T.items r.d m.2) = T.items r.d m.2 := by simp
    rw [e1, List.length_append]
    refine ⟨by omega, fun _ _ => by omega⟩
theorem putR_none (x : Item) (n : Nat) : putR x none n = (some ⟨0, (n, [x])⟩, n + 1) := rfl
theorem putR_same {x : Item} {r : Rt} {n : Nat} (h : (T.put x r.d r.t n).2.1 = none) : putR x (some r) n = (some ⟨r.d, (T.put x r.d r.t n).1⟩, (T.put x r.d r.t n).2.2) := by
  unfold putR
  dsimp only
  rw [h]
theorem putR_new {x : Item} {r : Rt} {n : Nat} {m : Txt × T r.d} (h : (T.put x r.d r.t n).2.1 = some m) : putR x (some r) n = (some ⟨r.d + 1, ((T.put x r.d r.t n).2.2, [([], (T.put x r.d r.t n).1), m])⟩, (T.put x r.d r.t n).2.2 + 1) := by
  unfold putR
  dsimp only
  rw [h]
theorem new_is {x : Item} (hx : isItem x = true) {P P' : List Page} {r : Rt} {n : Nat} {m : Txt × T r.d} (h : Rt.At P (some r) n) (hr : PutRes P P' r.d r.t n (T.put x r.d r.t n)) (hm : (T.put x r.d r.t n).2.1 = some m) (hb : (T.put x r.d r.t n).2.2 + 1 ≤ 400) :
    isPage (branchPg [[], m.1] [((T.id r.d (T.put x r.d r.t n).1 : Nat) : Int), ((T.id r.d m.2 : Nat) : Int)]) = true := by
  have h0 := (At_new hx h hr hm).1
  rw [putR_new hm] at h0
  obtain ⟨h1, h2, h3⟩ := h0
  exact h2.page_is fun i hi => ⟨h1.holds.ge i hi, Nat.lt_of_lt_of_le (h1.lt i hi) hb⟩
end Sp
end Go.Proofs.YtlpmjeiogdlifaaGreat
namespace Go.Proofs.YtlpmjeiogdlifaaGreat
open Go.RowKit
attribute [local go_sem low] mk_extract
attribute [local go_sem] After.cell After.frozen mk_extract_end ByteArray.mk_append_mk
namespace Sp
def T.Filed (V : List Txt) : (d : Nat) → T d → Prop
  | 0, t => 2 ≤ t.1 ∧ t.1 < 400 ∧ readOk (atV V (t.1 : Int)) = true ∧ parse (atV V (t.1 : Int)) = T.page 0 t
  | d + 1, t => (2 ≤ t.1 ∧ t.1 < 400 ∧ readOk (atV V (t.1 : Int)) = true ∧ parse (atV V (t.1 : Int)) = T.page (d + 1) t) ∧ ∀ c ∈ t.2, T.Filed V d c.2
theorem T.Filed.root {V : List Txt} {d : Nat} {t : T d} (h : T.Filed V d t) : 2 ≤ T.id d t ∧ T.id d t < 400 ∧ readOk (atV V (T.id d t : Int)) = true ∧ parse (atV V (T.id d t : Int)) = T.page d t := by
  cases d with
  | zero => exact h
  | succ d => exact h.1
theorem filed_of {P : List Page} {V : List Txt} (hV : ∀ i p, P[i]? = some p → atV V ((i + 2 : Nat) : Int) = bytes p) : ∀ (d : Nat) (t : T d), T.Holds P d t → T.Ok d true t → (∀ i ∈ T.ids d t, 2 ≤ i ∧ i < 400) → T.Filed V d t
  | d, t, h, hok, hi => by
    have hr := h.root
    have hid := hi _ T.id_mem
    have hp := hok.page_is hi
    have hv := hV _ _ hr.2
    rw [show T.id d t - 2 + 2 = T.id d t by omega] at hv
    have hb : readOk (atV V (T.id d t : Int)) = true ∧ parse (atV V (T.id d t : Int)) = T.page d t := by
      rw [hv]
      have hrng : Rng (T.page d t) := by
        cases d <;> exact ⟨fun f hf => (by cases hf), Int.le_refl 0, (show (0 : Int) < 18446744073709551616 by decide)⟩
      exact ⟨readOk_bytes hp hrng, parse_bytes hp hrng⟩
    cases d with
    | zero => exact ⟨hid.1, hid.2, hb.1, hb.2⟩
    | succ d =>
      obtain ⟨id, cs⟩ := t
      refine ⟨⟨hid.1, hid.2, hb.1, hb.2⟩, fun c hc => filed_of hV d c.2 (h.2 c hc) ?_ fun i hi' => hi i (List.mem_cons_of_mem _ (List.mem_flatMap.2 ⟨c, hc, hi'⟩))⟩
      exact (hok.2.2.2.2.2 c hc).top
def bel {α : Type} (cs : List (Txt × α)) (k : Nat) (b : Txt) : Txt := match cs[k + 1]? with | some c' => c'.1 | none => b
end Sp
end Go.Proofs.YtlpmjeiogdlifaaGreat
namespace Go.Proofs.YtlpmjeiogdlifaaGreat
open Go.RowKit
attribute [local go_sem low] mk_extract
attribute [local go_sem] After.cell After.frozen mk_extract_end ByteArray.mk_append_mk
namespace Sp
def treeN (keys : List Nat) : Option Rt × Nat := keys.foldl (fun s k => putR (itN k) s.1 s.2) (none, 2)
theorem treeN_snoc (keys : List Nat) (k : Nat) : treeN (keys ++ [k]) = putR (itN k) (treeN keys).1 (treeN keys).2 := by
  unfold treeN
  rw [List.foldl_append]
  rfl
theorem take_snoc {α : Type} {l : List α} {j : Nat} {d : α} (hj : j < l.length) : l.take (j + 1) = l.take j ++ [l.getD j d] := by
  rw [List.take_succ_eq_append_getElem hj]
  simp [List.getD, hj]
theorem putR_bound {x : Item} (hx : isItem x = true) {P : List Page} {o : Option Rt} {n : Nat} (h : Rt.At P o n) : (putR x o n).2 ≤ (insIt x (Rt.items o)).length + 2 := by
  cases o with
  | none =>
    obtain ⟨_, rfl⟩ := h
    rw [putR_none]
    show 3 ≤ [x].length + 2
    simp
  | some r =>
    obtain ⟨h1, h2⟩ := put_bound hx h
    cases hm : (T.put x r.d r.t n).2.1 with
    | none => rw [putR_same hm]; exact h1
    | some m => rw [putR_new hm]; exact h2 m hm
structure TreeAt (keys : List Nat) (P : List Page) : Prop where
  at_ : Rt.At P (treeN keys).1 (treeN keys).2
  items : Rt.items (treeN keys).1 = (numsOf keys).map itN
theorem TreeAt.start : TreeAt [] [] := ⟨⟨rfl, rfl⟩, rfl⟩
theorem TreeAt.bound {keys : List Nat} {P : List Page} (h : TreeAt keys P) (hk : ∀ k ∈ keys, k < 256) {k : Nat} (hk2 : k < 256) : (putR (itN k) (treeN keys).1 (treeN keys).2).2 ≤ keys.length + 3 := by
  have h1 := putR_bound (itN_is k hk2) h.at_
  rw [h.items, insIt_N hk2 (numsOf_lt hk), List.length_map] at h1
  have h2 := insN_len (n := k) (numsOf keys)
  have h3 := numsOf_len keys
  omega
theorem TreeAt.next {keys : List Nat} {P P' : List Page} (h : TreeAt keys P) (hk : ∀ k ∈ keys, k < 256) {k : Nat} (hk2 : k < 256) (h1 : Rt.At P' (putR (itN k) (treeN keys).1 (treeN keys).2).1 (putR (itN k) (treeN keys).1 (treeN keys).2).2)
    (h2 : Rt.items (putR (itN k) (treeN keys).1 (treeN keys).2).1 = insIt (itN k) (Rt.items (treeN keys).1)) : TreeAt (keys ++ [k]) P' := by
  refine ⟨by rw [treeN_snoc]; exact h1, ?_⟩
  rw [treeN_snoc, h2, h.items, numsOf_snoc, insIt_N hk2 (numsOf_lt hk)]
theorem Rt.At.len {P : List Page} {o : Option Rt} {n : Nat} (h : Rt.At P o n) : P.length + 2 = n := by
  cases o with
  | none => obtain ⟨rfl, rfl⟩ := h; rfl
  | some r => exact h.1.len
theorem TreeAt.len {keys : List Nat} {P : List Page} (h : TreeAt keys P) : P.length ≤ keys.length := by
  have h1 := h.at_.len
  have h2 := h.at_.cnt
  rw [h.items, List.length_map] at h2
  have := numsOf_len keys
  omega
def Rt.Filed (V : List Txt) (o : Option Rt) : Prop := ∀ r, o = some r → T.Filed V r.d r.t ∧ T.Ok r.d true r.t ∧ r.d < 8
theorem atV_pages {P : List Page} {i : Nat} {p : Page} (h : P[i]? = some p) : atV ([[], []] ++ P.map bytes) ((i + 2 : Nat) : Int) = bytes p := by
  have hi := (List.getElem?_eq_some_iff.1 h).1
  unfold atV
  rw [if_neg (by simp; omega), List.getD_eq_getElem?_getD, Int.toNat_natCast, List.getElem?_append_right (by simp), List.getElem?_map]
  simp [h]
theorem TreeAt.filed {keys : List Nat} {P : List Page} (h : TreeAt keys P) (hn : keys.length ≤ 120) : Rt.Filed ([[], []] ++ P.map bytes) (treeN keys).1 := by
  intro r hr
  have hat := h.at_
  have hit := h.items
  rw [hr] at hat hit
  obtain ⟨h1, h2, h3⟩ := hat
  have hl := h.len
  have h1l := h1.len
  have hcn : (T.items r.d r.t).length < 256 := by
    have : T.items r.d r.t = (numsOf keys).map itN := hit
    rw [this, List.length_map]
    have := numsOf_len keys
    omega
  refine ⟨filed_of (fun i p hp => atV_pages hp) r.d r.t h1.holds h2 fun i hi => ⟨h1.holds.ge i hi, ?_⟩, h2, h2.lev hcn⟩
  have := h1.lt i hi
  omega
def RowOk (L : List Int) : Prop := L.Pairwise (· < ·) ∧ ∀ x ∈ L, 0 ≤ x ∧ x < 400
theorem riseN_len : ∀ (L : List Int) (n : Nat) (a : Int), L.Pairwise (· < ·) → (∀ x ∈ L, a ≤ x ∧ x < a + n) → L.length ≤ n
  | [], n, _, _, _ => Nat.zero_le n
  | h :: t, n, a, hp, hb => by
    obtain ⟨h1, h2⟩ := List.pairwise_cons.1 hp
    have hh := hb h (by simp)
    have := riseN_len t (a + n - (h + 1)).toNat (h + 1) h2 fun x hx => by
      have := h1 x hx
      have := hb x (by simp [hx])
      omega
    rw [List.length_cons]
    omega
theorem RowOk.len {L : List Int} (h : RowOk L) : L.length ≤ 400 := riseN_len L 400 0 h.1 fun x hx => by have := h.2 x hx; omega
end Sp
end Go.Proofs.YtlpmjeiogdlifaaGreat
namespace Go.Proofs.YtlpmjeiogdlifaaGreat
open Go.RowKit
attribute [local go_sem low] mk_extract
attribute [local go_sem] After.cell After.frozen mk_extract_end ByteArray.mk_append_mk
namespace Sp
theorem sort_rise {L : List Int} (h : L.Nodup) : (L.mergeSort fun x y => decide (x ≤ y)).Pairwise (· < ·) := by
  have h1 : (L.mergeSort fun x y => decide (x ≤ y)).Pairwise fun a b => decide (a ≤ b) = true := List.pairwise_mergeSort (fun a b c h1 h2 => by
    have := of_decide_eq_true h1; have := of_decide_eq_true h2
    exact decide_eq_true (by omega)) (fun a b => by
    rcases Int.le_total a b with h | h <;> simp [h]) L
  have h2 : (L.mergeSort fun x y => decide (x ≤ y)).Nodup := (List.mergeSort_perm L _).nodup_iff.2 h
  refine (h1.and h2).imp fun {a b} h => ?_
  have := of_decide_eq_true h.1
  have := h.2
  omega
theorem nodup_len {L : List Int} {a b : Int} (h : L.Nodup) (hb : ∀ x ∈ L, a ≤ x ∧ x < b) : (L.length : Int) ≤ max (b - a) 0 := by
  have h1 := rise_len (sort_rise h) (a := a) (b := b) fun x hx => hb x ((List.mergeSort_perm L _).mem_iff.1 hx)
  rwa [List.length_mergeSort] at h1
theorem all_met {L : List Nat} {n : Nat} (h : L.Nodup) (hb : ∀ i ∈ L, 2 ≤ i ∧ i < n) (hl : L.length + 2 = n) {j : Int} (h2 : 2 ≤ j) (hn : j < n) : ∃ i ∈ L, (i : Int) = j := by
  by_cases hj : ∃ i ∈ L, (i : Int) = j
  · exact hj
  · exfalso
    have h1 : (j :: L.map fun i => ((i : Nat) : Int)).Nodup := List.nodup_cons.2 ⟨fun hm => by
      obtain ⟨i, hi, e⟩ := List.mem_map.1 hm
      exact hj ⟨i, hi, e⟩, nodup_mapInt h⟩
    have h3 := nodup_len (a := 2) (b := (n : Int)) h1 fun x hx => by
      rcases List.mem_cons.1 hx with rfl | hx
      · exact ⟨h2, hn⟩
      · obtain ⟨i, hi, rfl⟩ := List.mem_map.1 hx
        have := hb i hi
        omega
    rw [List.length_cons, List.length_map] at h3
    omega
theorem filed_in {V : List Txt} {l m : Int} (hm : m = 400) : ∀ {d : Nat} {t : T d}, T.Filed V d t → T.In ((Sto.new l m []).read V) d t := by
  have hr : ∀ (i : Nat) (p : Page), 2 ≤ i → i < 400 → readOk (atV V (i : Int)) = true → parse (atV V (i : Int)) = p → (Sto.new l m []).read V (i : Int) = (p, none) := fun i p h2 h4 h1 h3 => by
    have e1 : (Sto.new l m []).most = 400 := by show min (max m 2) 400 = 400; omega
    unfold Sto.read
    rw [if_neg (by rw [e1]; omega)]
    show readF (atV V (i : Int)) = _
    unfold readF
    rw [h1, if_pos rfl, h3]
  intro d
  induction d with
  | zero => intro t h; exact ⟨h.1, hr t.1 _ h.1 h.2.1 h.2.2.1 h.2.2.2⟩
  | succ d ih => intro t h; exact ⟨⟨h.1.1, hr t.1 _ h.1.1 h.1.2.1 h.1.2.2.1 h.1.2.2.2⟩, fun c hc => ih (h.2 c hc)⟩
theorem whole_new {keys : List Nat} {P : List Page} (h : TreeAt keys P) (hn : keys.length ≤ 120) : Whole ([[], []] ++ P.map bytes) ((P.length + 2 : Nat) : Int) [] (Sto.new ((P.length + 2 : Nat) : Int) 400 []) (treeN keys).1 := by
  have hlen := h.len
  have hl : (Sto.new ((P.length + 2 : Nat) : Int) 400 []).last = ((P.length + 2 : Nat) : Int) := by
    show min (max ((P.length + 2 : Nat) : Int) 2) 400 = _
    omega
  have hk : Kp ((P.length + 2 : Nat) : Int) [] (Sto.new ((P.length + 2 : Nat) : Int) 400 []) := Kp.new (n := ((P.length + 2 : Nat) : Int)) (by omega) (by omega) []
  have hf := h.filed hn
  have hat := h.at_
  generalize (treeN keys).1 = o at *
  generalize (treeN keys).2 = n at *
  rcases o with _ | r
  · obtain ⟨hP, hn2⟩ := hat
    subst hP
    refine ⟨hk, rfl, fun r hr => (by cases hr), fun i hi => (by cases hi), fun j h2 hj => ?_, fun x hx => (by cases hx)⟩
    rw [hl] at hj
    simp at hj
    omega
  · obtain ⟨hon, hok, hcn⟩ := hat
    obtain ⟨hfd, _, _⟩ := hf r rfl
    have hln := hon.len
    refine ⟨hk, rfl, fun r' hr => ?_, fun i hi => (by simp [Sto.new]), fun j h2 hj => ?_, fun x hx => (by cases hx)⟩
    · obtain rfl := (Option.some.inj hr).symm
      refine ⟨⟨filed_in rfl hfd, fun i hi => ⟨?_, by simp [Sto.new]⟩, hon.nodup⟩, hok⟩
      rw [hl]
      have := hon.lt i hi
      omega
    · rw [hl] at hj
      exact .inl (all_met hon.nodup (fun i hi => ⟨hon.holds.ge i hi, hon.lt i hi⟩) hcn h2 (by omega))
end Sp
end Go.Proofs.YtlpmjeiogdlifaaGreat
namespace Go.Proofs.YtlpmjeiogdlifaaGreat
open Go.RowKit
attribute [local go_sem low] mk_extract
attribute [local go_sem] After.cell After.frozen mk_extract_end ByteArray.mk_append_mk
namespace Sp
def Rt.nodes (o : Option Rt) : List (Int × Page) := match o with | none => [] | some r => T.nodes r.d r.t
theorem Rt.nodes_items (o : Option Rt) : (Rt.nodes o).flatMap (fun x => x.2.items) = Rt.items o := by
  rcases o with _ | r
  · rfl
  · exact Sp.nodes_items
theorem Rt.nodes_ids (o : Option Rt) : (Rt.nodes o).map (fun x => x.1) = (Rt.ids o).map (fun i => ((i : Nat) : Int)) := by
  rcases o with _ | r
  · rfl
  · exact Sp.nodes_ids
theorem Rt.nodes_kind {o : Option Rt} (h : ∀ y ∈ Rt.items o, y.kind = 1) : ∀ x ∈ Rt.nodes o, ∀ y ∈ x.2.items, y.kind = 1 := fun x hx y hy => h y (by
  rw [← Rt.nodes_items]
  exact List.mem_flatMap.2 ⟨x, hx, hy⟩)
section
variable {V : List Txt} {n : Int} {was : List Int} {s : Sto} {o : Option Rt}
theorem Whole.lev (h : Whole V n was s o) (hn : (Rt.items o).length < 256) {r : Rt} (hr : o = some r) : r.d < 8 := by
  subst hr
  exact (h.tr r rfl).2.lev hn
theorem Whole.walk (h : Whole V n was s o) (hn : (Rt.items o).length < 256) : walkI (s.read V) 8 ((Rt.root o : Nat) : Int) = (Rt.nodes o, none) := by
  rcases o with _ | r
  · unfold walkI
    rw [if_pos (show ((Rt.root none : Nat) : Int) = 0 from rfl)]
    rfl
  · exact walk_tree (h.tr r rfl).1.inn (h.lev hn rfl)
theorem Whole.shape (h : Whole V n was s o) (hn : (Rt.items o).length < 256) {r : Rt} (hr : o = some r) : shapeI (s.read V) 8 ((Rt.root o : Nat) : Int) = (T.shape r.d r.t, none) := by
  subst hr
  exact shape_tree (h.tr r rfl).1.inn (h.lev hn rfl)
theorem Whole.checks (h : Whole V n was s o) (hn : (Rt.items o).length < 256) {r : Rt} (hr : o = some r) : checksI (s.read V) 8 ((Rt.root o : Nat) : Int) [] [] true 1 = 1 + (r.d : Int) := by
  subst hr
  obtain ⟨h1, h2⟩ := h.tr r rfl
  exact checks_tree h1.inn (h.lev hn rfl) h2 (by decide) fun y _ => within_iff.2 ⟨lt_nilF _, .inl rfl⟩
def sortI (L : List Int) : List Int := L.mergeSort fun x y => decide (x ≤ y)
theorem Whole.sorted (h : Whole V n was s o) : (sortI ((Rt.nodes o).map fun x => x.1)).Pairwise (· < ·) := by
  rw [Rt.nodes_ids]
  exact sort_rise (nodup_mapInt h.nd)
theorem sortI_len (L : List Int) : (sortI L).length = L.length := List.length_mergeSort L
theorem Rt.nodes_len (o : Option Rt) : (Rt.nodes o).length = (Rt.ids o).length := by
  have := congrArg List.length (Rt.nodes_ids o)
  simpa using this
theorem Whole.root0 (h : Whole V n was s o) : Rt.root o = 0 ↔ o = none := by
  rcases o with _ | r
  · exact ⟨fun _ => rfl, fun _ => rfl⟩
  · have := (h.tr r rfl).1.inn.root.1
    constructor
    · intro e
      have e : T.id r.d r.t = 0 := e
      omega
    · intro e; cases e
theorem Whole.cnt (h : Whole V n was s o) : (Rt.ids o).length ≤ (Rt.items o).length := by
  rcases o with _ | r
  · exact Nat.zero_le _
  · exact (h.tr r rfl).2.cnt_top
end
end Sp
end Go.Proofs.YtlpmjeiogdlifaaGreat
namespace Go.Proofs.YtlpmjeiogdlifaaGreat
open Go.RowKit
attribute [local go_sem low] mk_extract
attribute [local go_sem] After.cell After.frozen mk_extract_end ByteArray.mk_append_mk
namespace Sp
section
variable {f : Int → List (Int × Page) × Option Int}
theorem kidsI_cons (k : Int) (ks : List Int) : kidsI f (k :: ks) = match f k with
    | (l, some e) => (l, some e)
    | (l, none) => (l ++ (kidsI f ks).1, (kidsI f ks).2) := rfl
theorem kidsI_app : ∀ {ks : List Int} {l : List (Int × Page)} (ms : List Int), kidsI f ks = (l, none) → kidsI f (ks ++ ms) = (l ++ (kidsI f ms).1, (kidsI f ms).2)
  | [], l, ms, h => by
    have : l = [] := (congrArg Prod.fst h).symm
    subst this
    rfl
  | k :: ks, l, ms, h => by
    rw [List.cons_append]
    rw [kidsI_cons] at h ⊢
    rcases hk : f k with ⟨l1, _ | e⟩
    · rw [hk] at h
      dsimp only at h ⊢
      rcases hq : kidsI f ks with ⟨l2, _ | e⟩
      · rw [hq] at h
        have e1 : l1 ++ l2 = l := congrArg Prod.fst h
        rw [kidsI_app ms hq, ← e1, List.append_assoc]
      · rw [hq] at h
        cases congrArg Prod.snd h
    · rw [hk] at h
      cases congrArg Prod.snd h
theorem kidsI_one {ks : List Int} {l m : List (Int × Page)} {k : Int} (h : kidsI f ks = (l, none)) (hk : f k = (m, none)) : kidsI f (ks ++ [k]) = (l ++ m, none) := by
  rw [kidsI_app [k] h]
  rw [kidsI_cons, hk]
  show (l ++ (m ++ []), none) = _
  rw [List.append_nil]
theorem kidsI_err {ks ms : List Int} {l m : List (Int × Page)} {k : Int} {e : Int} (h : kidsI f ks = (l, none)) (hk : f k = (m, some e)) : kidsI f (ks ++ k :: ms) = (l ++ m, some e) := by
  rw [kidsI_app (k :: ms) h, kidsI_cons, hk]
theorem kidsI_take {ks : List Int} {j : Nat} {l m : List (Int × Page)} (hj : j < ks.length) (h : kidsI f (ks.take j) = (l, none)) (hk : f (ks.getD j 0) = (m, none)) : kidsI f (ks.take (j + 1)) = (l ++ m, none) := by
  rw [List.take_succ_eq_append_getElem hj]
  refine kidsI_one h ?_
  rw [← hk]
  congr 1
  simp [List.getD, hj]
theorem kidsI_stop {ks : List Int} {j : Nat} {l m : List (Int × Page)} {e : Int} (hj : j < ks.length) (h : kidsI f (ks.take j) = (l, none)) (hk : f (ks.getD j 0) = (m, some e)) : kidsI f ks = (l ++ m, some e) := by
  have : ks = ks.take j ++ ks.getD j 0 :: ks.drop (j + 1) := by
    conv => lhs; rw [← List.take_append_drop j ks]
    congr 1
    rw [List.drop_eq_getElem_cons hj]
    congr 1
    simp [List.getD, hj]
  conv => lhs; rw [this]
  exact kidsI_err h hk
end
end Sp
theorem Row.wide {w : World} {A : Option Addr} {cs : List Value} {M : Nat → Prop} (h : Row w M A cs) : Row w (fun k => M k ∨ w.heap.size ≤ k) A cs := by
  refine ⟨h.1, ?_⟩
  rcases h.2 with h | ⟨b, off, e, hb, hM, hc⟩
  · exact .inl h
  · exact .inr ⟨b, off, e, hb, fun h => by rcases h with h | h; exact hM h; omega, hc⟩
end Go.Proofs.YtlpmjeiogdlifaaGreat
