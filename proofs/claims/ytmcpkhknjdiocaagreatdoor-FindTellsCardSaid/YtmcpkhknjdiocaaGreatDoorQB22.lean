/- Trees of the document: a tree into which an item is put is right, and has it. Trees of the document: on pages. Trees of the document: a branch's page, on pages. Trees of the document: their pages are right; how many they are; a whole tree. Trees of the document: a whole tree, an item put in; where a key is. -/
import Derived.Test.YtmcpkhknjdiocaaGreatDoorQB21
set_option linter.unusedSimpArgs false
set_option linter.unusedVariables false
namespace Go.Proofs.YtmcpkhknjdiocaaGreatDoor
open Go.RowKit
attribute [local go_sem low] mk_extract
attribute [local go_sem] After.cell After.frozen mk_extract_end ByteArray.mk_append_mk
namespace Sp
def PutOk (x : Item) (d : Nat) (b : Bool) (t : T d) (r : T d × Option (Txt × T d) × Nat) : Prop :=
  T.id d r.1 = T.id d t ∧ T.items d r.1 ++ (r.2.1.toList.flatMap fun m => T.items d m.2) = insIt x (T.items d t) ∧
  (∀ m ∈ r.2.1, (∀ y ∈ T.items d r.1, lt y.key m.1 = true) ∧ (∀ y ∈ T.items d m.2, lt y.key m.1 = false) ∧ short m.1 = true ∧ T.Ok d false m.2 ∧ T.Ok d false r.1) ∧ T.Ok d b r.1
theorem put_zero (x : Item) (id : Nat) (l : List Item) (n : Nat) : T.put x 0 (id, l) n = if (insIt x l).length ≤ 4 then ((id, insIt x l), none, n) else ((id, (insIt x l).take 3), some (((insIt x l).getD 3 item0).key, (n, (insIt x l).drop 3)), n + 1) := rfl
theorem put_succ (x : Item) (d : Nat) (id : Nat) (cs : List (Txt × T d)) (n : Nat) : T.put x (d + 1) (id, cs) n = match cs[downI x.key cs]? with
    | none => ((id, cs), none, n)
    | some c => if (graft (downI x.key cs) (T.put x d c.2 n).1 (T.put x d c.2 n).2.1 cs).length ≤ 4 then ((id, graft (downI x.key cs) (T.put x d c.2 n).1 (T.put x d c.2 n).2.1 cs), none, (T.put x d c.2 n).2.2)
      else match (graft (downI x.key cs) (T.put x d c.2 n).1 (T.put x d c.2 n).2.1 cs).drop 3 with
        | [] => ((id, cs), none, n)
        | b :: bs => ((id, (graft (downI x.key cs) (T.put x d c.2 n).1 (T.put x d c.2 n).2.1 cs).take 3), some (b.1, ((T.put x d c.2 n).2.2, ([], b.2) :: bs)), (T.put x d c.2 n).2.2 + 1) := rfl
theorem ok_any {d : Nat} {b : Bool} {t : T d} (h : T.Ok d false t) : T.Ok d b t := by
  cases b
  · exact h
  · exact h.top
theorem put_leaf {x : Item} (hx : isItem x = true) (b : Bool) (t : T 0) (n : Nat) (h : T.Ok 0 b t) : PutOk x 0 b t (T.put x 0 t n) := by
  obtain ⟨id, l0⟩ := t
  obtain ⟨h1, h2, h3, h4⟩ := h
  have hl := insIt_len x l0
  have hr := insIt_rising x h3
  have hi : ∀ y ∈ insIt x l0, isItem y = true := fun y hy => by
    rcases mem_insIt hy with rfl | hy
    · exact hx
    · exact h4 y hy
  have h1 : l0.length ≤ 4 := h1
  have h2 : (if b then 1 else 2) ≤ l0.length := h2
  rw [put_zero]
  generalize hq : insIt x l0 = l at *
  by_cases hle : l.length ≤ 4
  · rw [if_pos hle]
    refine ⟨rfl, ?_, fun m hm => (by cases hm), hle, by show (if b then 1 else 2) ≤ l.length; omega, hr, hi⟩
    show l ++ [] = insIt x l0
    rw [List.append_nil, hq]
  · rw [if_neg hle]
    have h5 : l.length = 5 := by omega
    match l, h5 with
    | [a0, a1, a2, a3, a4], _ =>
      have hr' : Rising ([a0, a1, a2] ++ [a3, a4]) := hr
      obtain ⟨r1, r2, r3⟩ := List.pairwise_append.1 hr'
      have ok1 : T.Ok 0 false (id, [a0, a1, a2]) := ⟨by simp, by simp, r1, fun y hy => hi y (by simp at hy ⊢; rcases hy with h | h | h <;> simp [h])⟩
      have ok2 : T.Ok 0 false (n, [a3, a4]) := ⟨by simp, by simp, r2, fun y hy => hi y (by simp at hy ⊢; rcases hy with h | h <;> simp [h])⟩
      refine ⟨rfl, ?_, fun m hm => ?_, ok_any ok1⟩
      · show [a0, a1, a2] ++ ([a3, a4] ++ []) = insIt x l0
        rw [hq]
        rfl
      · have hm' : m = (a3.key, (n, [a3, a4])) := by
          have : some (a3.key, ((n, [a3, a4]) : T 0)) = some m := hm
          exact (Option.some.inj this).symm
        subst hm'
        refine ⟨fun y hy => r3 y hy a3 (by simp), fun y hy => ?_, isItem_short (hi a3 (by simp)), ok2, ok1⟩
        have hy' : y = a3 ∨ y = a4 := by
          have : y ∈ [a3, a4] := hy
          simpa using this
        rcases hy' with rfl | rfl
        · exact lt_irr _
        · exact lt_asymm ((List.pairwise_cons.1 r2).1 y (by simp))
theorem put_spec {x : Item} (hx : isItem x = true) : ∀ (d : Nat) (b : Bool) (t : T d) (n : Nat), T.Ok d b t → PutOk x d b t (T.put x d t n)
  | 0, b, t, n, h => put_leaf hx b t n h
  | d + 1, b, (id, cs), n, h => by
    obtain ⟨l2, l4, hd, hp, hsh, hok⟩ := h
    have l2 : 2 ≤ cs.length := l2
    have l4 : cs.length ≤ 4 := l4
    have hd : (cs.map (·.1)).head? = some [] := hd
    have hp : Parted (T.items d) cs := hp
    have hsh : ∀ c ∈ cs.tail, short c.1 = true := hsh
    have hok : ∀ c ∈ cs, T.Ok d false c.2 := hok
    have hke := parted_keys hp fun c hc => (hok c hc).ne
    have hne : cs ≠ [] := by intro e; rw [e] at l2; simp at l2
    have hk := downI_lt x.key hne
    have hc0 := List.getElem?_eq_getElem hk
    have hpost := downI_post x.key hke
    have hat := downI_at x.key hc0
    rw [put_succ, hc0]
    dsimp only
    generalize hk' : downI x.key cs = k at *
    generalize cs[k] = c at *
    have hspl := split_at hc0
    have hcm : c ∈ cs := by rw [hspl]; simp
    obtain ⟨q1, q2, q3, q4⟩ := put_spec hx d false c.2 n (hok c hcm)
    generalize T.put x d c.2 n = r at *
    obtain ⟨t', more, n'⟩ := r
    dsimp only at q1 q2 q3 q4 ⊢
    have hgr : graft k t' more cs = cs.take k ++ (c.1, t') :: (more.toList ++ cs.drop (k + 1)) := by
      unfold graft
      rw [hc0]
    rw [hgr]
    have hxc : lt x.key c.1 = false := by
      rcases hat with h0 | h0
      · have : c.1 = [] := by
          rw [hspl, h0] at hd
          simpa using hd
        rw [this]
        exact lt_nilF _
      · exact h0
    have hp2 : Parted (T.items d) (cs.take k ++ c :: cs.drop (k + 1)) := by rw [← hspl]; exact hp
    have hpn := parted_graft hp2 hxc hpost q4.ne q2 (fun m hm => ⟨(q3 m hm).1, (q3 m hm).2.1⟩)
    have hln : (cs.take k ++ (c.1, t') :: (more.toList ++ cs.drop (k + 1))).length = cs.length + more.toList.length := by
      simp only [List.length_append, List.length_cons, List.length_take, List.length_drop]
      omega
    have hml : more.toList.length ≤ 1 := by cases more <;> simp
    have hhd : ((cs.take k ++ (c.1, t') :: (more.toList ++ cs.drop (k + 1))).map (·.1)).head? = some [] := by
      rw [hspl] at hd
      cases ht : cs.take k with
      | nil => rw [ht] at hd; simpa using hd
      | cons a aq => rw [ht] at hd; simpa using hd
    have hst : ∀ a ∈ (cs.take k ++ (c.1, t') :: (more.toList ++ cs.drop (k + 1))).tail, short a.1 = true := by
      have hm' : ∀ m ∈ more.toList, short m.1 = true := fun m hm => (q3 m (by simpa using hm)).2.2.1
      rw [hspl] at hsh
      cases ht : cs.take k with
      | nil =>
        rw [ht] at hsh
        intro a ha
        rcases List.mem_append.1 ha with ha | ha
        · exact hm' a ha
        · exact hsh a ha
      | cons p ps =>
        rw [ht] at hsh
        intro a ha
        rcases List.mem_append.1 ha with ha | ha
        · exact hsh a (List.mem_append.2 (.inl ha))
        · rcases List.mem_cons.1 ha with rfl | ha
          · exact hsh c (List.mem_append.2 (.inr (by simp)))
          · rcases List.mem_append.1 ha with ha | ha
            · exact hm' a ha
            · exact hsh a (List.mem_append.2 (.inr (by simp [ha])))
    have hon : ∀ a ∈ cs.take k ++ (c.1, t') :: (more.toList ++ cs.drop (k + 1)), T.Ok d false a.2 := by
      intro a ha
      rcases List.mem_append.1 ha with ha | ha
      · exact hok a (by rw [hspl]; simp [ha])
      · rcases List.mem_cons.1 ha with rfl | ha
        · exact q4
        · rcases List.mem_append.1 ha with ha | ha
          · exact (q3 a (by simpa using ha)).2.2.2.1
          · exact hok a (by rw [hspl]; simp [ha])
    have hfl : (cs.take k ++ (c.1, t') :: (more.toList ++ cs.drop (k + 1))).flatMap (fun a => T.items d a.2) = insIt x (cs.flatMap fun a => T.items d a.2) := by
      have hlow : ∀ y ∈ (cs.take k).flatMap (fun a => T.items d a.2), lt y.key x.key = true := by
        intro y hy
        obtain ⟨a, ha, hy⟩ := List.mem_flatMap.1 hy
        obtain ⟨_, _, p3⟩ := List.pairwise_append.1 hp2.1
        exact lt_le (p3 a ha c (by simp) y hy) hxc
      have hupp : ∀ y ∈ (cs.drop (k + 1)).flatMap (fun a => T.items d a.2), lt x.key y.key = true := by
        intro y hy
        obtain ⟨a, ha, hy⟩ := List.mem_flatMap.1 hy
        exact lt_le (hpost a ha) (hp2.2 a (by simp [ha]) y hy)
      have e1 : cs.flatMap (fun a => T.items d a.2) = (cs.take k).flatMap (fun a => T.items d a.2) ++ (T.items d c.2 ++ (cs.drop (k + 1)).flatMap (fun a => T.items d a.2)) := by
        conv => lhs; rw [hspl]
        rw [List.flatMap_append, List.flatMap_cons]
      rw [e1, insIt_right hlow, insIt_left hupp, ← q2, List.flatMap_append, List.flatMap_cons, List.flatMap_append, List.append_assoc]
    generalize cs.take k ++ (c.1, t') :: (more.toList ++ cs.drop (k + 1)) = ds at *
    by_cases hle : ds.length ≤ 4
    · rw [if_pos hle]
      refine ⟨rfl, ?_, fun m hm => (by cases hm), by show 2 ≤ ds.length; omega, hle, hhd, hpn, hst, hon⟩
      show ds.flatMap (fun a => T.items d a.2) ++ [] = _
      rw [List.append_nil, hfl]
      rfl
    · rw [if_neg hle]
      have h5 : ds.length = 5 := by omega
      match ds, h5 with
      | [a0, a1, a2, a3, a4], _ =>
        have hp' : Parted (T.items d) ([a0, a1, a2] ++ [a3, a4]) := hpn
        obtain ⟨hpw, hr⟩ := hp'
        obtain ⟨hq1, hq2, hq3⟩ := List.pairwise_append.1 hpw
        have e0 : a0.1 = [] := by simpa using hhd
        have ok1 : T.Ok (d + 1) false (id, [a0, a1, a2]) := ⟨by simp, by simp, by simp [e0], ⟨hq1, fun a ha => hr a (by simp at ha ⊢; rcases ha with h | h | h <;> simp [h])⟩, fun a ha => hst a (by simp at ha ⊢; rcases ha with h | h <;> simp [h]), fun a ha => hon a (by simp at ha ⊢; rcases ha with h | h | h <;> simp [h])⟩
        have ok2 : T.Ok (d + 1) false (n', [([], a3.2), a4]) := by
          refine ⟨by simp, by simp, by simp, ⟨?_, fun a ha => ?_⟩, fun a ha => hst a (by simp at ha ⊢; simp [ha]), fun a ha => ?_⟩
          · obtain ⟨u1, u2⟩ := List.pairwise_cons.1 hq2
            exact List.pairwise_cons.2 ⟨u1, u2⟩
          · have ha : a = ([], a3.2) ∨ a = a4 := by simpa using ha
            rcases ha with rfl | rfl
            · exact fun y _ => lt_nilF _
            · exact hr a (by simp)
          · have ha : a = ([], a3.2) ∨ a = a4 := by simpa using ha
            rcases ha with rfl | rfl
            · exact hon a3 (by simp)
            · exact hon a (by simp)
        refine ⟨rfl, ?_, fun m hm => ?_, ok_any ok1⟩
        · rw [show T.items (d + 1) (id, cs) = cs.flatMap (fun a => T.items d a.2) from rfl, ← hfl]
          show [a0, a1, a2].flatMap (fun a => T.items d a.2) ++ ([(a3.1, ((n', [([], a3.2), a4]) : T (d + 1)))].flatMap fun m => T.items (d + 1) m.2) = [a0, a1, a2, a3, a4].flatMap (fun a => T.items d a.2)
          rw [List.flatMap_singleton]
          show [a0, a1, a2].flatMap (fun a => T.items d a.2) ++ [(([] : Txt), a3.2), a4].flatMap (fun a => T.items d a.2) = [a0, a1, a2, a3, a4].flatMap (fun a => T.items d a.2)
          rw [show [a0, a1, a2, a3, a4] = [a0, a1, a2] ++ [a3, a4] from rfl, List.flatMap_append]
          rfl
        · have hm' : m = (a3.1, ((n', [([], a3.2), a4]) : T (d + 1))) := by
            have : some (a3.1, ((n', [([], a3.2), a4]) : T (d + 1))) = some m := hm
            exact (Option.some.inj this).symm
          subst hm'
          refine ⟨fun y hy => ?_, fun y hy => ?_, hst a3 (by simp), ok2, ok1⟩
          · obtain ⟨a, ha, hy⟩ := List.mem_flatMap.1 (show y ∈ [a0, a1, a2].flatMap (fun a => T.items d a.2) from hy)
            exact hq3 a ha a3 (by simp) y hy
          · obtain ⟨a, ha, hz⟩ := List.mem_flatMap.1 (show y ∈ [(([] : Txt), a3.2), a4].flatMap (fun a => T.items d a.2) from hy)
            have ha : a = ([], a3.2) ∨ a = a4 := by simpa using ha
            rcases ha with rfl | rfl
            · exact hr a3 (by simp) y hz
            · have h34 : lt a3.1 a.1 = true := by
                obtain ⟨z, hz⟩ := List.exists_mem_of_ne_nil _ (hon a3 (by simp)).ne
                exact le_lt (hr a3 (by simp) z hz) ((List.pairwise_cons.1 hq2).1 a (by simp) z hz)
              rcases hb : lt y.key a3.1 with _ | _
              · rfl
              · exact absurd (lt_trans hb h34) (by rw [hr a (by simp) y hz]; simp)
end Sp
end Go.Proofs.YtmcpkhknjdiocaaGreatDoor
namespace Go.Proofs.YtmcpkhknjdiocaaGreatDoor
open Go.RowKit
attribute [local go_sem low] mk_extract
attribute [local go_sem] After.cell After.frozen mk_extract_end ByteArray.mk_append_mk
namespace Sp
def leafPg (l : List Item) : Page := ⟨1, l, [], [], [], [], [], 0, mt0⟩
def branchPg (ks : List Txt) (is : List Int) : Page := ⟨2, [], ks, is, [], [], [], 0, mt0⟩
def T.ids : (d : Nat) → T d → List Nat
  | 0, t => [t.1]
  | d + 1, t => t.1 :: t.2.flatMap fun c => T.ids d c.2
def T.page : (d : Nat) → T d → Page
  | 0, t => leafPg t.2
  | d + 1, t => branchPg (t.2.map (·.1)) (t.2.map fun c => ((T.id d c.2 : Nat) : Int))
/-- The pages of a tree lie in a row of pages, from number 2 on. -/
def T.Holds (P : List Page) : (d : Nat) → T d → Prop
  | 0, t => 2 ≤ t.1 ∧ P[t.1 - 2]? = some (T.page 0 t)
  | d + 1, t => (2 ≤ t.1 ∧ P[t.1 - 2]? = some (T.page (d + 1) t)) ∧ ∀ c ∈ t.2, T.Holds P d c.2
theorem T.Holds.root {P : List Page} {d : Nat} {t : T d} (h : T.Holds P d t) : 2 ≤ T.id d t ∧ P[T.id d t - 2]? = some (T.page d t) := by
  cases d with
  | zero => exact h
  | succ d => exact h.1
theorem T.id_mem {d : Nat} {t : T d} : T.id d t ∈ T.ids d t := by
  cases d <;> simp [T.id, T.ids]
theorem T.Holds.keep {P P' : List Page} : ∀ {d : Nat} {t : T d}, T.Holds P d t → (∀ i ∈ T.ids d t, P'[i - 2]? = P[i - 2]?) → T.Holds P' d t
  | 0, t, h, hk => ⟨h.1, (hk t.1 (by simp [T.ids])).trans h.2⟩
  | d + 1, t, h, hk => ⟨⟨h.1.1, (hk t.1 (by simp [T.ids])).trans h.1.2⟩, fun c hc => (h.2 c hc).keep fun i hi => hk i (List.mem_cons_of_mem _ (List.mem_flatMap.2 ⟨c, hc, hi⟩))⟩
theorem T.Holds.ge {P : List Page} : ∀ {d : Nat} {t : T d}, T.Holds P d t → ∀ i ∈ T.ids d t, 2 ≤ i
  | 0, t, h, i, hi => by
    have : i = t.1 := by simpa [T.ids] using hi
    rw [this]; exact h.1
  | d + 1, t, h, i, hi => by
    rcases List.mem_cons.1 (show i ∈ t.1 :: t.2.flatMap (fun c => T.ids d c.2) from hi) with rfl | hi
    · exact h.1.1
    · obtain ⟨c, hc, hi⟩ := List.mem_flatMap.1 hi
      exact (h.2 c hc).ge i hi
def moreIds (d : Nat) (m : Option (Txt × T d)) : List Nat := m.toList.flatMap fun m => T.ids d m.2
/-- What putting an item in leaves of the pages. -/
structure PutRes (P P' : List Page) (d : Nat) (t : T d) (n : Nat) (r : T d × Option (Txt × T d) × Nat) : Prop where
  len : P'.length + 2 = r.2.2
  le : n ≤ r.2.2
  holds : T.Holds P' d r.1
  more : ∀ m ∈ r.2.1, T.Holds P' d m.2
  frame : ∀ i, 2 ≤ i → i < n → i ∉ T.ids d t → P'[i - 2]? = P[i - 2]?
  ids : ∀ i ∈ T.ids d r.1 ++ moreIds d r.2.1, (i ∈ T.ids d t ∨ n ≤ i) ∧ i < r.2.2
  nodup : (T.ids d r.1 ++ moreIds d r.2.1).Nodup
/-- A tree on pages. -/
structure T.On (P : List Page) (d : Nat) (t : T d) (n : Nat) : Prop where
  len : P.length + 2 = n
  holds : T.Holds P d t
  lt : ∀ i ∈ T.ids d t, i < n
  nodup : (T.ids d t).Nodup
theorem leaf_res {x : Item} {P : List Page} {t : T 0} {n : Nat} (h : T.On P 0 t n) (hl : t.2.length ≤ 4) :
    PutRes P (if (insIt x t.2).length ≤ 4 then P.set (t.1 - 2) (leafPg (insIt x t.2)) else P.set (t.1 - 2) (leafPg ((insIt x t.2).take 3)) ++ [leafPg ((insIt x t.2).drop 3)]) 0 t n (T.put x 0 t n) := by
  obtain ⟨id, l0⟩ := t
  have hid : 2 ≤ id := h.holds.1
  have hlt : id < n := h.lt id (by simp [T.ids])
  have hlen := h.len
  have hid2 : id - 2 < P.length := by omega
  rw [put_zero]
  dsimp only
  generalize insIt x l0 = l
  by_cases h4 : l.length ≤ 4
  · rw [if_pos h4, if_pos h4]
    refine ⟨by rw [List.length_set]; exact hlen, Nat.le_refl _, ⟨hid, ?_⟩, fun m hm => (by cases hm), fun i h2 hi hni => ?_, fun i hi => ?_, by show ([id] ++ []).Nodup; simp⟩
    · show (P.set (id - 2) (leafPg l))[id - 2]? = some (leafPg l)
      rw [List.getElem?_set_self hid2]
    · have : i ≠ id := by simpa [T.ids] using hni
      rw [List.getElem?_set_ne (by omega)]
    · have hi : i ∈ [id] ++ [] := hi
      have : i = id := by simpa using hi
      subst this
      exact ⟨.inl (by simp [T.ids]), hlt⟩
  · rw [if_neg h4, if_neg h4]
    refine ⟨by simp; omega, Nat.le_succ _, ⟨hid, ?_⟩, fun m hm => ?_, fun i h2 hi hni => ?_, fun i hi => ?_, ?_⟩
    · show (P.set (id - 2) (leafPg (l.take 3)) ++ [leafPg (l.drop 3)])[id - 2]? = some (leafPg (l.take 3))
      rw [List.getElem?_append_left (by simp; omega), List.getElem?_set_self hid2]
    · have hm' : m = ((l.getD 3 item0).key, (n, l.drop 3)) := (Option.some.inj (show some ((l.getD 3 item0).key, ((n, l.drop 3) : T 0)) = some m from hm)).symm
      subst hm'
      refine ⟨by show 2 ≤ n; omega, ?_⟩
      show (P.set (id - 2) (leafPg (l.take 3)) ++ [leafPg (l.drop 3)])[n - 2]? = some (leafPg (l.drop 3))
      rw [List.getElem?_append_right (by simp; omega)]
      simp [show n - 2 - P.length = 0 by omega]
    · have : i ≠ id := by simpa [T.ids] using hni
      rw [List.getElem?_append_left (by simp; omega), List.getElem?_set_ne (by omega)]
    · have hi : i ∈ [id] ++ ([n] ++ []) := hi
      have : i = id ∨ i = n := by simpa using hi
      rcases this with rfl | rfl
      · exact ⟨.inl (by simp [T.ids]), by show i < n + 1; omega⟩
      · exact ⟨.inr (Nat.le_refl _), by show i < i + 1; omega⟩
    · show [id, n].Nodup
      simp
      omega
end Sp
end Go.Proofs.YtmcpkhknjdiocaaGreatDoor
namespace Go.Proofs.YtmcpkhknjdiocaaGreatDoor
open Go.RowKit
attribute [local go_sem low] mk_extract
attribute [local go_sem] After.cell After.frozen mk_extract_end ByteArray.mk_append_mk
namespace Sp
theorem nodup_graft {A B C D : List Nat} {n : Nat} (h : (A ++ (C ++ B)).Nodup) (hd : D.Nodup) (hD : ∀ i ∈ D, i ∈ C ∨ n ≤ i) (hA : ∀ i ∈ A, i < n) (hB : ∀ i ∈ B, i < n) : (A ++ (D ++ B)).Nodup := by
  obtain ⟨h1, h2, h3⟩ := List.nodup_append.1 h
  obtain ⟨h4, h5, h6⟩ := List.nodup_append.1 h2
  refine List.nodup_append.2 ⟨h1, List.nodup_append.2 ⟨hd, h5, fun a ha b hb => ?_⟩, fun a ha b hb => ?_⟩
  · rcases hD a ha with h | h
    · exact h6 a h b hb
    · have := hB b hb; omega
  · rcases List.mem_append.1 hb with hb | hb
    · rcases hD b hb with h | h
      · exact h3 a ha b (List.mem_append.2 (.inl h))
      · have := hA a ha; omega
    · exact h3 a ha b (List.mem_append.2 (.inr hb))
theorem node_res {x : Item} {P P1 P' : List Page} {d id n : Nat} {cs : List (Txt × T d)} {c : Txt × T d} (h : T.On P (d + 1) (id, cs) n) (hc : cs[downI x.key cs]? = some c)
    (hl : cs.length ≤ 4) (r : PutRes P P1 d c.2 n (T.put x d c.2 n))
    (h4 : (graft (downI x.key cs) (T.put x d c.2 n).1 (T.put x d c.2 n).2.1 cs).length ≤ 4 → P' = P1.set (id - 2) (T.page (d + 1) (id, graft (downI x.key cs) (T.put x d c.2 n).1 (T.put x d c.2 n).2.1 cs)))
    (h5 : ∀ a0 a1 a2 a3 a4, graft (downI x.key cs) (T.put x d c.2 n).1 (T.put x d c.2 n).2.1 cs = [a0, a1, a2, a3, a4] → P' = P1.set (id - 2) (T.page (d + 1) (id, [a0, a1, a2])) ++ [T.page (d + 1) ((T.put x d c.2 n).2.2, [([], a3.2), a4])]) :
    PutRes P P' (d + 1) (id, cs) n (T.put x (d + 1) (id, cs) n) := by
  have hid : 2 ≤ id := h.holds.1.1
  have hlt : id < n := h.lt id (by simp [T.ids])
  have hlen := h.len
  have hnd := h.nodup
  have hltc : ∀ a ∈ cs, ∀ i ∈ T.ids d a.2, i < n := fun a ha i hi => h.lt i (List.mem_cons_of_mem _ (List.mem_flatMap.2 ⟨a, ha, hi⟩))
  have hnd : (id :: cs.flatMap fun a : Txt × T d => T.ids d a.2).Nodup := hnd
  obtain ⟨hni, hnf⟩ := List.nodup_cons.1 hnd
  have hsub : ∀ a ∈ cs, T.Holds P d a.2 := h.holds.2
  rw [put_succ, hc]
  dsimp only
  have hspl := split_at hc
  generalize downI x.key cs = k at *
  have hgr : graft k (T.put x d c.2 n).1 (T.put x d c.2 n).2.1 cs = cs.take k ++ (c.1, (T.put x d c.2 n).1) :: ((T.put x d c.2 n).2.1.toList ++ cs.drop (k + 1)) := by
    unfold graft
    rw [hc]
  simp only [hgr] at h4 h5 ⊢
  generalize T.put x d c.2 n = pr at *
  obtain ⟨t', more, n'⟩ := pr
  dsimp only at *
  have hle : n ≤ n' := r.le
  have hl1 : P1.length + 2 = n' := r.len
  -- the children, each on the pages
  have hpc : ∀ a, (a ∈ cs.take k ∨ a ∈ cs.drop (k + 1)) → a ∈ cs := fun a ha => by
    rw [hspl]
    rcases ha with ha | ha <;> simp [ha]
  have hflat : ((cs.take k).flatMap fun a : Txt × T d => T.ids d a.2) ++ (T.ids d c.2 ++ (cs.drop (k + 1)).flatMap fun a : Txt × T d => T.ids d a.2) = cs.flatMap fun a : Txt × T d => T.ids d a.2 := by
    conv => rhs; rw [hspl]
    rw [List.flatMap_append, List.flatMap_cons]
  have hnf2 := hnf
  rw [← hflat] at hnf2
  have hdis : ∀ a, (a ∈ cs.take k ∨ a ∈ cs.drop (k + 1)) → ∀ i ∈ T.ids d a.2, i ∉ T.ids d c.2 := fun a ha i hi hic => by
    obtain ⟨_, h2, h3⟩ := List.nodup_append.1 hnf2
    obtain ⟨_, _, h6⟩ := List.nodup_append.1 h2
    rcases ha with ha | ha
    · exact h3 i (List.mem_flatMap.2 ⟨a, ha, hi⟩) i (List.mem_append.2 (.inl hic)) rfl
    · exact h6 i hic i (List.mem_flatMap.2 ⟨a, ha, hi⟩) rfl
  have hold : ∀ a, (a ∈ cs.take k ∨ a ∈ cs.drop (k + 1)) → T.Holds P1 d a.2 := fun a ha =>
    (hsub a (hpc a ha)).keep fun i hi => r.frame i ((hsub a (hpc a ha)).ge i hi) (hltc a (hpc a ha) i hi) (hdis a ha i hi)
  have hds : ∀ a ∈ cs.take k ++ (c.1, t') :: (more.toList ++ cs.drop (k + 1)), T.Holds P1 d a.2 := fun a ha => by
    rcases List.mem_append.1 ha with ha | ha
    · exact hold a (.inl ha)
    · rcases List.mem_cons.1 ha with rfl | ha
      · exact r.holds
      · rcases List.mem_append.1 ha with ha | ha
        · exact r.more a (by simpa using ha)
        · exact hold a (.inr ha)
  have hcm : c ∈ cs := by rw [hspl]; simp
  have hidf : (cs.take k ++ (c.1, t') :: (more.toList ++ cs.drop (k + 1))).flatMap (fun a : Txt × T d => T.ids d a.2) = ((cs.take k).flatMap fun a : Txt × T d => T.ids d a.2) ++ ((T.ids d t' ++ moreIds d more) ++ (cs.drop (k + 1)).flatMap fun a : Txt × T d => T.ids d a.2) := by
    rw [List.flatMap_append, List.flatMap_cons, List.flatMap_append, List.append_assoc]
    rfl
  have hndd : ((cs.take k ++ (c.1, t') :: (more.toList ++ cs.drop (k + 1))).flatMap fun a : Txt × T d => T.ids d a.2).Nodup := by
    rw [hidf]
    refine nodup_graft (n := n) hnf2 r.nodup (fun i hi => (r.ids i hi).1) (fun i hi => ?_) (fun i hi => ?_)
    · obtain ⟨a, ha, hi⟩ := List.mem_flatMap.1 hi
      exact hltc a (hpc a (.inl ha)) i hi
    · obtain ⟨a, ha, hi⟩ := List.mem_flatMap.1 hi
      exact hltc a (hpc a (.inr ha)) i hi
  have hmem : ∀ i ∈ (cs.take k ++ (c.1, t') :: (more.toList ++ cs.drop (k + 1))).flatMap (fun a : Txt × T d => T.ids d a.2), (i ∈ cs.flatMap (fun a : Txt × T d => T.ids d a.2) ∨ n ≤ i) ∧ i < n' ∧ i ≠ id := fun i hi => by
    rw [hidf] at hi
    have hcase : (i ∈ cs.flatMap (fun a : Txt × T d => T.ids d a.2) ∨ n ≤ i) ∧ i < n' := by
      rcases List.mem_append.1 hi with hi | hi
      · refine ⟨.inl (by rw [← hflat]; exact List.mem_append.2 (.inl hi)), ?_⟩
        obtain ⟨a, ha, hi⟩ := List.mem_flatMap.1 hi
        exact Nat.lt_of_lt_of_le (hltc a (hpc a (.inl ha)) i hi) hle
      · rcases List.mem_append.1 hi with hi | hi
        · obtain ⟨h1, h2⟩ := r.ids i hi
          refine ⟨h1.imp (fun h => List.mem_flatMap.2 ⟨c, hcm, h⟩) (fun h => h), h2⟩
        · refine ⟨.inl (by rw [← hflat]; exact List.mem_append.2 (.inr (List.mem_append.2 (.inr hi)))), ?_⟩
          obtain ⟨a, ha, hi⟩ := List.mem_flatMap.1 hi
          exact Nat.lt_of_lt_of_le (hltc a (hpc a (.inr ha)) i hi) hle
    refine ⟨hcase.1, hcase.2, fun e => ?_⟩
    subst e
    rcases hcase.1 with h | h
    · exact hni h
    · omega
  have hln : (cs.take k ++ (c.1, t') :: (more.toList ++ cs.drop (k + 1))).length ≤ 5 := by
    have hk : k < cs.length := (List.getElem?_eq_some_iff.1 hc).1
    have hml : more.toList.length ≤ 1 := by cases more <;> simp
    simp only [List.length_append, List.length_cons, List.length_take, List.length_drop]
    omega
  have hfr : ∀ i, 2 ≤ i → i < n → i ∉ id :: cs.flatMap (fun a : Txt × T d => T.ids d a.2) → P1[i - 2]? = P[i - 2]? := fun i h2 hi hn =>
    r.frame i h2 hi fun hic => hn (List.mem_cons_of_mem _ (List.mem_flatMap.2 ⟨c, hcm, hic⟩))
  have hid1 : id - 2 < P1.length := by omega
  generalize cs.take k ++ (c.1, t') :: (more.toList ++ cs.drop (k + 1)) = ds at *
  by_cases hd4 : ds.length ≤ 4
  · rw [if_pos hd4]
    have hP := h4 hd4
    subst hP
    refine ⟨by rw [List.length_set]; exact hl1, hle, ⟨⟨hid, ?_⟩, fun a ha => (hds a ha).keep fun i hi => ?_⟩, fun m hm => (by cases hm), fun i h2 hi hn => ?_, fun i hi => ?_, ?_⟩
    · exact List.getElem?_set_self hid1
    · have hm := hmem i (List.mem_flatMap.2 ⟨a, ha, hi⟩)
      have := (hds a ha).ge i hi
      rw [List.getElem?_set_ne (by omega)]
    · have hi2 : i ≠ id := fun e => hn (by rw [e]; exact List.mem_cons_self)
      rw [List.getElem?_set_ne (by omega)]
      exact hfr i h2 hi hn
    · have hi : i ∈ (id :: ds.flatMap fun a : Txt × T d => T.ids d a.2) ++ [] := hi
      rw [List.append_nil] at hi
      rcases List.mem_cons.1 hi with rfl | hi
      · exact ⟨.inl List.mem_cons_self, Nat.lt_of_lt_of_le hlt hle⟩
      · obtain ⟨h1, h2, _⟩ := hmem i hi
        exact ⟨h1.imp (fun h => List.mem_cons_of_mem _ h) (fun h => h), h2⟩
    · show ((id :: ds.flatMap fun a : Txt × T d => T.ids d a.2) ++ []).Nodup
      rw [List.append_nil]
      exact List.nodup_cons.2 ⟨fun hi => (hmem id hi).2.2 rfl, hndd⟩
  · rw [if_neg hd4]
    have hd5 : ds.length = 5 := by omega
    match ds, hd5 with
    | [a0, a1, a2, a3, a4], _ =>
      have hP := h5 a0 a1 a2 a3 a4 rfl
      subst hP
      have hin : ∀ a ∈ [a0, a1, a2, a3, a4], ∀ i ∈ T.ids d a.2, (P1.set (id - 2) (T.page (d + 1) (id, [a0, a1, a2])) ++ [T.page (d + 1) (n', [([], a3.2), a4])])[i - 2]? = P1[i - 2]? := fun a ha i hi => by
        have hm := hmem i (List.mem_flatMap.2 ⟨a, ha, hi⟩)
        have := (hds a ha).ge i hi
        rw [List.getElem?_append_left (by rw [List.length_set]; omega), List.getElem?_set_ne (by omega)]
      have hndd' : (([a0, a1, a2].flatMap fun a : Txt × T d => T.ids d a.2) ++ ([(([] : Txt), a3.2), a4].flatMap fun a : Txt × T d => T.ids d a.2)).Nodup := by
        rw [show [a0, a1, a2, a3, a4] = [a0, a1, a2] ++ [a3, a4] from rfl, List.flatMap_append] at hndd
        exact hndd
      have hmem' : ∀ i, i ∈ ([a0, a1, a2].flatMap fun a : Txt × T d => T.ids d a.2) ∨ i ∈ ([(([] : Txt), a3.2), a4].flatMap fun a : Txt × T d => T.ids d a.2) → (i ∈ cs.flatMap (fun a : Txt × T d => T.ids d a.2) ∨ n ≤ i) ∧ i < n' ∧ i ≠ id := fun i hi => by
        refine hmem i ?_
        rw [show [a0, a1, a2, a3, a4] = [a0, a1, a2] ++ [a3, a4] from rfl, List.flatMap_append]
        exact List.mem_append.2 hi
      refine ⟨by simp; omega, Nat.le_succ_of_le hle, ⟨⟨hid, ?_⟩, fun a ha => (hds a (by simp at ha ⊢; rcases ha with h | h | h <;> simp [h])).keep fun i hi => hin a (by simp at ha ⊢; rcases ha with h | h | h <;> simp [h]) i hi⟩, fun m hm => ?_, fun i h2 hi hn => ?_, fun i hi => ?_, ?_⟩
      · show (P1.set (id - 2) (T.page (d + 1) (id, [a0, a1, a2])) ++ [T.page (d + 1) (n', [([], a3.2), a4])])[id - 2]? = some (T.page (d + 1) (id, [a0, a1, a2]))
        rw [List.getElem?_append_left (by rw [List.length_set]; exact hid1), List.getElem?_set_self hid1]
      · have hm' : m = (a3.1, ((n', [([], a3.2), a4]) : T (d + 1))) := (Option.some.inj (show some (a3.1, ((n', [([], a3.2), a4]) : T (d + 1))) = some m from hm)).symm
        subst hm'
        refine ⟨⟨by show 2 ≤ n'; omega, ?_⟩, fun a ha => ?_⟩
        · show (P1.set (id - 2) (T.page (d + 1) (id, [a0, a1, a2])) ++ [T.page (d + 1) (n', [([], a3.2), a4])])[n' - 2]? = _
          rw [List.getElem?_append_right (by rw [List.length_set]; omega), List.length_set, show n' - 2 - P1.length = 0 by omega]
          rfl
        · have ha : a = ([], a3.2) ∨ a = a4 := by simpa using ha
          rcases ha with rfl | rfl
          · exact (hds a3 (by simp)).keep fun i hi => hin a3 (by simp) i hi
          · exact (hds a (by simp)).keep fun i hi => hin a (by simp) i hi
      · have hi2 : i ≠ id := fun e => hn (by rw [e]; exact List.mem_cons_self)
        rw [List.getElem?_append_left (by rw [List.length_set]; omega), List.getElem?_set_ne (by omega)]
        exact hfr i h2 hi hn
      · have hi : i ∈ (id :: [a0, a1, a2].flatMap fun a : Txt × T d => T.ids d a.2) ++ ((n' :: [(([] : Txt), a3.2), a4].flatMap fun a : Txt × T d => T.ids d a.2) ++ []) := hi
        rw [List.append_nil] at hi
        have hx : i = id ∨ i = n' ∨ (i ∈ ([a0, a1, a2].flatMap fun a : Txt × T d => T.ids d a.2) ∨ i ∈ ([(([] : Txt), a3.2), a4].flatMap fun a : Txt × T d => T.ids d a.2)) := by
          rcases List.mem_append.1 hi with hi | hi
          · rcases List.mem_cons.1 hi with h | h
            · exact .inl h
            · exact .inr (.inr (.inl h))
          · rcases List.mem_cons.1 hi with h | h
            · exact .inr (.inl h)
            · exact .inr (.inr (.inr h))
        rcases hx with rfl | rfl | hx
        · exact ⟨.inl List.mem_cons_self, by show i < n' + 1; omega⟩
        · exact ⟨.inr hle, by show i < i + 1; omega⟩
        · obtain ⟨h1, h2, _⟩ := hmem' i hx
          exact ⟨h1.imp (fun h => List.mem_cons_of_mem _ h) (fun h => h), by show i < n' + 1; omega⟩
      · show ((id :: [a0, a1, a2].flatMap fun a : Txt × T d => T.ids d a.2) ++ ((n' :: [(([] : Txt), a3.2), a4].flatMap fun a : Txt × T d => T.ids d a.2) ++ [])).Nodup
        rw [List.append_nil]
        obtain ⟨u1, u2, u3⟩ := List.nodup_append.1 hndd'
        refine List.nodup_append.2 ⟨List.nodup_cons.2 ⟨fun hi => (hmem' id (.inl hi)).2.2 rfl, u1⟩, List.nodup_cons.2 ⟨fun hi => by have := (hmem' n' (.inr hi)).2.1; omega, u2⟩, fun a ha b hb => ?_⟩
        rcases List.mem_cons.1 ha with rfl | ha
        · rcases List.mem_cons.1 hb with rfl | hb
          · omega
          · exact fun e => (hmem' b (.inr hb)).2.2 e.symm
        · rcases List.mem_cons.1 hb with rfl | hb
          · have := (hmem' a (.inl ha)).2.1; omega
          · exact u3 a ha b hb
end Sp
end Go.Proofs.YtmcpkhknjdiocaaGreatDoor
namespace Go.Proofs.YtmcpkhknjdiocaaGreatDoor
open Go.RowKit
attribute [local go_sem low] mk_extract
attribute [local go_sem] After.cell After.frozen mk_extract_end ByteArray.mk_append_mk
namespace Sp
theorem leafPg_is {l : List Item} (h1 : 1 ≤ l.length) (h4 : l.length ≤ 4) (hr : Rising l) (hi : ∀ y ∈ l, isItem y = true) : isPage (leafPg l) = true := by
  have hne : l ≠ [] := by intro e; rw [e] at h1; simp at h1
  have hl : isLeaf l = true := by
    unfold isLeaf
    simp only [Bool.and_eq_true, decide_eq_true_eq]
    refine ⟨⟨allTo_true fun j hj => ?_, h1⟩, h4⟩
    have e : l.getD j item0 = l[j] := by simp [List.getD, hj]
    rw [leafAt_def, e, hi _ (List.getElem_mem hj), Bool.true_and]
    by_cases h0 : j = 0
    · simp [h0]
    · have e' : l.getD (j - 1) item0 = l[j - 1]'(by omega) := by simp [List.getD, show j - 1 < l.length by omega]
      rw [e', (List.pairwise_iff_getElem.1 hr) (j - 1) j (by omega) hj (by omega)]
      simp
  unfold isPage leafPg has
  simp [hl, hne]
theorem branchPg_is {d : Nat} {cs : List (Txt × T d)} (h2 : 2 ≤ cs.length) (h4 : cs.length ≤ 4) (hd : (cs.map (·.1)).head? = some []) (hs : ∀ c ∈ cs.tail, short c.1 = true) (hk : KeysRise cs)
    (hi : ∀ c ∈ cs, 2 ≤ T.id d c.2 ∧ T.id d c.2 < 400) : isPage (branchPg (cs.map (·.1)) (cs.map fun c => ((T.id d c.2 : Nat) : Int))) = true := by
  have hne : cs ≠ [] := by intro e; rw [e] at h2; simp at h2
  have hb : isBranch (branchPg (cs.map (·.1)) (cs.map fun c => ((T.id d c.2 : Nat) : Int))) = true := by
    rw [isBranch_def]
    simp only [branchPg, Bool.and_eq_true, decide_eq_true_eq, List.length_map]
    refine ⟨⟨⟨⟨h2, h4⟩, trivial⟩, ?_⟩, allTo_true fun j hj => ?_⟩
    · have e0 : (cs.map (·.1)).getD 0 [] = [] := by
        rw [List.head?_eq_getElem?] at hd
        rw [List.getD_eq_getElem?_getD, hd]
        rfl
      exact decide_eq_true e0
    · have ek : (cs.map (·.1)).getD j [] = cs[j].1 := by simp [List.getD, hj]
      have ei : (cs.map fun c => ((T.id d c.2 : Nat) : Int)).getD j 0 = ((T.id d cs[j].2 : Nat) : Int) := by simp [List.getD, hj]
      obtain ⟨a1, a2⟩ := hi cs[j] (List.getElem_mem hj)
      rw [branchAt_def, ek, ei]
      have hid : isID ((T.id d cs[j].2 : Nat) : Int) = true := by
        unfold isID
        simp only [Bool.and_eq_true, decide_eq_true_eq]
        omega
      rw [hid, Bool.true_and]
      by_cases h0 : j = 0
      · simp [h0]
      · have ek' : (cs.map (·.1)).getD (j - 1) [] = (cs[j - 1]'(by omega)).1 := by simp [List.getD, show j - 1 < cs.length by omega]
        rw [ek', (List.pairwise_iff_getElem.1 hk) (j - 1) j (by omega) hj (by omega), hs cs[j] ?_]
        · simp
        · rw [← List.drop_one, List.mem_iff_getElem]
          exact ⟨j - 1, by rw [List.length_drop]; omega, by rw [List.getElem_drop]; congr 1; omega⟩
  unfold isPage has
  simp only [branchPg] at hb ⊢
  simp [hb, hne]
theorem T.Ok.page_is {d : Nat} {t : T d} (h : T.Ok d true t) (hi : ∀ i ∈ T.ids d t, 2 ≤ i ∧ i < 400) : isPage (T.page d t) = true := by
  cases d with
  | zero => exact leafPg_is h.2.1 h.1 h.2.2.1 h.2.2.2
  | succ d =>
    obtain ⟨h2, h4, hd, hp, hs, ho⟩ := h
    exact branchPg_is h2 h4 hd hs (parted_keys hp fun c hc => (ho c hc).ne) fun c hc => hi _ (List.mem_cons_of_mem _ (List.mem_flatMap.2 ⟨c, hc, T.id_mem⟩))
/-- How many pages a tree has. -/
theorem put_cnt (x : Item) : ∀ (d : Nat) (t : T d) (n : Nat), (T.ids d (T.put x d t n).1).length + (moreIds d (T.put x d t n).2.1).length + n = (T.ids d t).length + (T.put x d t n).2.2
  | 0, (id, l), n => by
    rw [put_zero]
    split
    · show [id].length + ([] : List Nat).length + n = [id].length + n
      simp
    · show [id].length + ([n] ++ [] : List Nat).length + n = [id].length + (n + 1)
      simp
      omega
  | d + 1, (id, cs), n => by
    rw [put_succ]
    cases hc : cs[downI x.key cs]? with
    | none => simp [moreIds]
    | some c =>
      dsimp only
      have ih := put_cnt x d c.2 n
      have hspl := split_at hc
      have hgr : graft (downI x.key cs) (T.put x d c.2 n).1 (T.put x d c.2 n).2.1 cs = cs.take (downI x.key cs) ++ (c.1, (T.put x d c.2 n).1) :: ((T.put x d c.2 n).2.1.toList ++ cs.drop (downI x.key cs + 1)) := by
        unfold graft
        rw [hc]
      rw [hgr]
      generalize downI x.key cs = k at *
      generalize T.put x d c.2 n = pr at *
      obtain ⟨t', more, n'⟩ := pr
      dsimp only at ih ⊢
      have hl : ((cs.take k ++ (c.1, t') :: (more.toList ++ cs.drop (k + 1))).flatMap fun a : Txt × T d => T.ids d a.2).length + n = (cs.flatMap fun a : Txt × T d => T.ids d a.2).length + n' := by
        have e : (cs.flatMap fun a : Txt × T d => T.ids d a.2).length = ((cs.take k ++ c :: cs.drop (k + 1)).flatMap fun a : Txt × T d => T.ids d a.2).length := by rw [← hspl]
        rw [e]
        simp only [List.flatMap_append, List.flatMap_cons, List.length_append]
        unfold moreIds at ih
        omega
      generalize cs.take k ++ (c.1, t') :: (more.toList ++ cs.drop (k + 1)) = ds at *
      by_cases h4 : ds.length ≤ 4
      · rw [if_pos h4]
        show (id :: ds.flatMap fun a : Txt × T d => T.ids d a.2).length + 0 + n = (id :: cs.flatMap fun a : Txt × T d => T.ids d a.2).length + n'
        simp only [List.length_cons]
        omega
      · rw [if_neg h4]
        cases hb : ds.drop 3 with
        | nil =>
          have := congrArg List.length hb
          simp at this
          omega
        | cons b bs =>
          show (id :: (ds.take 3).flatMap fun a : Txt × T d => T.ids d a.2).length + ((n' :: ((([] : Txt), b.2) :: bs).flatMap fun a : Txt × T d => T.ids d a.2) ++ []).length + n = (id :: cs.flatMap fun a : Txt × T d => T.ids d a.2).length + (n' + 1)
          have e2 : (ds.flatMap fun a : Txt × T d => T.ids d a.2).length = ((ds.take 3).flatMap fun a : Txt × T d => T.ids d a.2).length + ((b :: bs).flatMap fun a : Txt × T d => T.ids d a.2).length := by
            conv => lhs; rw [← List.take_append_drop 3 ds, hb]
            rw [List.flatMap_append, List.length_append]
          simp only [List.flatMap_cons, List.length_cons, List.length_append, List.append_nil] at *
          omega
/-- A right tree has fewer pages than items. -/
theorem T.Ok.cnt : ∀ {d : Nat} {t : T d}, T.Ok d false t → (T.ids d t).length + 1 ≤ (T.items d t).length
  | 0, t, h => by
    have h2 : 2 ≤ t.2.length := h.2.1
    show 1 + 1 ≤ t.2.length
    exact h2
  | d + 1, (id, cs), h => by
    obtain ⟨h2, _, _, _, _, ho⟩ := h
    have h2 : 2 ≤ cs.length := h2
    have ho : ∀ c ∈ cs, T.Ok d false c.2 := ho
    have hsum : ∀ l : List (Txt × T d), (∀ c ∈ l, T.Ok d false c.2) → (l.flatMap fun a : Txt × T d => T.ids d a.2).length + l.length ≤ (l.flatMap fun a : Txt × T d => T.items d a.2).length := by
      intro l hl
      induction l with
      | nil => simp
      | cons a l ih =>
        have h1 := (hl a (by simp)).cnt
        have h2 := ih fun c hc => hl c (by simp [hc])
        simp only [List.flatMap_cons, List.length_append, List.length_cons]
        omega
    have := hsum cs ho
    show (id :: cs.flatMap fun a : Txt × T d => T.ids d a.2).length + 1 ≤ (cs.flatMap fun a : Txt × T d => T.items d a.2).length
    simp only [List.length_cons]
    omega
/-- And so many levels. -/
theorem T.Ok.deep : ∀ {d : Nat} {t : T d}, T.Ok d false t → 2 ^ (d + 1) ≤ (T.items d t).length
  | 0, t, h => h.2.1
  | d + 1, (id, cs), h => by
    obtain ⟨h2, _, _, _, _, ho⟩ := h
    have h2 : 2 ≤ cs.length := h2
    have ho : ∀ c ∈ cs, T.Ok d false c.2 := ho
    match cs, h2 with
    | a :: b :: l, _ =>
      have h1 := (ho a (by simp)).deep
      have h3 := (ho b (by simp)).deep
      show 2 ^ (d + 1 + 1) ≤ ((a :: b :: l).flatMap fun a : Txt × T d => T.items d a.2).length
      simp only [List.flatMap_cons, List.length_append]
      rw [Nat.pow_succ]
      omega
end Sp
end Go.Proofs.YtmcpkhknjdiocaaGreatDoor
namespace Go.Proofs.YtmcpkhknjdiocaaGreatDoor
open Go.RowKit
attribute [local go_sem low] mk_extract
attribute [local go_sem] After.cell After.frozen mk_extract_end ByteArray.mk_append_mk
namespace Sp
/-- A tree, with its levels. -/
structure Rt where
  d : Nat
  t : T d
def Rt.items (o : Option Rt) : List Item := match o with | none => [] | some r => T.items r.d r.t
def Rt.root (o : Option Rt) : Nat := match o with | none => 0 | some r => T.id r.d r.t
def putR (x : Item) (o : Option Rt) (n : Nat) : Option Rt × Nat :=
  match o with
  | none => (some ⟨0, (n, [x])⟩, n + 1)
  | some r => match (T.put x r.d r.t n).2.1 with
    | none => (some ⟨r.d, (T.put x r.d r.t n).1⟩, (T.put x r.d r.t n).2.2)
    | some m => (some ⟨r.d + 1, ((T.put x r.d r.t n).2.2, [([], (T.put x r.d r.t n).1), m])⟩, (T.put x r.d r.t n).2.2 + 1)
/-- A whole right tree on pages: all pages are the tree's. -/
def Rt.At (P : List Page) (o : Option Rt) (n : Nat) : Prop := match o with
  | none => P = [] ∧ n = 2
  | some r => T.On P r.d r.t n ∧ T.Ok r.d true r.t ∧ (T.ids r.d r.t).length + 2 = n
theorem At_none {x : Item} (hx : isItem x = true) : Rt.At [leafPg [x]] (putR x none 2).1 (putR x none 2).2 := by
  refine ⟨⟨rfl, ⟨Nat.le_refl _, rfl⟩, fun i hi => ?_, ?_⟩, ⟨by simp, by simp, by simp [Rising], fun y hy => ?_⟩, rfl⟩
  · have : i = 2 := List.mem_singleton.1 hi
    show i < 3
    omega
  · show [2].Nodup
    simp
  · rw [List.mem_singleton.1 hy]; exact hx
/-- Behind a put that leaves the root's page. -/
theorem At_same {x : Item} (hx : isItem x = true) {P P' : List Page} {r : Rt} {n : Nat} (h : Rt.At P (some r) n) (hr : PutRes P P' r.d r.t n (T.put x r.d r.t n)) (hm : (T.put x r.d r.t n).2.1 = none) :
    Rt.At P' (putR x (some r) n).1 (putR x (some r) n).2 ∧ Rt.items (putR x (some r) n).1 = insIt x (Rt.items (some r)) ∧ Rt.root (putR x (some r) n).1 = Rt.root (some r) := by
  obtain ⟨h1, h2, h3⟩ := h
  obtain ⟨q1, q2, q3, q4⟩ := put_spec hx r.d true r.t n h2
  have hc := put_cnt x r.d r.t n
  unfold putR
  dsimp only
  rw [hm] at q2 hc ⊢
  dsimp only
  have hids := hr.ids
  have hnd := hr.nodup
  rw [hm] at hids hnd
  have e0 : moreIds r.d (none : Option (Txt × T r.d)) = [] := rfl
  rw [e0, List.append_nil] at hids hnd
  rw [e0] at hc
  refine ⟨⟨⟨hr.len, hr.holds, fun i hi => (hids i hi).2, hnd⟩, q4, ?_⟩, ?_, q1⟩
  · show (T.ids r.d (T.put x r.d r.t n).1).length + 2 = (T.put x r.d r.t n).2.2
    simp at hc
    omega
  · show T.items r.d (T.put x r.d r.t n).1 = insIt x (T.items r.d r.t)
    simpa using q2
/-- Behind a put that makes a new root. -/
theorem At_new {x : Item} (hx : isItem x = true) {P P' : List Page} {r : Rt} {n : Nat} {m : Txt × T r.d} (h : Rt.At P (some r) n) (hr : PutRes P P' r.d r.t n (T.put x r.d r.t n)) (hm : (T.put x r.d r.t n).2.1 = some m) :
    Rt.At (P' ++ [branchPg [[], m.1] [((T.id r.d (T.put x r.d r.t n).1 : Nat) : Int), ((T.id r.d m.2 : Nat) : Int)]]) (putR x (some r) n).1 (putR x (some r) n).2 ∧ Rt.items (putR x (some r) n).1 = insIt x (Rt.items (some r)) ∧ Rt.root (putR x (some r) n).1 = (T.put x r.d r.t n).2.2 := by
  obtain ⟨h1, h2, h3⟩ := h
  obtain ⟨q1, q2, q3, q4⟩ := put_spec hx r.d true r.t n h2
  have hc := put_cnt x r.d r.t n
  have hids := hr.ids
  have hnd := hr.nodup
  have hho := hr.holds
  have hmo := hr.more m hm
  have hlen := hr.len
  have hle := hr.le
  have q3 := q3 m hm
  have hn2 : 2 ≤ n := by have := h1.len; omega
  unfold putR
  dsimp only
  rw [hm] at q2 hc hids hnd ⊢
  dsimp only
  generalize T.put x r.d r.t n = pr at *
  obtain ⟨t', more, n'⟩ := pr
  dsimp only at *
  have e0 : moreIds r.d (some m) = T.ids r.d m.2 := by unfold moreIds; simp
  rw [e0] at hids hnd hc
  have hkeep : ∀ {t : T r.d}, T.Holds P' r.d t → (∀ i ∈ T.ids r.d t, i < n') → T.Holds (P' ++ [branchPg [[], m.1] [((T.id r.d t' : Nat) : Int), ((T.id r.d m.2 : Nat) : Int)]]) r.d t := fun ht hi => ht.keep fun i hi' => by
    have := hi i hi'
    have := ht.ge i hi'
    rw [List.getElem?_append_left (by omega)]
  have hl1 : ∀ i ∈ T.ids r.d t', i < n' := fun i hi => (hids i (List.mem_append.2 (.inl hi))).2
  have hl2 : ∀ i ∈ T.ids r.d m.2, i < n' := fun i hi => (hids i (List.mem_append.2 (.inr hi))).2
  have hfl : ([(([] : Txt), t'), m].flatMap fun a : Txt × T r.d => T.ids r.d a.2) = T.ids r.d t' ++ T.ids r.d m.2 := by
    simp
  refine ⟨⟨⟨by rw [List.length_append]; show P'.length + 1 + 2 = n' + 1; omega, ⟨⟨by show 2 ≤ n'; omega, ?_⟩, fun a ha => ?_⟩, fun i hi => ?_, ?_⟩, ⟨by simp, by simp, rfl, ⟨?_, fun a ha => ?_⟩, fun a ha => ?_, fun a ha => ?_⟩, ?_⟩, ?_, rfl⟩
  · show (P' ++ [branchPg [[], m.1] [((T.id r.d t' : Nat) : Int), ((T.id r.d m.2 : Nat) : Int)]])[n' - 2]? = _
    rw [List.getElem?_append_right (by omega), show n' - 2 - P'.length = 0 by omega]
    rfl
  · have ha : a = ([], t') ∨ a = m := by simpa using ha
    rcases ha with rfl | rfl
    · exact hkeep hho hl1
    · exact hkeep hmo hl2
  · have hi : i ∈ n' :: ([(([] : Txt), t'), m].flatMap fun a : Txt × T r.d => T.ids r.d a.2) := hi
    rw [hfl] at hi
    rcases List.mem_cons.1 hi with rfl | hi
    · show i < i + 1; omega
    · have := (hids i hi).2
      show i < n' + 1
      omega
  · show (n' :: ([(([] : Txt), t'), m].flatMap fun a : Txt × T r.d => T.ids r.d a.2)).Nodup
    rw [hfl]
    exact List.nodup_cons.2 ⟨fun hi => by have := (hids n' hi).2; omega, hnd⟩
  · exact List.pairwise_cons.2 ⟨fun b hb y hy => by rw [List.mem_singleton.1 hb]; exact q3.1 y hy, by simp⟩
  · have ha : a = ([], t') ∨ a = m := by simpa using ha
    rcases ha with rfl | rfl
    · exact fun y _ => lt_nilF _
    · exact q3.2.1
  · have ha : a = m := by simpa using ha
    rw [ha]; exact q3.2.2.1
  · have ha : a = ([], t') ∨ a = m := by simpa using ha
    rcases ha with rfl | rfl
    · exact q3.2.2.2.2
    · exact q3.2.2.2.1
  · show (n' :: ([(([] : Txt), t'), m].flatMap fun a : Txt × T r.d => T.ids r.d a.2)).length + 2 = n' + 1
    rw [hfl, List.length_cons, List.length_append]
    omega
  · show [(([] : Txt), t'), m].flatMap (fun a : Txt × T r.d => T.items r.d a.2) = insIt x (T.items r.d r.t)
    rw [← q2]
    simp
end Sp
end Go.Proofs.YtmcpkhknjdiocaaGreatDoor
