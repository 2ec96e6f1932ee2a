/- Trees of the document: keys in order; a tree whose pages are told by number. Trees of the document: an item put in. Trees of the document: what putting an item in does. Trees of the document: a tree into which an item is put is right, and has it. Trees of the document: on pages. An item put into a tree: what comes of a leaf, of a branch, whatever the pages' numbers are. -/
import Derived.Test.YtlpmjeiogdlifaaGreatQB00
import Derived.Sort.Walk0
set_option linter.unusedSimpArgs false
set_option linter.unusedVariables false
namespace Go.Proofs.YtlpmjeiogdlifaaGreat
open Go.RowKit
attribute [local go_sem low] mk_extract
attribute [local go_sem] After.cell After.frozen mk_extract_end ByteArray.mk_append_mk
namespace Sp
theorem lt_eq (a b : Txt) : lt a b = decide (a < b) := bytesLess_eq a b
theorem lt_irr (a : Txt) : lt a a = false := by
  rw [lt_eq]
  exact decide_eq_false (List.lt_irrefl a)
theorem lt_trans {a b c : Txt} (h1 : lt a b = true) (h2 : lt b c = true) : lt a c = true := by
  rw [lt_eq] at *
  exact decide_eq_true (List.lt_trans (of_decide_eq_true h1) (of_decide_eq_true h2))
theorem lt_asymm {a b : Txt} (h : lt a b = true) : lt b a = false := by
  rcases hb : lt b a with _ | _
  · rfl
  · exact absurd (lt_trans h hb) (by rw [lt_irr]; simp)
theorem lt_tri (a b : Txt) : lt a b = true ∨ a = b ∨ lt b a = true := by
  rw [lt_eq, lt_eq]
  by_cases h1 : a < b
  · exact .inl (decide_eq_true h1)
  · by_cases h2 : b < a
    · exact .inr (.inr (decide_eq_true h2))
    · exact .inr (.inl (List.le_antisymm (List.not_lt.1 h2) (List.not_lt.1 h1)))
theorem lt_nilF (a : Txt) : lt a [] = false := by
  unfold lt Op.bytesLess
  rfl
def insIt (x : Item) : List Item → List Item
  | [] => [x]
  | y :: l => if lt y.key x.key then y :: insIt x l else if y.key = x.key then x :: l else x :: y :: l
def Rising (l : List Item) : Prop := l.Pairwise fun a b => lt a.key b.key = true
theorem insIt_len (x : Item) : ∀ l : List Item, l.length ≤ (insIt x l).length ∧ (insIt x l).length ≤ l.length + 1
  | [] => by simp [insIt]
  | y :: l => by
    have := insIt_len x l
    unfold insIt
    split
    · simp; omega
    · split <;> simp
theorem mem_insIt {x y : Item} : ∀ {l : List Item}, y ∈ insIt x l → y = x ∨ y ∈ l
  | [], h => by simpa [insIt] using h
  | z :: l, h => by
    unfold insIt at h
    split at h
    · rcases List.mem_cons.1 h with h | h
      · exact .inr (by simp [h])
      · rcases mem_insIt h with h | h
        · exact .inl h
        · exact .inr (by simp [h])
    · split at h
      · rcases List.mem_cons.1 h with h | h
        · exact .inl h
        · exact .inr (by simp [h])
      · rcases List.mem_cons.1 h with h | h
        · exact .inl h
        · exact .inr h
theorem insIt_rising (x : Item) : ∀ {l : List Item}, Rising l → Rising (insIt x l)
  | [], _ => by simp [insIt, Rising]
  | y :: l, h => by
    obtain ⟨h1, h2⟩ := List.pairwise_cons.1 h
    unfold insIt
    split
    · rename_i hy
      refine List.pairwise_cons.2 ⟨fun z hz => ?_, insIt_rising x h2⟩
      rcases mem_insIt hz with rfl | hz
      · exact hy
      · exact h1 z hz
    · rename_i hy
      split
      · rename_i he
        exact List.pairwise_cons.2 ⟨fun z hz => by rw [← he]; exact h1 z hz, h2⟩
      · rename_i he
        have hxy : lt x.key y.key = true := by
          rcases lt_tri y.key x.key with h' | h' | h'
          · exact absurd h' hy
          · exact absurd h' he
          · exact h'
        exact List.pairwise_cons.2 ⟨fun z hz => by
          rcases List.mem_cons.1 hz with rfl | hz
          · exact hxy
          · exact lt_trans hxy (h1 z hz), h⟩
theorem insIt_left {x : Item} : ∀ {l r : List Item}, (∀ y ∈ r, lt x.key y.key = true) → insIt x (l ++ r) = insIt x l ++ r
  | [], [], _ => rfl
  | [], y :: r, h => by
    have hy := h y (by simp)
    show insIt x (y :: r) = [x] ++ y :: r
    unfold insIt
    rw [if_neg (by rw [lt_asymm hy]; simp), if_neg (fun e => by rw [e, lt_irr] at hy; simp at hy)]
    rfl
  | z :: l, r, h => by
    rw [List.cons_append]
    unfold insIt
    split
    · rw [insIt_left h]; rfl
    · split <;> rfl
theorem insIt_right {x : Item} : ∀ {l r : List Item}, (∀ y ∈ l, lt y.key x.key = true) → insIt x (l ++ r) = l ++ insIt x r
  | [], _, _ => rfl
  | z :: l, r, h => by
    rw [List.cons_append]
    show insIt x (z :: (l ++ r)) = z :: (l ++ insIt x r)
    rw [insIt, if_pos (h z (by simp)), insIt_right fun y hy => h y (by simp [hy])]
end Sp
end Go.Proofs.YtlpmjeiogdlifaaGreat
namespace Go.Proofs.YtlpmjeiogdlifaaGreat
open Go.RowKit
attribute [local go_sem low] mk_extract
attribute [local go_sem] After.cell After.frozen mk_extract_end ByteArray.mk_append_mk
namespace Sp
def T : Nat → Type
  | 0 => Nat × List Item
  | d + 1 => Nat × List (Txt × T d)
def T.id : (d : Nat) → T d → Nat
  | 0, t => t.1
  | _ + 1, t => t.1
def T.items : (d : Nat) → T d → List Item
  | 0, t => t.2
  | d + 1, t => t.2.flatMap fun c => T.items d c.2
def downI {α : Type} (key : Txt) : List (Txt × α) → Nat
  | [] => 0
  | [_] => 0
  | _ :: c :: cs => if lt key c.1 then 0 else downI key (c :: cs) + 1
def graft {α : Type} (k : Nat) (t : α) (more : Option (Txt × α)) (cs : List (Txt × α)) : List (Txt × α) :=
  match cs[k]? with
  | none => cs
  | some c => cs.take k ++ (c.1, t) :: (more.toList ++ cs.drop (k + 1))
def T.put (x : Item) : (d : Nat) → T d → Nat → T d × Option (Txt × T d) × Nat
  | 0, t, n => if (insIt x t.2).length ≤ 4 then ((t.1, insIt x t.2), none, n) else ((t.1, (insIt x t.2).take 3), some (((insIt x t.2).getD 3 item0).key, (n, (insIt x t.2).drop 3)), n + 1)
  | d + 1, t, n => match t.2[downI x.key t.2]? with
    | none => (t, none, n)
    | some c => let r := T.put x d c.2 n
      let cs := graft (downI x.key t.2) r.1 r.2.1 t.2
      if cs.length ≤ 4 then ((t.1, cs), none, r.2.2)
      else match cs.drop 3 with
        | [] => (t, none, n)
        | b :: bs => ((t.1, cs.take 3), some (b.1, (r.2.2, ([], b.2) :: bs)), r.2.2 + 1)
def Parted {α : Type} (f : α → List Item) (cs : List (Txt × α)) : Prop :=
  cs.Pairwise (fun a b => ∀ y ∈ f a.2, lt y.key b.1 = true) ∧ ∀ c ∈ cs, ∀ y ∈ f c.2, lt y.key c.1 = false
def T.Ok : (d : Nat) → Bool → T d → Prop
  | 0, top, t => t.2.length ≤ 4 ∧ (if top then 1 else 2) ≤ t.2.length ∧ Rising t.2 ∧ ∀ y ∈ t.2, isItem y = true
  | d + 1, _, t => 2 ≤ t.2.length ∧ t.2.length ≤ 4 ∧ (t.2.map (·.1)).head? = some [] ∧ Parted (T.items d) t.2 ∧ (∀ c ∈ t.2.tail, short c.1 = true) ∧ ∀ c ∈ t.2, T.Ok d false c.2
theorem T.Ok.top {d : Nat} {t : T d} (h : T.Ok d false t) : T.Ok d true t := by
  cases d with
  | zero => exact ⟨h.1, Nat.le_trans (by decide) h.2.1, h.2.2⟩
  | succ d => exact h
theorem T.Ok.ne {d : Nat} {b : Bool} {t : T d} (h : T.Ok d b t) : T.items d t ≠ [] := by
  induction d generalizing b with
  | zero =>
    intro e
    have h2 := h.2.1
    have : t.2 = [] := e
    rw [this] at h2
    cases b <;> simp at h2
  | succ d ih =>
    intro e
    obtain ⟨h1, _, _, _, _, h6⟩ := h
    match hc : t.2 with
    | [] => rw [hc] at h1; simp at h1
    | c :: cs =>
      have hcm : c ∈ t.2 := by rw [hc]; simp
      apply ih (h6 c hcm)
      have e' : t.2.flatMap (fun c => T.items d c.2) = [] := e
      rw [List.flatMap_eq_nil_iff] at e'
      exact e' c hcm
theorem parted_rising {α : Type} {f : α → List Item} : ∀ {cs : List (Txt × α)}, Parted f cs → (∀ c ∈ cs, Rising (f c.2)) → Rising (cs.flatMap fun c => f c.2)
  | [], _, _ => List.Pairwise.nil
  | c :: cs, ⟨h1, h2⟩, h3 => by
    obtain ⟨h4, h5⟩ := List.pairwise_cons.1 h1
    rw [List.flatMap_cons]
    refine List.pairwise_append.2 ⟨h3 c (by simp), parted_rising ⟨h5, fun c hc => h2 c (by simp [hc])⟩ (fun c hc => h3 c (by simp [hc])), fun y hy z hz => ?_⟩
    obtain ⟨c', hc', hz⟩ := List.mem_flatMap.1 hz
    have a := h4 c' hc' y hy
    have b := h2 c' (by simp [hc']) z hz
    rcases lt_tri c'.1 z.key with h | h | h
    · exact lt_trans a h
    · rw [← h]; exact a
    · rw [b] at h; simp at h
theorem T.Ok.rising {d : Nat} {b : Bool} {t : T d} (h : T.Ok d b t) : Rising (T.items d t) := by
  induction d generalizing b with
  | zero => exact h.2.2.1
  | succ d ih =>
    obtain ⟨_, _, _, h4, _, h6⟩ := h
    exact parted_rising h4 fun c hc => ih (h6 c hc)
theorem T.Ok.item {d : Nat} {b : Bool} {t : T d} (h : T.Ok d b t) : ∀ y ∈ T.items d t, isItem y = true := by
  induction d generalizing b with
  | zero => exact h.2.2.2
  | succ d ih =>
    obtain ⟨_, _, _, _, _, h6⟩ := h
    intro y hy
    obtain ⟨c, hc, hy⟩ := List.mem_flatMap.1 hy
    exact ih (h6 c hc) y hy
end Sp
end Go.Proofs.YtlpmjeiogdlifaaGreat
namespace Go.Proofs.YtlpmjeiogdlifaaGreat
open Go.RowKit
attribute [local go_sem low] mk_extract
attribute [local go_sem] After.cell After.frozen mk_extract_end ByteArray.mk_append_mk
namespace Sp
theorem le_lt {a b z : Txt} (h1 : lt z a = false) (h2 : lt z b = true) : lt a b = true := by
  rcases lt_tri a z with h | h | h
  · exact lt_trans h h2
  · rw [h]; exact h2
  · rw [h1] at h; simp at h
theorem lt_le {a b z : Txt} (h1 : lt a b = true) (h2 : lt z b = false) : lt a z = true := by
  rcases lt_tri b z with h | h | h
  · exact lt_trans h1 h
  · rw [← h]; exact h1
  · rw [h2] at h; simp at h
def KeysRise {α : Type} (cs : List (Txt × α)) : Prop := cs.Pairwise fun a b => lt a.1 b.1 = true
theorem parted_keys {α : Type} {f : α → List Item} {cs : List (Txt × α)} (h : Parted f cs) (hne : ∀ c ∈ cs, f c.2 ≠ []) : KeysRise cs := by
  refine List.Pairwise.imp_of_mem (fun {a b} ha _ hab => ?_) h.1
  obtain ⟨z, hz⟩ := List.exists_mem_of_ne_nil _ (hne a ha)
  exact le_lt (h.2 a ha z hz) (hab z hz)
theorem downI_lt {α : Type} (key : Txt) : ∀ {cs : List (Txt × α)}, cs ≠ [] → downI key cs < cs.length
  | [], h => absurd rfl h
  | [_], _ => by simp [downI]
  | _ :: c :: cs, _ => by
    have := downI_lt key (cs := c :: cs) (by simp)
    unfold downI
    split
    · simp
    · simp only [List.length_cons] at *; omega
theorem downI_post {α : Type} (key : Txt) : ∀ {cs : List (Txt × α)}, KeysRise cs → ∀ p ∈ cs.drop (downI key cs + 1), lt key p.1 = true
  | [], _, p, hp => by simp at hp
  | [_], _, p, hp => by simp [downI] at hp
  | a :: c :: cs, h, p, hp => by
    obtain ⟨_, h2⟩ := List.pairwise_cons.1 h
    obtain ⟨h3, _⟩ := List.pairwise_cons.1 h2
    unfold downI at hp
    split at hp
    · rename_i hk
      rw [Nat.zero_add, List.drop_succ_cons, List.drop_zero] at hp
      rcases List.mem_cons.1 hp with rfl | hp
      · exact hk
      · exact lt_trans hk (h3 p hp)
    · rw [List.drop_succ_cons] at hp
      exact downI_post key h2 p hp
theorem downI_at {α : Type} (key : Txt) : ∀ {cs : List (Txt × α)} {c : Txt × α}, cs[downI key cs]? = some c → downI key cs = 0 ∨ lt key c.1 = false
  | [], _, h => by simp at h
  | [_], _, _ => .inl rfl
  | a :: b :: cs, c, h => by
    unfold downI at h ⊢
    split at h
    · rename_i hk; rw [if_pos hk]; exact .inl rfl
    · rename_i hk
      rw [if_neg hk]
      rw [List.getElem?_cons_succ] at h
      rcases downI_at key h with h0 | h0
      · rw [h0, List.getElem?_cons_zero] at h
        simp only [Option.some.injEq] at h
        subst h
        right
        simpa using hk
      · exact .inr h0
theorem split_at {α : Type} {cs : List α} {k : Nat} {c : α} (h : cs[k]? = some c) : cs = cs.take k ++ c :: cs.drop (k + 1) := by
  obtain ⟨hk, hc⟩ := List.getElem?_eq_some_iff.1 h
  have := List.take_append_drop k cs
  rw [List.drop_eq_getElem_cons hk, hc] at this
  exact this.symm
theorem isItem_short {x : Item} (h : isItem x = true) : short x.key = true := by
  rw [isItem_def] at h
  simp only [Bool.and_eq_true] at h
  exact h.1.1
theorem parted_graft {α : Type} {f : α → List Item} {pre post : List (Txt × α)} {c : Txt × α} {t : α} {more : Option (Txt × α)} {x : Item}
    (h : Parted f (pre ++ c :: post)) (hx : lt x.key c.1 = false) (hpost : ∀ p ∈ post, lt x.key p.1 = true) (hne : f t ≠ [])
    (hit : f t ++ (more.toList.flatMap fun m => f m.2) = insIt x (f c.2))
    (hm : ∀ m ∈ more, (∀ y ∈ f t, lt y.key m.1 = true) ∧ ∀ y ∈ f m.2, lt y.key m.1 = false) : Parted f (pre ++ (c.1, t) :: (more.toList ++ post)) := by
  obtain ⟨h1, h2⟩ := h
  obtain ⟨p1, p2, p3⟩ := List.pairwise_append.1 h1
  obtain ⟨p4, p5⟩ := List.pairwise_cons.1 p2
  have hin : ∀ y, y ∈ f t ∨ y ∈ (more.toList.flatMap fun m => f m.2) → y = x ∨ y ∈ f c.2 := fun y hy => by
    refine mem_insIt ?_
    rw [← hit]
    exact List.mem_append.2 hy
  have hup : ∀ y, y ∈ f t ∨ y ∈ (more.toList.flatMap fun m => f m.2) → ∀ p ∈ post, lt y.key p.1 = true := fun y hy p hp => by
    rcases hin y hy with rfl | hy
    · exact hpost p hp
    · exact p4 p hp y hy
  have hlo : ∀ y, y ∈ f t ∨ y ∈ (more.toList.flatMap fun m => f m.2) → lt y.key c.1 = false := fun y hy => by
    rcases hin y hy with rfl | hy
    · exact hx
    · exact h2 c (by simp) y hy
  refine ⟨List.pairwise_append.2 ⟨p1, List.pairwise_cons.2 ⟨fun b hb y hy => ?_, List.pairwise_append.2 ⟨?_, p5, fun m hm' p hp y hy => ?_⟩⟩, fun a ha b hb y hy => ?_⟩, fun b hb y hy => ?_⟩
  · rcases List.mem_append.1 hb with hb | hb
    · exact (hm b (by simpa using hb)).1 y hy
    · exact hup y (.inl hy) b hb
  · cases more <;> simp
  · exact hup y (.inr (List.mem_flatMap.2 ⟨m, hm', hy⟩)) p hp
  · rcases List.mem_cons.1 hb with rfl | hb
    · exact p3 a ha c (by simp) y hy
    · rcases List.mem_append.1 hb with hb | hb
      · have hyc := p3 a ha c (by simp) y hy
        obtain ⟨z, hz⟩ := List.exists_mem_of_ne_nil _ hne
        exact lt_trans (lt_le hyc (hlo z (.inl hz))) ((hm b (by simpa using hb)).1 z hz)
      · exact p3 a ha b (by simp [hb]) y hy
  · rcases List.mem_append.1 hb with hb | hb
    · exact h2 b (by simp [hb]) y hy
    · rcases List.mem_cons.1 hb with rfl | hb
      · exact hlo y (.inl hy)
      · rcases List.mem_append.1 hb with hb | hb
        · exact (hm b (by simpa using hb)).2 y hy
        · exact h2 b (by simp [hb]) y hy
end Sp
end Go.Proofs.YtlpmjeiogdlifaaGreat
namespace Go.Proofs.YtlpmjeiogdlifaaGreat
open Go.RowKit
attribute [local go_sem low] mk_extract
attribute [local go_sem] After.cell After.frozen mk_extract_end ByteArray.mk_append_mk
namespace Sp
def PutOk (x : Item) (d : Nat) (b : Bool) (t : T d) (r : T d × Option (Txt × T d) × Nat) : Prop :=
  T.id d r.1 = T.id d t ∧ T.items d r.1 ++ (r.2.1.toList.flatMap fun m => T.items d m.2) = insIt x (T.items d t) ∧
  (∀ m ∈ r.2.1, (∀ y ∈ T.items d r.1, lt y.key m.1 = true) ∧ (∀ y ∈ T.items d m.2, lt y.key m.1 = false) ∧ short m.1 = true ∧ T.Ok d false m.2 ∧ T.Ok d false r.1) ∧ T.Ok d b r.1
theorem put_zero (x : Item) (id : Nat) (l : List Item) (n : Nat) : T.put x 0 (id, l) n = if (insIt x l).length ≤ 4 then ((id, insIt x l), none, n) else ((id, (insIt x l).take 3), some (((insIt x l).getD 3 item0).key, (n, (insIt x l).drop 3)), n + 1) := rfl
theorem put_succ (x : Item) (d : Nat) (id : Nat) (cs : List (Txt × T d)) (n : Nat) : T.put x (d + 1) (id, cs) n = match cs[downI x.key cs]? with
    | none => ((id, cs), none, n)
    | some c => if (graft (downI x.key cs) (T.put x d c.2 n).1 (T.put x d c.2 n).2.1 cs).length ≤ 4 then ((id, graft (downI x.key cs) (T.put x d c.2 n).1 (T.put x d c.2 n).2.1 cs), none, (T.put x d c.2 n).2.2)
      else match (graft (downI x.key cs) (T.put x d c.2 n).1 (T.put x d c.2 n).2.1 cs).drop 3 with
        | [] => ((id, cs), none, n)
        | b :: bs => ((id, (graft (downI x.key cs) (T.put x d c.2 n).1 (T.put x d c.2 n).2.1 cs).take 3), some (b.1, ((T.put x d c.2 n).2.2, ([], b.2) :: bs)), (T.put x d c.2 n).2.2 + 1) := rfl
theorem ok_any {d : Nat} {b : Bool} {t : T d} (h : T.Ok d false t) : T.Ok d b t := by
  cases b
  · exact h
  · exact h.top
theorem put_leaf {x : Item} (hx : isItem x = true) (b : Bool) (t : T 0) (n : Nat) (h : T.Ok 0 b t) : PutOk x 0 b t (T.put x 0 t n) := by
  obtain ⟨id, l0⟩ := t
  obtain ⟨h1, h2, h3, h4⟩ := h
  have hl := insIt_len x l0
  have hr := insIt_rising x h3
  have hi : ∀ y ∈ insIt x l0, isItem y = true := fun y hy => by
    rcases mem_insIt hy with rfl | hy
    · exact hx
    · exact h4 y hy
  have h1 : l0.length ≤ 4 := h1
  have h2 : (if b then 1 else 2) ≤ l0.length := h2
  rw [put_zero]
  generalize hq : insIt x l0 = l at *
  by_cases hle : l.length ≤ 4
  · rw [if_pos hle]
    refine ⟨rfl, ?_, fun m hm => (by cases hm), hle, by show (if b then 1 else 2) ≤ l.length; omega, hr, hi⟩
    show l ++ [] = insIt x l0
    rw [List.append_nil, hq]
  · rw [if_neg hle]
    have h5 : l.length = 5 := by omega
    match l, h5 with
    | [a0, a1, a2, a3, a4], _ =>
      have hr' : Rising ([a0, a1, a2] ++ [a3, a4]) := hr
      obtain ⟨r1, r2, r3⟩ := List.pairwise_append.1 hr'
      have ok1 : T.Ok 0 false (id, [a0, a1, a2]) := ⟨by simp, by simp, r1, fun y hy => hi y (by simp at hy ⊢; rcases hy with h | h | h <;> simp [h])⟩
      have ok2 : T.Ok 0 false (n, [a3, a4]) := ⟨by simp, by simp, r2, fun y hy => hi y (by simp at hy ⊢; rcases hy with h | h <;> simp [h])⟩
      refine ⟨rfl, ?_, fun m hm => ?_, ok_any ok1⟩
      · show [a0, a1, a2] ++ ([a3, a4] ++ []) = insIt x l0
        rw [hq]
        rfl
      · have hm' : m = (a3.key, (n, [a3, a4])) := by
          have : some (a3.key, ((n, [a3, a4]) : T 0)) = some m := hm
          exact (Option.some.inj this).symm
        subst hm'
        refine ⟨fun y hy => r3 y hy a3 (by simp), fun y hy => ?_, isItem_short (hi a3 (by simp)), ok2, ok1⟩
        have hy' : y = a3 ∨ y = a4 := by
          have : y ∈ [a3, a4] := hy
          simpa using this
        rcases hy' with rfl | rfl
        · exact lt_irr _
        · exact lt_asymm ((List.pairwise_cons.1 r2).1 y (by simp))
theorem put_spec {x : Item} (hx : isItem x = true) : ∀ (d : Nat) (b : Bool) (t : T d) (n : Nat), T.Ok d b t → PutOk x d b t (T.put x d t n)
  | 0, b, t, n, h => put_leaf hx b t n h
  | d + 1, b, (id, cs), n, h => by
    obtain ⟨l2, l4, hd, hp, hsh, hok⟩ := h
    have l2 : 2 ≤ cs.length := l2
    have l4 : cs.length ≤ 4 := l4
    have hd : (cs.map (·.1)).head? = some [] := hd
    have hp : Parted (T.items d) cs := hp
    have hsh : ∀ c ∈ cs.tail, short c.1 = true := hsh
    have hok : ∀ c ∈ cs, T.Ok d false c.2 := hok
    have hke := parted_keys hp fun c hc => (hok c hc).ne
    have hne : cs ≠ [] := by intro e; rw [e] at l2; simp at l2
    have hk := downI_lt x.key hne
    have hc0 := List.getElem?_eq_getElem hk
    have hpost := downI_post x.key hke
    have hat := downI_at x.key hc0
    rw [put_succ, hc0]
    dsimp only
    generalize hk' : downI x.key cs = k at *
    generalize cs[k] = c at *
    have hspl := split_at hc0
    have hcm : c ∈ cs := by rw [hspl]; simp
    obtain ⟨q1, q2, q3, q4⟩ := put_spec hx d false c.2 n (hok c hcm)
    generalize T.put x d c.2 n = r at *
    obtain ⟨t', more, n'⟩ := r
    dsimp only at q1 q2 q3 q4 ⊢
    have hgr : graft k t' more cs = cs.take k ++ (c.1, t') :: (more.toList ++ cs.drop (k + 1)) := by
      unfold graft
      rw [hc0]
    rw [hgr]
    have hxc : lt x.key c.1 = false := by
      rcases hat with h0 | h0
      · have : c.1 = [] := by
          rw [hspl, h0] at hd
          simpa using hd
        rw [this]
        exact lt_nilF _
      · exact h0
    have hp2 : Parted (T.items d) (cs.take k ++ c :: cs.drop (k + 1)) := by rw [← hspl]; exact hp
    have hpn := parted_graft hp2 hxc hpost q4.ne q2 (fun m hm => ⟨(q3 m hm).1, (q3 m hm).2.1⟩)
    have hln : (cs.take k ++ (c.1, t') :: (more.toList ++ cs.drop (k + 1))).length = cs.length + more.toList.length := by
      simp only [List.length_append, List.length_cons, List.length_take, List.length_drop]
      omega
    have hml : more.toList.length ≤ 1 := by cases more <;> simp
    have hhd : ((cs.take k ++ (c.1, t') :: (more.toList ++ cs.drop (k + 1))).map (·.1)).head? = some [] := by
      rw [hspl] at hd
      cases ht : cs.take k with
      | nil => rw [ht] at hd; simpa using hd
      | cons a aq => rw [ht] at hd; simpa using hd
    have hst : ∀ a ∈ (cs.take k ++ (c.1, t') :: (more.toList ++ cs.drop (k + 1))).tail, short a.1 = true := by
      have hm' : ∀ m ∈ more.toList, short m.1 = true := fun m hm => (q3 m (by simpa using hm)).2.2.1
      rw [hspl] at hsh
      cases ht : cs.take k with
      | nil =>
        rw [ht] at hsh
        intro a ha
        rcases List.mem_append.1 ha with ha | ha
        · exact hm' a ha
        · exact hsh a ha
      | cons p ps =>
        rw [ht] at hsh
        intro a ha
        rcases List.mem_append.1 ha with ha | ha
        · exact hsh a (List.mem_append.2 (.inl ha))
        · rcases List.mem_cons.1 ha with rfl | ha
          · exact hsh c (List.mem_append.2 (.inr (by simp)))
          · rcases List.mem_append.1 ha with ha | ha
            · exact hm' a ha
            · exact hsh a (List.mem_append.2 (.inr (by simp [ha])))
    have hon : ∀ a ∈ cs.take k ++ (c.1, t') :: (more.toList ++ cs.drop (k + 1)), T.Ok d false a.2 := by
      intro a ha
      rcases List.mem_append.1 ha with ha | ha
      · exact hok a (by rw [hspl]; simp [ha])
      · rcases List.mem_cons.1 ha with rfl | ha
        · exact q4
        · rcases List.mem_append.1 ha with ha | ha
          · exact (q3 a (by simpa using ha)).2.2.2.1
          · exact hok a (by rw [hspl]; simp [ha])
    have hfl : (cs.take k ++ (c.1, t') :: (more.toList ++ cs.drop (k + 1))).flatMap (fun a => T.items d a.2) = insIt x (cs.flatMap fun a => T.items d a.2) := by
      have hlow : ∀ y ∈ (cs.take k).flatMap (fun a => T.items d a.2), lt y.key x.key = true := by
        intro y hy
        obtain ⟨a, ha, hy⟩ := List.mem_flatMap.1 hy
        obtain ⟨_, _, p3⟩ := List.pairwise_append.1 hp2.1
        exact lt_le (p3 a ha c (by simp) y hy) hxc
      have hupp : ∀ y ∈ (cs.drop (k + 1)).flatMap (fun a => T.items d a.2), lt x.key y.key = true := by
        intro y hy
        obtain ⟨a, ha, hy⟩ := List.mem_flatMap.1 hy
        exact lt_le (hpost a ha) (hp2.2 a (by simp [ha]) y hy)
      have e1 : cs.flatMap (fun a => T.items d a.2) = (cs.take k).flatMap (fun a => T.items d a.2) ++ (T.items d c.2 ++ (cs.drop (k + 1)).flatMap (fun a => T.items d a.2)) := by
        conv => lhs; rw [hspl]
        rw [List.flatMap_append, List.flatMap_cons]
      rw [e1, insIt_right hlow, insIt_left hupp, ← q2, List.flatMap_append, List.flatMap_cons, List.flatMap_append, List.append_assoc]
    generalize cs.take k ++ (c.1, t') :: (more.toList ++ cs.drop (k + 1)) = ds at *
    by_cases hle : ds.length ≤ 4
    · rw [if_pos hle]
      refine ⟨rfl, ?_, fun m hm => (by cases hm), by show 2 ≤ ds.length; omega, hle, hhd, hpn, hst, hon⟩
      show ds.flatMap (fun a => T.items d a.2) ++ [] = _
      rw [List.append_nil, hfl]
      rfl
    · rw [if_neg hle]
      have h5 : ds.length = 5 := by omega
      match ds, h5 with
      | [a0, a1, a2, a3, a4], _ =>
        have hp' : Parted (T.items d) ([a0, a1, a2] ++ [a3, a4]) := hpn
        obtain ⟨hpw, hr⟩ := hp'
        obtain ⟨hq1, hq2, hq3⟩ := List.pairwise_append.1 hpw
        have e0 : a0.1 = [] := by simpa using hhd
        have ok1 : T.Ok (d + 1) false (id, [a0, a1, a2]) := ⟨by simp, by simp, by simp [e0], ⟨hq1, fun a ha => hr a (by simp at ha ⊢; rcases ha with h | h | h <;> simp [h])⟩, fun a ha => hst a (by simp at ha ⊢; rcases ha with h | h <;> simp [h]), fun a ha => hon a (by simp at ha ⊢; rcases ha with h | h | h <;> simp [h])⟩
        have ok2 : T.Ok (d + 1) false (n', [([], a3.2), a4]) := by
          refine ⟨by simp, by simp, by simp, ⟨?_, fun a ha => ?_⟩, fun a ha => hst a (by simp at ha ⊢; simp [ha]), fun a ha => ?_⟩
          · obtain ⟨u1, u2⟩ := List.pairwise_cons.1 hq2
            exact List.pairwise_cons.2 ⟨u1, u2⟩
          · have ha : a = ([], a3.2) ∨ a = a4 := by simpa using ha
            rcases ha with rfl | rfl
            · exact fun y _ => lt_nilF _
            · exact hr a (by simp)
          · have ha : a = ([], a3.2) ∨ a = a4 := by simpa using ha
            rcases ha with rfl | rfl
            · exact hon a3 (by simp)
            · exact hon a (by simp)
        refine ⟨rfl, ?_, fun m hm => ?_, ok_any ok1⟩
        · rw [show T.items (d + 1) (id, cs) = cs.flatMap (fun a => T.items d a.2) from rfl, ← hfl]
          show [a0, a1, a2].flatMap (fun a => T.items d a.2) ++ ([(a3.1, ((n', [([], a3.2), a4]) : T (d + 1)))].flatMap fun m => T.items (d + 1) m.2) = [a0, a1, a2, a3, a4].flatMap (fun a => T.items d a.2)
          rw [List.flatMap_singleton]
          show [a0, a1, a2].flatMap (fun a => T.items d a.2) ++ [(([] : Txt), a3.2), a4].flatMap (fun a => T.items d a.2) = [a0, a1, a2, a3, a4].flatMap (fun a => T.items d a.2)
          rw [show [a0, a1, a2, a3, a4] = [a0, a1, a2] ++ [a3, a4] from rfl, List.flatMap_append]
          rfl
        · have hm' : m = (a3.1, ((n', [([], a3.2), a4]) : T (d + 1))) := by
            have : some (a3.1, ((n', [([], a3.2), a4]) : T (d + 1))) = some m := hm
            exact (Option.some.inj this).symm
          subst hm'
          refine ⟨fun y hy => ?_, fun y hy => ?_, hst a3 (by simp), ok2, ok1⟩
          · obtain ⟨a, ha, hy⟩ := List.mem_flatMap.1 (show y ∈ [a0, a1, a2].flatMap (fun a => T.items d a.2) from hy)
            exact hq3 a ha a3 (by simp) y hy
          · obtain ⟨a, ha, hz⟩ := List.mem_flatMap.1 (show y ∈ [(([] : Txt), a3.2), a4].flatMap (fun a => T.items d a.2) from hy)
            have ha : a = ([], a3.2) ∨ a = a4 := by simpa using ha
            rcases ha with rfl | rfl
            · exact hr a3 (by simp) y hz
            · have h34 : lt a3.1 a.1 = true := by
                obtain ⟨z, hz⟩ := List.exists_mem_of_ne_nil _ (hon a3 (by simp)).ne
                exact le_lt (hr a3 (by simp) z hz) ((List.pairwise_cons.1 hq2).1 a (by simp) z hz)
              rcases hb : lt y.key a3.1 with _ | _
              · rfl
              · exact absurd (lt_trans hb h34) (by rw [hr a (by simp) y hz]; simp)
end Sp
end Go.Proofs.YtlpmjeiogdlifaaGreat
namespace Go.Proofs.YtlpmjeiogdlifaaGreat
open Go.RowKit
attribute [local go_sem low] mk_extract
attribute [local go_sem] After.cell After.frozen mk_extract_end ByteArray.mk_append_mk
namespace Sp
def leafPg (l : List Item) : Page := ⟨1, l, [], [], [], [], [], 0, mt0⟩
def branchPg (ks : List Txt) (is : List Int) : Page := ⟨2, [], ks, is, [], [], [], 0, mt0⟩
def T.ids : (d : Nat) → T d → List Nat
  | 0, t => [t.1]
  | d + 1, t => t.1 :: t.2.flatMap fun c => T.ids d c.2
def T.page : (d : Nat) → T d → Page
  | 0, t => leafPg t.2
  | d + 1, t => branchPg (t.2.map (·.1)) (t.2.map fun c => ((T.id d c.2 : Nat) : Int))
def T.Holds (P : List Page) : (d : Nat) → T d → Prop
  | 0, t => 2 ≤ t.1 ∧ P[t.1 - 2]? = some (T.page 0 t)
  | d + 1, t => (2 ≤ t.1 ∧ P[t.1 - 2]? = some (T.page (d + 1) t)) ∧ ∀ c ∈ t.2, T.Holds P d c.2
theorem T.Holds.root {P : List Page} {d : Nat} {t : T d} (h : T.Holds P d t) : 2 ≤ T.id d t ∧ P[T.id d t - 2]? = some (T.page d t) := by
  cases d with
  | zero => exact h
  | succ d => exact h.1
theorem T.id_mem {d : Nat} {t : T d} : T.id d t ∈ T.ids d t := by
  cases d <;> simp [T.id, T.ids]
theorem T.Holds.keep {P P' : List Page} : ∀ {d : Nat} {t : T d}, T.Holds P d t → (∀ i ∈ T.ids d t, P'[i - 2]? = P[i - 2]?) → T.Holds P' d t
  | 0, t, h, hk => ⟨h.1, (hk t.1 (by simp [T.ids])).trans h.2⟩
  | d + 1, t, h, hk => ⟨⟨h.1.1, (hk t.1 (by simp [T.ids])).trans h.1.2⟩, fun c hc => (h.2 c hc).keep fun i hi => hk i (List.mem_cons_of_mem _ (List.mem_flatMap.2 ⟨c, hc, hi⟩))⟩
theorem T.Holds.ge {P : List Page} : ∀ {d : Nat} {t : T d}, T.Holds P d t → ∀ i ∈ T.ids d t, 2 ≤ i
  | 0, t, h, i, hi => by
    have : i = t.1 := by simpa [T.ids] using hi
    rw [this]; exact h.1
  | d + 1, t, h, i, hi => by
    rcases List.mem_cons.1 (show i ∈ t.1 :: t.2.flatMap (fun c => T.ids d c.2) from hi) with rfl | hi
    · exact h.1.1
    · obtain ⟨c, hc, hi⟩ := List.mem_flatMap.1 hi
      exact (h.2 c hc).ge i hi
def moreIds (d : Nat) (m : Option (Txt × T d)) : List Nat := m.toList.flatMap fun m => T.ids d m.2
structure PutRes (P P' : List Page) (d : Nat) (t : T d) (n : Nat) (r : T d × Option (Txt × T d) × Nat) : Prop where
  len : P'.length + 2 = r.2.2
  le : n ≤ r.2.2
  holds : T.Holds P' d r.1
  more : ∀ m ∈ r.2.1, T.Holds P' d m.2
  frame : ∀ i, 2 ≤ i → i < n → i ∉ T.ids d t → P'[i - 2]? = P[i - 2]?
  ids : ∀ i ∈ T.ids d r.1 ++ moreIds d r.2.1, (i ∈ T.ids d t ∨ n ≤ i) ∧ i < r.2.2
  nodup : (T.ids d r.1 ++ moreIds d r.2.1).Nodup
structure T.On (P : List Page) (d : Nat) (t : T d) (n : Nat) : Prop where
  len : P.length + 2 = n
  holds : T.Holds P d t
  lt : ∀ i ∈ T.ids d t, i < n
  nodup : (T.ids d t).Nodup
theorem leaf_res {x : Item} {P : List Page} {t : T 0} {n : Nat} (h : T.On P 0 t n) (hl : t.2.length ≤ 4) :
    PutRes P (if (insIt x t.2).length ≤ 4 then P.set (t.1 - 2) (leafPg (insIt x t.2)) else P.set (t.1 - 2) (leafPg ((insIt x t.2).take 3)) ++ [leafPg ((insIt x t.2).drop 3)]) 0 t n (T.put x 0 t n) := by
  obtain ⟨id, l0⟩ := t
  have hid : 2 ≤ id := h.holds.1
  have hlt : id < n := h.lt id (by simp [T.ids])
  have hlen := h.len
  have hid2 : id - 2 < P.length := by omega
  rw [put_zero]
  dsimp only
  generalize insIt x l0 = l
  by_cases h4 : l.length ≤ 4
  · rw [if_pos h4, if_pos h4]
    refine ⟨by rw [List.length_set]; exact hlen, Nat.le_refl _, ⟨hid, ?_⟩, fun m hm => (by cases hm), fun i h2 hi hni => ?_, fun i hi => ?_, by show ([id] ++ []).Nodup; simp⟩
    · show (P.set (id - 2) (leafPg l))[id - 2]? = some (leafPg l)
      rw [List.getElem?_set_self hid2]
    · have : i ≠ id := by simpa [T.ids] using hni
      rw [List.getElem?_set_ne (by omega)]
    · have hi : i ∈ [id] ++ [] := hi
      have : i = id := by simpa using hi
      subst this
      exact ⟨.inl (by simp [T.ids]), hlt⟩
  · rw [if_neg h4, if_neg h4]
    refine ⟨by simp; omega, Nat.le_succ _, ⟨hid, ?_⟩, fun m hm => ?_, fun i h2 hi hni => ?_, fun i hi => ?_, ?_⟩
    · show (P.set (id - 2) (leafPg (l.take 3)) ++ [leafPg (l.drop 3)])[id - 2]? = some (leafPg (l.take 3))
      rw [List.getElem?_append_left (by simp; omega), List.getElem?_set_self hid2]
    · have hm' : m = ((l.getD 3 item0).key, (n, l.drop 3)) := (Option.some.inj (show some ((l.getD 3 item0).key, ((n, l.drop 3) : T 0)) = some m from hm)).symm
      subst hm'
      refine ⟨by show 2 ≤ n; omega, ?_⟩
      show (P.set (id - 2) (leafPg (l.take 3)) ++ [leafPg (l.drop 3)])[n - 2]? = some (leafPg (l.drop 3))
      rw [List.getElem?_append_right (by simp; omega)]
      simp [show n - 2 - P.length = 0 by omega]
    · have : i ≠ id := by simpa [T.ids] using hni
      rw [List.getElem?_append_left (by simp; omega), List.getElem?_set_ne (by omega)]
    · have hi : i ∈ [id] ++ ([n] ++ []) := hi
      have : i = id ∨ i = n := by simpa using hi
      rcases this with rfl | rfl
      · exact ⟨.inl (by simp [T.ids]), by show i < n + 1; omega⟩
      · exact ⟨.inr (Nat.le_refl _), by show i < i + 1; omega⟩
    · show [id, n].Nodup
      simp
      omega
end Sp
end Go.Proofs.YtlpmjeiogdlifaaGreat
namespace Go.Proofs.YtlpmjeiogdlifaaGreat
open Go.RowKit
attribute [local go_sem low] mk_extract
attribute [local go_sem] After.cell After.frozen mk_extract_end ByteArray.mk_append_mk
namespace Sp
def PutOk2 (x : Item) (d : Nat) (b : Bool) (t t' : T d) (more : Option (Txt × T d)) : Prop :=
  T.items d t' ++ (more.toList.flatMap fun m => T.items d m.2) = insIt x (T.items d t) ∧
  (∀ m ∈ more, (∀ y ∈ T.items d t', lt y.key m.1 = true) ∧ (∀ y ∈ T.items d m.2, lt y.key m.1 = false) ∧ short m.1 = true ∧ T.Ok d false m.2 ∧ T.Ok d false t') ∧ T.Ok d b t'
end Sp
end Go.Proofs.YtlpmjeiogdlifaaGreat
