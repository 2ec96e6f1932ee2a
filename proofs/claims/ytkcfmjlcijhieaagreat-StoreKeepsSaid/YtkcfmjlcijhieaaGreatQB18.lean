/- Rows of parts that hold a row each (items, free pages): how they lie. -/
import Derived.Test.YtkcfmjlcijhieaaGreatQB08
import Derived.Test.YtkcfmjlcijhieaaGreatQB17
set_option linter.unusedSimpArgs false
set_option linter.unusedVariables false
namespace Go.Proofs.YtkcfmjlcijhieaaGreat
open Go.RowKit
attribute [local go_sem low] mk_extract
attribute [local go_sem] After.cell After.frozen mk_extract_end ByteArray.mk_append_mk
/-- Parts that lie side by side. -/
def SeqQ {α : Type} (f : α → Option Addr → Nat → List Value) (S : Option Addr → α → Prop) : List α → List Value → Prop
  | [], xs => xs = []
  | x :: l, xs => ∃ V c ys, xs = f x V c ++ ys ∧ S V x ∧ SeqQ f S l ys
section
variable {α : Type} {f : α → Option Addr → Nat → List Value} {S S' : Option Addr → α → Prop} {K : Nat}
theorem SeqQ.imp (hS : ∀ V x, S V x → S' V x) : ∀ {l : List α} {xs : List Value}, SeqQ f S l xs → SeqQ f S' l xs
  | [], _, h => h
  | _ :: _, _, ⟨V, c, ys, e, hs, h⟩ => ⟨V, c, ys, e, hS V _ hs, h.imp hS⟩
theorem SeqQ.len (hf : ∀ x V c, (f x V c).length = K) : ∀ {l : List α} {xs : List Value}, SeqQ f S l xs → xs.length = l.length * K
  | [], xs, h => by
    have h : xs = [] := h
    rw [h, List.length_nil, List.length_nil, Nat.zero_mul]
  | x :: l, xs, ⟨V, c, ys, e, _, h⟩ => by
    have := h.len hf
    rw [e, List.length_append, this, hf, List.length_cons, Nat.succ_mul]
    omega
theorem SeqQ.app {m : List α} {ys : List Value} (hq : SeqQ f S m ys) : ∀ {l : List α} {xs : List Value}, SeqQ f S l xs → SeqQ f S (l ++ m) (xs ++ ys)
  | [], xs, h => by
    have h : xs = [] := h
    rw [h]; exact hq
  | _ :: _, xs, ⟨V, c, zs, e, hr, h⟩ => ⟨V, c, zs ++ ys, by rw [e, List.append_assoc], hr, SeqQ.app hq h⟩
theorem SeqQ.snoc {l : List α} {xs : List Value} (h : SeqQ f S l xs) {x : α} {V : Option Addr} {c : Nat} (ht : S V x) : SeqQ f S (l ++ [x]) (xs ++ f x V c) :=
  SeqQ.app (m := [x]) (ys := f x V c) ⟨V, c, [], by simp, ht, rfl⟩ h
theorem SeqQ.one (h1 : ∀ x V c, ∀ u ∈ f x V c, u.oneCell' = true) : ∀ {l : List α} {xs : List Value}, SeqQ f S l xs → ∀ u ∈ xs, u.oneCell' = true
  | [], xs, h, u, hu => by
    have h : xs = [] := h
    rw [h] at hu; simp at hu
  | x :: l, xs, ⟨V, c, ys, e, _, h⟩, u, hu => by
    rw [e] at hu
    rcases List.mem_append.1 hu with hu | hu
    · exact h1 x V c u hu
    · exact h.one h1 u hu
theorem SeqQ.at_ (hf : ∀ x V c, (f x V c).length = K) (d : α) : ∀ {l : List α} {xs : List Value}, SeqQ f S l xs → ∀ k, k < l.length → ∃ V c, S V (l.getD k d) ∧ ∀ j u, (f (l.getD k d) V c)[j]? = some u → xs[k * K + j]? = some u
  | [], _, _, k, hk => absurd hk (by simp)
  | x :: l, xs, ⟨V, c, ys, e, ht, h⟩, 0, _ => ⟨V, c, ht, fun j u hu => by
      rw [e, Nat.zero_mul, Nat.zero_add, List.getElem?_append_left]
      · exact hu
      · exact (List.getElem?_eq_some_iff.1 hu).1⟩
  | x :: l, xs, ⟨V, c, ys, e, ht, h⟩, k + 1, hk => by
    obtain ⟨V', c', ht', hc⟩ := h.at_ hf d k (by simpa using hk)
    refine ⟨V', c', by simpa using ht', fun j u hu => ?_⟩
    have := hc j u (by simpa using hu)
    rw [e, List.getElem?_append_right (by rw [hf, Nat.succ_mul]; omega), hf, Nat.succ_mul, show k * K + K + j - K = k * K + j by omega]
    exact this
/-- Cells that bear such parts, read part by part. -/
theorem SeqQ.read {w : World} {b off : Nat} (hf : ∀ x V c, (f x V c).length = K) (d : α) (l : List α) (h : ∀ k, k < l.length → ∃ V c, (∀ j u, (f (l.getD k d) V c)[j]? = some u → w.cell? ⟨b, off + k * K + j, none⟩ = some u) ∧ S V (l.getD k d)) :
    ∃ xs, SeqQ f S l xs ∧ ∀ j u, xs[j]? = some u → w.cell? ⟨b, off + j, none⟩ = some u := by
  have : ∀ n, n ≤ l.length → ∃ xs, SeqQ f S (l.take n) xs ∧ ∀ j u, xs[j]? = some u → w.cell? ⟨b, off + j, none⟩ = some u := by
    intro n
    induction n with
    | zero => intro _; exact ⟨[], rfl, fun j u hu => by simp at hu⟩
    | succ n ih =>
      intro hn
      obtain ⟨xs, h1, h2⟩ := ih (by omega)
      obtain ⟨V, c, hi, ht⟩ := h n (by omega)
      refine ⟨xs ++ f (l.getD n d) V c, ?_, fun j u hu => ?_⟩
      · rw [List.take_succ_eq_append_getElem (show n < l.length by omega)]
        rw [show l[n] = l.getD n d by simp [List.getD, show n < l.length by omega]]
        exact h1.snoc ht
      · have hl := h1.len hf
        rw [List.length_take, Nat.min_eq_left (by omega)] at hl
        rcases Nat.lt_or_ge j xs.length with hj | hj
        · rw [List.getElem?_append_left hj] at hu
          exact h2 j u hu
        · rw [List.getElem?_append_right hj] at hu
          have := hi (j - xs.length) u hu
          rw [show off + n * K + (j - xs.length) = off + j by omega] at this
          exact this
  have := this l.length (Nat.le_refl _)
  rwa [List.take_length] at this
end
def SI (w : World) (M : Nat → Prop) : Option Addr → Sp.Item → Prop := fun V x => Txts w M V x.vals
def SF (w : World) (M : Nat → Prop) : Option Addr → Sp.Free → Prop := fun V x => Ints w M V x.ids ∧ 0 ≤ x.txn ∧ x.txn < 18446744073709551616
def freeV (x : Sp.Free) (V : Option Addr) (c : Nat) : List Value := [.int .u64 x.txn, .slice V x.ids.length c]
theorem itemV_ten (x : Sp.Item) (V : Option Addr) (c : Nat) : (itemV x V c).length = 10 := rfl
theorem freeV_two (x : Sp.Free) (V : Option Addr) (c : Nat) : (freeV x V c).length = 2 := rfl
theorem itemV_ones (x : Sp.Item) (V : Option Addr) (c : Nat) : ∀ u ∈ itemV x V c, u.oneCell' = true := by
  intro u hu
  simp only [itemV, List.mem_cons, List.not_mem_nil, or_false] at hu
  rcases hu with rfl | rfl | rfl | rfl | rfl | rfl | rfl | rfl | rfl | rfl <;> rfl
theorem freeV_ones (x : Sp.Free) (V : Option Addr) (c : Nat) : ∀ u ∈ freeV x V c, u.oneCell' = true := by
  intro u hu
  simp only [freeV, List.mem_cons, List.not_mem_nil, or_false] at hu
  rcases hu with rfl | rfl <;> rfl
theorem itemAt_of {w : World} {b o : Nat} {x : Sp.Item} {V : Option Addr} {c : Nat} (hc : ∀ j u, (itemV x V c)[j]? = some u → w.cell? ⟨b, o + j, none⟩ = some u) : ItemAt w b o x V c :=
  ⟨hc 0 _ rfl, hc 1 _ rfl, hc 2 _ rfl, hc 3 _ rfl, hc 4 _ rfl, hc 5 _ rfl, hc 6 _ rfl, hc 7 _ rfl, hc 8 _ rfl, hc 9 _ rfl⟩
theorem itemAt_cells {w : World} {b o : Nat} {x : Sp.Item} {V : Option Addr} {c : Nat} (h : ItemAt w b o x V c) : ∀ j u, (itemV x V c)[j]? = some u → w.cell? ⟨b, o + j, none⟩ = some u := by
  intro j u hj
  match j, hj with
  | 0, hj => exact h.c0.trans hj
  | 1, hj => exact h.c1.trans hj
  | 2, hj => exact h.c2.trans hj
  | 3, hj => exact h.c3.trans hj
  | 4, hj => exact h.c4.trans hj
  | 5, hj => exact h.c5.trans hj
  | 6, hj => exact h.c6.trans hj
  | 7, hj => exact h.c7.trans hj
  | 8, hj => exact h.c8.trans hj
  | 9, hj => exact h.c9.trans hj
  | j + 10, hj => simp [itemV] at hj
theorem Items.seq {w : World} {M : Nat → Prop} {A : Option Addr} {l : List Sp.Item} (h : Items w M A l) : ∃ xs, SeqQ itemV (SI w M) l xs ∧ ∀ a, A = some a → ∀ j u, xs[j]? = some u → w.cell? (a.add j) = some u := by
  rcases h.2 with rfl | ⟨b, off, rfl, hb, hm, hc⟩
  · exact ⟨[], rfl, fun a _ j u hu => by simp at hu⟩
  · obtain ⟨xs, h1, h2⟩ := SeqQ.read (w := w) (b := b) (off := off) (S := SI w M) itemV_ten Sp.item0 l (fun k hk => by
      obtain ⟨V, c, hi, ht⟩ := hc k hk
      exact ⟨V, c, itemAt_cells hi, ht⟩)
    refine ⟨xs, h1, fun a ha j u hu => ?_⟩
    injection ha with ha
    subst ha
    rw [Go.WideShapes.add_plain]
    exact h2 j u hu
theorem Frees.seq {w : World} {M : Nat → Prop} {A : Option Addr} {l : List Sp.Free} (h : Frees w M A l) : ∃ xs, SeqQ freeV (SF w M) l xs ∧ ∀ a, A = some a → ∀ j u, xs[j]? = some u → w.cell? (a.add j) = some u := by
  rcases h.2 with rfl | ⟨b, off, rfl, hb, hm, hc⟩
  · exact ⟨[], rfl, fun a _ j u hu => by simp at hu⟩
  · obtain ⟨xs, h1, h2⟩ := SeqQ.read (w := w) (b := b) (off := off) (S := SF w M) freeV_two Sp.free0 l (fun k hk => by
      obtain ⟨V, c, ⟨c0, c1⟩, ht, h3, h4⟩ := hc k hk
      refine ⟨V, c, fun j u hj => ?_, ht, h3, h4⟩
      match j, hj with
      | 0, hj => exact c0.trans hj
      | 1, hj => exact c1.trans hj
      | j + 2, hj => simp [freeV] at hj)
    refine ⟨xs, h1, fun a ha j u hu => ?_⟩
    injection ha with ha
    subst ha
    rw [Go.WideShapes.add_plain]
    exact h2 j u hu
theorem own_none {w : World} {base n c : Nat} {e : TypeId} {size : Nat} {xs : List Value} {A : Option Addr} (h : w.ownsRow base e size (.slice A n c) n xs) : (A = none ∧ n = 0 ∧ c = 0) ∨ ∃ g cur, A = some ⟨g, 0, none⟩ ∧ base ≤ g ∧ Blk w g e cur ∧ ∀ j u, xs[j]? = some u → w.cell? ⟨g, 0 + j, none⟩ = some u := by
  rcases h.2 with ⟨h1, h2⟩ | ⟨g, cap, cur, hv, hg, hh, _, _, _, ht⟩
  · simp only [Value.slice.injEq] at h1
    exact .inl ⟨h1.1, h2, h1.2.2⟩
  · simp only [Value.slice.injEq] at hv
    have hb : Blk w g e cur := hh
    refine .inr ⟨g, cur, hv.1, hg, hb, fun j u hu => ?_⟩
    rw [Nat.zero_add]
    refine (hb.cell j).trans ?_
    rw [← ht, List.getElem?_take] at hu
    split at hu
    · rw [← hu, Array.getElem?_toList]
    · cases hu
theorem Items.of_seq {w : World} {base c : Nat} {M : Nat → Prop} {A : Option Addr} {l : List Sp.Item} {xs : List Value} (h : w.ownsRow base ItemT 10 (.slice A l.length c) l.length xs) (hq : SeqQ itemV (SI w M) l xs) (hM : ∀ k, base ≤ k → ¬ M k) (hl : l.length ≤ 100000) : Items w M A l := by
  refine ⟨by omega, ?_⟩
  rcases own_none h with ⟨_, h0, _⟩ | ⟨g, cur, hv, hg, hb, hc⟩
  · exact .inl (List.eq_nil_of_length_eq_zero h0)
  · refine .inr ⟨g, 0, hv, hb.lt, hM g hg, fun k hk => ?_⟩
    obtain ⟨V, c', ht, hx⟩ := hq.at_ itemV_ten Sp.item0 k hk
    refine ⟨V, c', itemAt_of fun j u hu => ?_, ht⟩
    rw [Nat.add_assoc]
    exact hc _ u (hx j u hu)
theorem Frees.of_seq {w : World} {base c : Nat} {M : Nat → Prop} {A : Option Addr} {l : List Sp.Free} {xs : List Value} (h : w.ownsRow base FreeT 2 (.slice A l.length c) l.length xs) (hq : SeqQ freeV (SF w M) l xs) (hM : ∀ k, base ≤ k → ¬ M k) (hl : l.length ≤ 100000) : Frees w M A l := by
  refine ⟨by omega, ?_⟩
  rcases own_none h with ⟨_, h0, _⟩ | ⟨g, cur, hv, hg, hb, hc⟩
  · exact .inl (List.eq_nil_of_length_eq_zero h0)
  · refine .inr ⟨g, 0, hv, hb.lt, hM g hg, fun k hk => ?_⟩
    obtain ⟨V, c', ⟨ht, h3, h4⟩, hx⟩ := hq.at_ freeV_two Sp.free0 k hk
    exact ⟨V, c', ⟨hc _ _ (hx 0 _ rfl), by rw [Nat.add_assoc]; exact hc _ _ (hx 1 _ rfl)⟩, ht, h3, h4⟩
theorem Row.of_own {w : World} {base n c : Nat} {e : TypeId} {M : Nat → Prop} {A : Option Addr} {xs : List Value} (h : w.ownsRow base e 1 (.slice A n c) n xs) (hM : ∀ k, base ≤ k → ¬ M k) (hn : n ≤ 100000) : Row w M A xs := by
  have hl : xs.length = n := by simpa using h.1
  refine ⟨by omega, ?_⟩
  rcases own_none h with ⟨_, h0, _⟩ | ⟨g, cur, hv, hg, hb, hc⟩
  · exact .inl (List.eq_nil_of_length_eq_zero (by omega))
  · exact .inr ⟨g, 0, hv, hb.lt, hM g hg, hc⟩
end Go.Proofs.YtkcfmjlcijhieaaGreat
