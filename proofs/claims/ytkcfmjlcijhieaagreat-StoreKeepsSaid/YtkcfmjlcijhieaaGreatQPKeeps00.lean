/- The package's store in plain Lean: pages that were free or new alone become dirty. -/
import Derived.Test.YtkcfmjlcijhieaaGreatQB24
set_option linter.unusedSimpArgs false
set_option linter.unusedVariables false
namespace Go.Proofs.YtkcfmjlcijhieaaGreat
open Go.RowKit
attribute [local go_sem low] mk_extract
attribute [local go_sem] After.cell After.frozen mk_extract_end ByteArray.mk_append_mk
namespace Sp
/-- A number that may be dirty. -/
structure Fresh (n : Int) (was : List Int) (s : Sto) (i : Int) : Prop where
  last : i < s.last
  was : i < n → i ∈ was
  av : i ∉ s.avail
  fr : i ∉ s.freed
/-- What a store keeps. -/
structure Kp (n : Int) (was : List Int) (s : Sto) : Prop where
  ok : s.Ok
  nl : n ≤ s.last
  k : ∀ x ∈ s.d, Fresh n was s x.1
  a : ∀ x ∈ s.avail, x < s.last ∧ (x < n → x ∈ was) ∧ x ∉ s.freed
  f : ∀ x ∈ s.freed, x < s.last
section
variable {n : Int} {was : List Int} {s : Sto}
theorem Kp.numbers (h : Kp n was s) {m : Int} (hm : 1 ≤ m) : Kp n was (s.numbers m).2 ∧ ((s.numbers m).1.2 = none → ∀ k : Nat, (k : Int) < m → Fresh n was (s.numbers m).2 ((s.numbers m).1.1 + k)) := by
  have hok := (h.ok.numbers hm).1
  revert hok
  unfold Sto.numbers
  by_cases hc : 120 < (s.d.length : Int) + m
  · rw [if_pos hc]
    exact fun _ => ⟨h, fun e => by cases e⟩
  rw [if_neg hc]
  rcases hr : runI s.avail m with _ | id
  · dsimp only
    by_cases hc : s.most < s.last + m
    · rw [if_pos hc]
      exact fun _ => ⟨h, fun e => by cases e⟩
    rw [if_neg hc]
    intro hok
    have hnl := h.nl
    refine ⟨⟨hok, ?_, fun x hx => ?_, fun x hx => ?_, fun x hx => ?_⟩, fun _ k hk => ?_⟩
    · show n ≤ s.last + m; omega
    · obtain ⟨h1, h2, h3, h4⟩ := h.k x hx
      exact ⟨by show x.1 < s.last + m; omega, h2, h3, h4⟩
    · obtain ⟨h1, h2, h3⟩ := h.a x hx
      exact ⟨by show x < s.last + m; omega, h2, h3⟩
    · have := h.f x hx
      show x < s.last + m
      omega
    · dsimp only
      refine ⟨by show s.last + (k : Int) < s.last + m; omega, fun h => by omega, fun hx => ?_, fun hx => ?_⟩
      · have := (h.a _ hx).1; omega
      · have := h.f _ hx; omega
  · dsimp only
    intro hok
    refine ⟨⟨hok, h.nl, fun x hx => ?_, fun x hx => h.a x (mem_dropI.1 hx).1, h.f⟩, fun _ k hk => ?_⟩
    · obtain ⟨h1, h2, h3, h4⟩ := h.k x hx
      exact ⟨h1, h2, fun hx => h3 (mem_dropI.1 hx).1, h4⟩
    · have hm := runI_mem hr k hk
      obtain ⟨h1, h2, h3⟩ := h.a _ hm
      exact ⟨h1, h2, fun hx => (mem_dropI.1 hx).2 (by omega), h3⟩
theorem Kp.put (h : Kp n was s) {i : Int} (p : Page) (hi : Fresh n was s i) (hok : ({ s with d := putD s.d i p } : Sto).Ok) : Kp n was { s with d := putD s.d i p } :=
  ⟨hok, h.nl, fun x hx => by
    rcases putD_mem hx with rfl | hx
    · exact ⟨hi.last, hi.was, hi.av, hi.fr⟩
    · have := h.k x hx
      exact ⟨this.last, this.was, this.av, this.fr⟩, h.a, h.f⟩
theorem Kp.add (h : Kp n was s) (p : Page) : Kp n was (s.add p).2 := by
  have hok := h.ok.add p
  rcases hp : isPage p with _ | _
  · rw [s.add_no p hp]; exact h
  · rw [s.add_yes p hp] at hok ⊢
    obtain ⟨h1, h2⟩ := h.numbers (m := 1) (by omega)
    generalize s.numbers 1 = r at *
    obtain ⟨⟨id, e⟩, s'⟩ := r
    rcases e with _ | k
    · have h3 := h2 rfl 0 (by decide)
      rw [show ((id, (none : Option Int)), s').1.1 + ((0 : Nat) : Int) = id from Int.add_zero id] at h3
      exact h1.put p h3 hok
    · exact h1
theorem Kp.set_ (h : Kp n was s) (i : Int) (p : Page) : Kp n was (s.set_ i p).2 := by
  have hok := h.ok.set_ i p
  unfold Sto.set_ at hok ⊢
  split at hok
  · rename_i hc
    rw [if_pos hc]
    obtain ⟨q, hq⟩ := Option.isSome_iff_exists.1 hc.1
    exact h.put p (h.k _ (lookD_mem hq)) hok
  · rename_i hc
    rw [if_neg hc]
    exact h
theorem Kp.drop (h : Kp n was s) (i : Int) : Kp n was (s.drop i) := by
  have hok := h.ok.drop i
  rcases hl : lookD s.d i with _ | q
  · rw [s.drop_else i hl] at hok ⊢
    have hno := lookD_none.1 hl
    split at hok
    · rename_i hc
      rw [if_pos hc]
      refine ⟨hok, h.nl, fun x hx => ?_, fun x hx => ?_, fun x hx => ?_⟩
      · obtain ⟨h1, h2, h3, h4⟩ := h.k x hx
        refine ⟨h1, h2, h3, fun hx2 => ?_⟩
        rcases mem_insI.1 hx2 with e | hx2
        · exact hno x hx e
        · exact h4 hx2
      · obtain ⟨h1, h2, h3⟩ := h.a x hx
        refine ⟨h1, h2, fun hx2 => ?_⟩
        rcases mem_insI.1 hx2 with e | hx2
        · exact hc.2.2 (e ▸ hx)
        · exact h3 hx2
      · rcases mem_insI.1 hx with e | hx
        · rw [e]; exact hc.2.1
        · exact h.f x hx
    · rename_i hc
      rw [if_neg hc]
      exact h
  · rw [s.drop_made i q hl] at hok ⊢
    have hi := h.k _ (lookD_mem hl)
    refine ⟨hok, h.nl, fun x hx => ?_, fun x hx => ?_, h.f⟩
    · obtain ⟨hx1, hx2⟩ := List.mem_filter.1 hx
      obtain ⟨h1, h2, h3, h4⟩ := h.k x hx1
      refine ⟨h1, h2, fun hx => ?_, h4⟩
      rcases mem_insI.1 hx with e | hx
      · simp [e] at hx2
      · exact h3 hx
    · rcases mem_insI.1 hx with e | hx
      · rw [e]; exact ⟨hi.last, hi.was, hi.fr⟩
      · exact h.a x hx
theorem Kp.touch (h : Kp n was s) (V : List Txt) (i : Int) : Kp n was (s.touch V i).2 := by
  rcases hl : lookD s.d i with _ | q
  · rw [s.touch_else V i hl]
    generalize s.read V i = r
    obtain ⟨p, e⟩ := r
    rcases e with _ | k
    · have h1 := h.add p
      dsimp only
      generalize s.add p = a at *
      obtain ⟨⟨m, e⟩, s'⟩ := a
      rcases e with _ | k
      · exact h1.drop i
      · exact h1
    · exact h
  · rw [s.touch_made V i q hl]; exact h
theorem Kp.runD (id : Int) : ∀ (k : Nat) {s : Sto}, Kp n was s → (∀ j : Nat, j < k → 2 ≤ id + j ∧ id + j < 400) → s.d.length + k ≤ 120 → (∀ j : Nat, j < k → Fresh n was s (id + j)) → Kp n was { s with d := Sp.runD s.d id k }
  | 0, _, h, _, _, _ => h
  | k + 1, s, h, hr, hc, hf => by
    obtain ⟨h1, h2⟩ := runD_ok id k h.ok (fun j hj => hr j (by omega)) (by omega)
    have h3 := Kp.runD id k h (fun j hj => hr j (by omega)) (by omega) (fun j hj => hf j (by omega))
    have h4 := h1.put (i := id + k) pg0 (hr k (by omega)) (.inr (by show (Sp.runD s.d id k).length < 120; omega))
    have h5 := hf k (by omega)
    exact h3.put pg0 ⟨h5.last, h5.was, h5.av, h5.fr⟩ h4
theorem Kp.run (h : Kp n was s) (m : Int) : Kp n was (s.run m).2 := by
  by_cases h1 : m < 1
  · unfold Sto.run; rw [if_pos h1]; exact h
  by_cases h2 : 120 < m
  · unfold Sto.run; rw [if_neg h1, if_pos h2]; exact h
  rw [s.run_mid m (by omega) (by omega)]
  obtain ⟨_, g2, _, _, g3⟩ := h.ok.numbers (n := m) (by omega)
  obtain ⟨k1, k2⟩ := h.numbers (m := m) (by omega)
  generalize s.numbers m = r at *
  obtain ⟨⟨id, e⟩, s'⟩ := r
  rcases e with _ | k
  · obtain ⟨h4, h5, h6⟩ := g3 rfl
    have k3 := k2 rfl
    dsimp only at g2 h4 h5 h6 k1 k3 ⊢
    exact k1.runD id m.toNat (fun j hj => by omega) (by rw [g2]; omega) (fun j hj => k3 j (by omega))
  · exact k1
end
/-- A step in a store: its answer counts for nothing. -/
def Sto.does (s : Sto) (V : List Txt) (what i : Int) (p : Page) : Sto :=
  if what = 0 ∨ what = 1 then (s.add p).2 else if what = 2 then (s.set_ i p).2 else if what = 3 then (s.touch V i).2 else if what = 4 then s.drop i else if what = 5 then (s.run i).2 else s
theorem Kp.does {n : Int} {was : List Int} {s : Sto} (h : Kp n was s) (V : List Txt) (what i : Int) (p : Page) : Kp n was (s.does V what i p) := by
  unfold Sto.does
  split
  · exact h.add p
  split
  · exact h.set_ i p
  split
  · exact h.touch V i
  split
  · exact h.drop i
  split
  · exact h.run i
  · exact h
theorem foldl_newB {b : Int} : ∀ (L : List Int) {a : List Int}, (∀ x ∈ a, x < b) → ∀ x ∈ L.foldl (newStep b) a, x < b
  | [], _, h => h
  | y :: L, a, h => by
    rw [List.foldl_cons]
    refine foldl_newB L fun x hx => ?_
    unfold newStep at hx
    split at hx
    · rename_i hc
      rcases mem_insI.1 hx with rfl | hx
      · exact hc.2
      · exact h x hx
    · exact h x hx
theorem Kp.new {n : Int} (h2 : 2 ≤ n) (h4 : n ≤ 400) (L : List Int) : Kp n (Sto.new n 400 L).avail (Sto.new n 400 L) :=
  ⟨Sto.new_ok n 400 L, by show n ≤ min (max n 2) 400; omega, fun x hx => (by cases hx), fun x hx => ⟨by
    have : x < min (min (max n 2) 400) (min (max 400 2) 400) := foldl_newB L (fun x h => (by cases h)) x hx
    show x < min (max n 2) 400
    omega, fun _ => hx, fun h => (by cases h)⟩, fun x hx => (by cases hx)⟩
/-- What the law looks at. -/
theorem Kp.fine {n : Int} {was : List Int} {s : Sto} (h : Kp n was s) {x : Int} (hx : x ∈ s.d.map (·.1)) : (x < n → x ∈ was) ∧ x ∉ s.freed ∧ x ∉ s.avail := by
  obtain ⟨y, hy, rfl⟩ := List.mem_map.1 hx
  exact ⟨(h.k y hy).was, (h.k y hy).fr, (h.k y hy).av⟩
end Sp
end Go.Proofs.YtkcfmjlcijhieaaGreat
