/- The package's store in plain Lean: pages that were free or new alone become dirty. A page touched, a page added, in a store whose pages a tree has: in plain Lean. A tree in a store: what is turned between the root's page that is touched and the one that is set. In plain Lean. An item put into a tree in a store: what the program does with the store, in plain Lean; it goes well, or there is no room. An item put into a tree in a store: it goes well, or there is no room. In plain Lean. An item put into a tree in a store, whatever its levels: it goes well, or there is no room. In plain Lean. A whole tree in a store, an item put in: what comes of it. In plain Lean. An item put into a whole tree in a store: the law of it. In plain Lean. -/
import Derived.Test.YtlpmjeiogdlifaaGreatQB15
import Derived.Test.YtlpmjeiogdlifaaGreatQB17
import Derived.Test.YtlpmjeiogdlifaaGreatQB21
set_option linter.unusedSimpArgs false
set_option linter.unusedVariables false
namespace Go.Proofs.YtlpmjeiogdlifaaGreat
open Go.RowKit
attribute [local go_sem low] mk_extract
attribute [local go_sem] After.cell After.frozen mk_extract_end ByteArray.mk_append_mk
namespace Sp
structure Fresh (n : Int) (was : List Int) (s : Sto) (i : Int) : Prop where
  last : i < s.last
  was : i < n → i ∈ was
  av : i ∉ s.avail
  fr : i ∉ s.freed
structure Kp (n : Int) (was : List Int) (s : Sto) : Prop where
  ok : s.Ok
  nl : n ≤ s.last
  k : ∀ x ∈ s.d, Fresh n was s x.1
  a : ∀ x ∈ s.avail, x < s.last ∧ (x < n → x ∈ was) ∧ x ∉ s.freed
  f : ∀ x ∈ s.freed, x < s.last
section
variable {n : Int} {was : List Int} {s : Sto}
theorem Kp.numbers (h : Kp n was s) {m : Int} (hm : 1 ≤ m) : Kp n was (s.numbers m).2 ∧ ((s.numbers m).1.2 = none → ∀ k : Nat, (k : Int) < m → Fresh n was (s.numbers m).2 ((s.numbers m).1.1 + k)) := by
  have hok := (h.ok.numbers hm).1
  revert hok
  unfold Sto.numbers
  by_cases hc : 120 < (s.d.length : Int) + m
  · rw [if_pos hc]
    exact fun _ => ⟨h, fun e => by cases e⟩
  rw [if_neg hc]
  rcases hr : runI s.avail m with _ | id
  · dsimp only
    by_cases hc : s.most < s.last + m
    · rw [if_pos hc]
      exact fun _ => ⟨h, fun e => by cases e⟩
    rw [if_neg hc]
    intro hok
    have hnl := h.nl
    refine ⟨⟨hok, ?_, fun x hx => ?_, fun x hx => ?_, fun x hx => ?_⟩, fun _ k hk => ?_⟩
    · show n ≤ s.last + m; omega
    · obtain ⟨h1, h2, h3, h4⟩ := h.k x hx
      exact ⟨by show x.1 < s.last + m; omega, h2, h3, h4⟩
    · obtain ⟨h1, h2, h3⟩ := h.a x hx
      exact ⟨by show x < s.last + m; omega, h2, h3⟩
    · have := h.f x hx
      show x < s.last + m
      omega
    · dsimp only
      refine ⟨by show s.last + (k : Int) < s.last + m; omega, fun h => by omega, fun hx => ?_, fun hx => ?_⟩
      · have := (h.a _ hx).1; omega
      · have := h.f _ hx; omega
  · dsimp only
    intro hok
    refine ⟨⟨hok, h.nl, fun x hx => ?_, fun x hx => h.a x (mem_dropI.1 hx).1, h.f⟩, fun _ k hk => ?_⟩
    · obtain ⟨h1, h2, h3, h4⟩ := h.k x hx
      exact ⟨h1, h2, fun hx => h3 (mem_dropI.1 hx).1, h4⟩
    · have hm := runI_mem hr k hk
      obtain ⟨h1, h2, h3⟩ := h.a _ hm
      exact ⟨h1, h2, fun hx => (mem_dropI.1 hx).2 (by omega), h3⟩
theorem Kp.put (h : Kp n was s) {i : Int} (p : Page) (hi : Fresh n was s i) (hok : ({ s with d := putD s.d i p } : Sto).Ok) : Kp n was { s with d := putD s.d i p } :=
  ⟨hok, h.nl, fun x hx => by
    rcases putD_mem hx with rfl | hx
    · exact ⟨hi.last, hi.was, hi.av, hi.fr⟩
    · have := h.k x hx
      exact ⟨this.last, this.was, this.av, this.fr⟩, h.a, h.f⟩
theorem Kp.add (h : Kp n was s) (p : Page) : Kp n was (s.add p).2 := by
  have hok := h.ok.add p
  rcases hp : isPage p with _ | _
  · rw [s.add_no p hp]; exact h
  · rw [s.add_yes p hp] at hok ⊢
    obtain ⟨h1, h2⟩ := h.numbers (m := 1) (by omega)
    generalize s.numbers 1 = r at *
    obtain ⟨⟨id, e⟩, s'⟩ := r
    rcases e with _ | k
    · have h3 := h2 rfl 0 (by decide)
      rw [show ((id, (none : Option Int)), s').1.1 + ((0 : Nat) : Int) = id from Int.add_zero id] at h3
      exact h1.put p h3 hok
    · exact h1
theorem Kp.set_ (h : Kp n was s) (i : Int) (p : Page) : Kp n was (s.set_ i p).2 := by
  have hok := h.ok.set_ i p
  unfold Sto.set_ at hok ⊢
  split at hok
  · rename_i hc
    rw [if_pos hc]
    obtain ⟨q, hq⟩ := Option.isSome_iff_exists.1 hc.1
    exact h.put p (h.k _ (lookD_mem hq)) hok
  · rename_i hc
    rw [if_neg hc]
    exact h
theorem Kp.drop (h : Kp n was s) (i : Int) : Kp n was (s.drop i) := by
  have hok := h.ok.drop i
  rcases hl : lookD s.d i with _ | q
  · rw [s.drop_else i hl] at hok ⊢
    have hno := lookD_none.1 hl
    split at hok
    · rename_i hc
      rw [if_pos hc]
      refine ⟨hok, h.nl, fun x hx => ?_, fun x hx => ?_, fun x hx => ?_⟩
      · obtain ⟨h1, h2, h3, h4⟩ := h.k x hx
        refine ⟨h1, h2, h3, fun hx2 => ?_⟩
        rcases mem_insI.1 hx2 with e | hx2
        · exact hno x hx e
        · exact h4 hx2
      · obtain ⟨h1, h2, h3⟩ := h.a x hx
        refine ⟨h1, h2, fun hx2 => ?_⟩
        rcases mem_insI.1 hx2 with e | hx2
        · exact hc.2.2 (e ▸ hx)
        · exact h3 hx2
      · rcases mem_insI.1 hx with e | hx
        · rw [e]; exact hc.2.1
        · exact h.f x hx
    · rename_i hc
      rw [if_neg hc]
      exact h
  · rw [s.drop_made i q hl] at hok ⊢
    have hi := h.k _ (lookD_mem hl)
    refine ⟨hok, h.nl, fun x hx => ?_, fun x hx => ?_, h.f⟩
    · obtain ⟨hx1, hx2⟩ := List.mem_filter.1 hx
      obtain ⟨h1, h2, h3, h4⟩ := h.k x hx1
      refine ⟨h1, h2, fun hx => ?_, h4⟩
      rcases mem_insI.1 hx with e | hx
      · simp [e] at hx2
      · exact h3 hx
    · rcases mem_insI.1 hx with e | hx
      · rw [e]; exact ⟨hi.last, hi.was, hi.fr⟩
      · exact h.a x hx
theorem Kp.touch (h : Kp n was s) (V : List Txt) (i : Int) : Kp n was (s.touch V i).2 := by
  rcases hl : lookD s.d i with _ | q
  · rw [s.touch_else V i hl]
    generalize s.read V i = r
    obtain ⟨p, e⟩ := r
    rcases e with _ | k
    · have h1 := h.add p
      dsimp only
      generalize s.add p = a at *
      obtain ⟨⟨m, e⟩, s'⟩ := a
      rcases e with _ | k
      · exact h1.drop i
      · exact h1
    · exact h
  · rw [s.touch_made V i q hl]; exact h
theorem Kp.runD (id : Int) : ∀ (k : Nat) {s : Sto}, Kp n was s → (∀ j : Nat, j < k → 2 ≤ id + j ∧ id + j < 400) → s.d.length + k ≤ 120 → (∀ j : Nat, j < k → Fresh n was s (id + j)) → Kp n was { s with d := Sp.runD s.d id k }
  | 0, _, h, _, _, _ => h
  | k + 1, s, h, hr, hc, hf => by
    obtain ⟨h1, h2⟩ := runD_ok id k h.ok (fun j hj => hr j (by omega)) (by omega)
    have h3 := Kp.runD id k h (fun j hj => hr j (by omega)) (by omega) (fun j hj => hf j (by omega))
    have h4 := h1.put (i := id + k) pg0 (hr k (by omega)) (.inr (by show (Sp.runD s.d id k).length < 120; omega))
    have h5 := hf k (by omega)
    exact h3.put pg0 ⟨h5.last, h5.was, h5.av, h5.fr⟩ h4
theorem Kp.run (h : Kp n was s) (m : Int) : Kp n was (s.run m).2 := by
  by_cases h1 : m < 1
  · unfold Sto.run; rw [if_pos h1]; exact h
  by_cases h2 : 120 < m
  · unfold Sto.run; rw [if_neg h1, if_pos h2]; exact h
  rw [s.run_mid m (by omega) (by omega)]
  obtain ⟨_, g2, _, _, g3⟩ := h.ok.numbers (n := m) (by omega)
  obtain ⟨k1, k2⟩ := h.numbers (m := m) (by omega)
  generalize s.numbers m = r at *
  obtain ⟨⟨id, e⟩, s'⟩ := r
  rcases e with _ | k
  · obtain ⟨h4, h5, h6⟩ := g3 rfl
    have k3 := k2 rfl
    dsimp only at g2 h4 h5 h6 k1 k3 ⊢
    exact k1.runD id m.toNat (fun j hj => by omega) (by rw [g2]; omega) (fun j hj => k3 j (by omega))
  · exact k1
end
def Sto.does (s : Sto) (V : List Txt) (what i : Int) (p : Page) : Sto :=
  if what = 0 ∨ what = 1 then (s.add p).2 else if what = 2 then (s.set_ i p).2 else if what = 3 then (s.touch V i).2 else if what = 4 then s.drop i else if what = 5 then (s.run i).2 else s
theorem Kp.does {n : Int} {was : List Int} {s : Sto} (h : Kp n was s) (V : List Txt) (what i : Int) (p : Page) : Kp n was (s.does V what i p) := by
  unfold Sto.does
  split
  · exact h.add p
  split
  · exact h.set_ i p
  split
  · exact h.touch V i
  split
  · exact h.drop i
  split
  · exact h.run i
  · exact h
theorem foldl_newB {b : Int} : ∀ (L : List Int) {a : List Int}, (∀ x ∈ a, x < b) → ∀ x ∈ L.foldl (newStep b) a, x < b
  | [], _, h => h
  | y :: L, a, h => by
    rw [List.foldl_cons]
    refine foldl_newB L fun x hx => ?_
    unfold newStep at hx
    split at hx
    · rename_i hc
      rcases mem_insI.1 hx with rfl | hx
      · exact hc.2
      · exact h x hx
    · exact h x hx
theorem Kp.new {n : Int} (h2 : 2 ≤ n) (h4 : n ≤ 400) (L : List Int) : Kp n (Sto.new n 400 L).avail (Sto.new n 400 L) :=
  ⟨Sto.new_ok n 400 L, by show n ≤ min (max n 2) 400; omega, fun x hx => (by cases hx), fun x hx => ⟨by
    have : x < min (min (max n 2) 400) (min (max 400 2) 400) := foldl_newB L (fun x h => (by cases h)) x hx
    show x < min (max n 2) 400
    omega, fun _ => hx, fun h => (by cases h)⟩, fun x hx => (by cases hx)⟩
end Sp
end Go.Proofs.YtlpmjeiogdlifaaGreat
namespace Go.Proofs.YtlpmjeiogdlifaaGreat
open Go.RowKit
attribute [local go_sem low] mk_extract
attribute [local go_sem] After.cell After.frozen mk_extract_end ByteArray.mk_append_mk
namespace Sp
theorem lookD_consV {α : Type} (x : Int × α) (D : List (Int × α)) (i : Int) : lookD (x :: D) i = if x.1 = i then some x.2 else lookD D i := by
  unfold lookD
  by_cases h : x.1 = i
  · rw [List.find?_cons_of_pos (by simpa using h), if_pos h]
    rfl
  · rw [List.find?_cons_of_neg (by simpa using h), if_neg h]
theorem lookD_mapV {α : Type} (i j : Int) (v : α) : ∀ D : List (Int × α), lookD (D.map fun x => if x.1 = i then (i, v) else x) j = if j = i then (lookD D i).map (fun _ => v) else lookD D j
  | [] => by
    by_cases h : j = i
    · rw [if_pos h]; rfl
    · rw [if_neg h]; rfl
  | x :: D => by
    rw [List.map_cons, lookD_consV, lookD_mapV i j v D, lookD_consV, lookD_consV]
    by_cases hj : j = i
    · subst hj
      by_cases hx : x.1 = j
      · simp [hx]
      · simp [hx]
    · by_cases hx : x.1 = i
      · have : i ≠ j := fun e => hj e.symm
        simp [hx, hj, this]
      · simp [hx, hj]
theorem lookD_putV {α : Type} (D : List (Int × α)) (i j : Int) (v : α) : lookD (putD D i v) j = if j = i then some v else lookD D j := by
  unfold putD
  by_cases h : (lookD D i).isSome
  · rw [if_pos h, lookD_mapV]
    obtain ⟨q, hq⟩ := Option.isSome_iff_exists.1 h
    rw [hq]
    rfl
  · rw [if_neg h]
    have h0 : lookD D i = none := by simpa using h
    unfold lookD at h0 ⊢
    rw [List.find?_append]
    by_cases hj : j = i
    · subst hj
      have : D.find? (fun x => x.1 == j) = none := by simpa using h0
      rw [this, if_pos rfl]
      simp
    · rw [if_neg hj]
      have : ([(i, v)] : List (Int × α)).find? (fun x => x.1 == j) = none := by
        rw [List.find?_cons_of_neg (by simpa using fun e => hj e.symm)]
        rfl
      rw [this, Option.or_none]
def Frs (s : Sto) (j : Int) : Prop := j ∈ s.avail ∨ s.last ≤ j
structure Grow (s s' : Sto) : Prop where
  most : s'.most = s.most
  last : s.last ≤ s'.last
  av : ∀ j ∈ s'.avail, j ∈ s.avail
  frd : ∀ j ∈ s.freed, j ∈ s'.freed
  len : s.d.length ≤ s'.d.length
  bnd : s'.last ≤ s.last + (s'.d.length - s.d.length : Int)
  cnt : s.avail = [] → s'.avail = [] ∧ s'.last = s.last + (s'.d.length - s.d.length : Int)
theorem Grow.refl (s : Sto) : Grow s s := ⟨rfl, Int.le_refl _, fun _ h => h, fun _ h => h, Nat.le_refl _, by omega, fun h => ⟨h, by omega⟩⟩
theorem Grow.trans {a b c : Sto} (h : Grow a b) (k : Grow b c) : Grow a c :=
  ⟨k.most.trans h.most, Int.le_trans h.last k.last, fun j hj => h.av j (k.av j hj), fun j hj => k.frd j (h.frd j hj), Nat.le_trans h.len k.len, by have := h.bnd; have := k.bnd; omega, fun e => by
    obtain ⟨h1, h2⟩ := h.cnt e
    obtain ⟨h3, h4⟩ := k.cnt h1
    exact ⟨h3, by omega⟩⟩
theorem Frs.back {s s' : Sto} (h : Grow s s') {j : Int} (hj : Frs s' j) : Frs s j := by
  rcases hj with hj | hj
  · exact .inl (h.av j hj)
  · have := h.last
    exact .inr (by omega)
def NoRoom (e : Int) (s : Sto) : Prop := (e = 17 ∧ 120 ≤ s.d.length) ∨ (e = 14 ∧ s.most ≤ s.last)
section
variable {n : Int} {was : List Int} {s : Sto}
theorem Kp.fresh_no (h : Kp n was s) {j : Int} (hj : Frs s j) : lookD s.d j = none := by
  rw [lookD_none]
  rintro x hx rfl
  have := h.k x hx
  rcases hj with hj | hj
  · exact this.av hj
  · have := this.last; omega
structure Added (n : Int) (was : List Int) (s s' : Sto) (p : Page) (i : Int) : Prop where
  kp : Kp n was s'
  gr : Grow s s'
  frs : Frs s i
  ge : 2 ≤ i ∧ i < 400
  lt : i < s'.last ∧ i ∉ s'.avail
  fr : s'.freed = s.freed
  at_ : lookD s'.d i = some p
  look : ∀ j, j ≠ i → lookD s'.d j = lookD s.d j
  len : s'.d.length = s.d.length + 1
  nfr : i ∉ s'.freed
  out : ∀ j, Frs s j → j < s'.last → j ∉ s'.avail → j = i
theorem putD_new2 {α : Type} {D : List (Int × α)} {i : Int} {v : α} (h : lookD D i = none) : putD D i v = D ++ [(i, v)] := by
  unfold putD
  rw [h]
  rfl
theorem run_one (l : List Int) : runI l 1 = l.head? := by
  cases l with
  | nil => rfl
  | cons x l =>
    unfold runI
    rw [if_neg (by omega), List.length_cons, List.range_succ_eq_map, List.find?_cons_of_pos]
    · rfl
    · unfold runAt
      rw [List.all_eq_true]
      intro k hk
      have hk : k < 1 := List.mem_range.1 hk
      obtain rfl : k = 0 := by omega
      simp
theorem add_new (h : Kp n was s) {p : Page} (hp : isPage p = true) :
    (∃ k e, s.add p = ((k, some e), s) ∧ NoRoom e s) ∨ ∃ i s', s.add p = ((i, none), s') ∧ Added n was s s' p i := by
  have hkp := h.add p
  revert hkp
  rw [s.add_yes p hp]
  unfold Sto.numbers
  by_cases hc : 120 < (s.d.length : Int) + 1
  · rw [if_pos hc]
    exact fun _ => .inl ⟨0, 17, rfl, .inl ⟨rfl, by omega⟩⟩
  rw [if_neg hc, run_one]
  rcases hr : s.avail.head? with _ | id
  · dsimp only
    by_cases hl : s.most < s.last + 1
    · rw [if_pos hl]
      exact fun _ => .inl ⟨0, 14, rfl, .inr ⟨rfl, by omega⟩⟩
    rw [if_neg hl]
    intro hkp
    have hav : s.avail = [] := List.head?_eq_none_iff.1 hr
    have hno := h.fresh_no (j := s.last) (.inr (Int.le_refl _))
    have hlen : (putD s.d s.last p).length = s.d.length + 1 := by rw [putD_new2 hno]; simp
    have := h.ok.last
    have := h.ok.most
    refine .inr ⟨s.last, _, rfl, hkp, ⟨rfl, ?_, fun j hj => hj, fun j hj => hj, ?_, ?_, fun _ => ⟨hav, ?_⟩⟩, .inr (Int.le_refl _), ⟨by omega, by omega⟩, ⟨?_, ?_⟩, rfl, ?_, fun j hj => ?_, hlen, fun hx => ?_, fun j h1 h2 h3 => ?_⟩
    · show s.last ≤ s.last + 1; omega
    · show s.d.length ≤ (putD s.d s.last p).length; omega
    · show s.last + 1 ≤ s.last + ((putD s.d s.last p).length - s.d.length : Int); rw [hlen]; omega
    · show s.last + 1 = s.last + ((putD s.d s.last p).length - s.d.length : Int); rw [hlen]; omega
    · show s.last < s.last + 1; omega
    · show s.last ∉ s.avail; rw [hav]; simp
    · show lookD (putD s.d s.last p) s.last = some p
      rw [lookD_putV, if_pos rfl]
    · show lookD (putD s.d s.last p) j = _
      rw [lookD_putV, if_neg hj]
    · have := h.f _ hx; omega
    · have h2 : j < s.last + 1 := h2
      rcases h1 with h1 | h1
      · rw [hav] at h1; cases h1
      · omega
  · dsimp only
    intro hkp
    have hmem : id ∈ s.avail := List.mem_of_mem_head? hr
    have hno := h.fresh_no (j := id) (.inl hmem)
    have hlen : (putD s.d id p).length = s.d.length + 1 := by rw [putD_new2 hno]; simp
    obtain ⟨ha1, ha2, ha3⟩ := h.a _ hmem
    have hrg := h.ok.avail.2 _ hmem
    refine .inr ⟨id, _, rfl, hkp, ⟨rfl, Int.le_refl _, fun j hj => (mem_dropI.1 hj).1, fun j hj => hj, ?_, ?_, fun e => ?_⟩, .inl hmem, hrg, ⟨ha1, fun hx => (mem_dropI.1 hx).2 (by omega)⟩, rfl, ?_, fun j hj => ?_, hlen, ha3, fun j h1 h2 h3 => ?_⟩
    · show s.d.length ≤ (putD s.d id p).length; omega
    · show s.last ≤ s.last + ((putD s.d id p).length - s.d.length : Int); rw [hlen]; omega
    · rw [e] at hmem; cases hmem
    · show lookD (putD s.d id p) id = some p
      rw [lookD_putV, if_pos rfl]
    · show lookD (putD s.d id p) j = _
      rw [lookD_putV, if_neg hj]
    · have h2 : j < s.last := h2
      have h3 : j ∉ dropI s.avail id 1 := h3
      rcases h1 with h1 | h1
      · by_cases e : j = id
        · exact e
        · exact absurd (mem_dropI.2 ⟨h1, by omega⟩) h3
      · omega
theorem read_rng {V : List Txt} {i : Int} {p : Page} (h : s.read V i = (p, none)) : 2 ≤ i ∧ i < s.most := by
  unfold Sto.read at h
  split at h
  · cases h
  · omega
structure Touched (n : Int) (was : List Int) (s s' : Sto) (i m : Int) (p : Page) : Prop where
  kp : Kp n was s'
  gr : Grow s s'
  num : (m = i ∧ s' = s ∧ (lookD s.d i).isSome) ∨ (Frs s m ∧ lookD s.d i = none ∧ s'.freed = insI i s.freed ∧ s'.d.length = s.d.length + 1 ∧ m ∉ s'.freed)
  ge : 2 ≤ m ∧ m < 400
  lt : m < s'.last ∧ m ∉ s'.avail
  at_ : lookD s'.d m = some p
  look : ∀ j, j ≠ m → lookD s'.d j = lookD s.d j
  out : ∀ j, Frs s j → j < s'.last → j ∉ s'.avail → j = m
theorem touch_new (h : Kp n was s) {V : List Txt} {i : Int} {p : Page} (hr : s.read V i = (p, none)) (hp : isPage p = true) (hi : i < s.last) (ha : i ∉ s.avail) :
    (∃ k e, s.touch V i = ((k, some e), s) ∧ NoRoom e s) ∨ ∃ m s', s.touch V i = ((m, none), s') ∧ Touched n was s s' i m p := by
  have hrg := read_rng hr
  rcases hl : lookD s.d i with _ | q
  · rw [s.touch_else V i hl, hr]
    dsimp only
    rcases add_new h hp with ⟨k, e, h1, h2⟩ | ⟨m, s', h1, h2⟩
    · rw [h1]
      exact .inl ⟨k, e, rfl, h2⟩
    · rw [h1]
      dsimp only
      have hne : i ≠ m := by
        rintro rfl
        rcases h2.frs with h | h
        · exact ha h
        · omega
      have hno : lookD s'.d i = none := (h2.look i hne).trans hl
      have hd : s'.drop i = { s' with freed := insI i s'.freed } := by
        rw [s'.drop_else i hno, if_pos ⟨hrg.1, by have := h2.gr.last; omega, fun hx => ha (h2.gr.av i hx)⟩]
      refine .inr ⟨m, _, rfl, h2.kp.drop i, ?_, .inr ⟨h2.frs, hl, ?_, ?_, ?_⟩, h2.ge, ?_, ?_, ?_, ?_⟩
      · rw [hd]
        exact ⟨h2.gr.most, h2.gr.last, h2.gr.av, fun j hj => mem_insI.2 (.inr (h2.gr.frd j hj)), h2.gr.len, h2.gr.bnd, h2.gr.cnt⟩
      · rw [hd, ← h2.fr]
      · rw [hd]; exact h2.len
      · rw [hd]
        intro hx
        rcases mem_insI.1 hx with e | hx
        · exact hne e.symm
        · exact h2.nfr hx
      · rw [hd]; exact h2.lt
      · rw [hd]; exact h2.at_
      · rw [hd]; exact h2.look
      · rw [hd]; exact h2.out
  · rw [s.touch_made V i q hl]
    have hq : q = p := by
      unfold Sto.read at hr
      rw [if_neg (by omega), hl] at hr
      dsimp only at hr
      split at hr
      · cases hr
      · injection hr
    subst hq
    have hk := h.ok.keys _ (lookD_mem hl)
    refine .inr ⟨i, s, rfl, h, Grow.refl s, .inl ⟨rfl, rfl, by rw [hl]; rfl⟩, hk, ⟨hi, ha⟩, hl, fun _ _ => rfl, fun j h1 h2 h3 => ?_⟩
    rcases h1 with h1 | h1
    · exact absurd h1 h3
    · omega
structure Setd (n : Int) (was : List Int) (s s' : Sto) (i : Int) (p : Page) : Prop where
  kp : Kp n was s'
  gr : Grow s s'
  lst : s'.last = s.last
  av : s'.avail = s.avail
  fr : s'.freed = s.freed
  at_ : lookD s'.d i = some p
  look : ∀ j, j ≠ i → lookD s'.d j = lookD s.d j
  len : s'.d.length = s.d.length
theorem set_new (h : Kp n was s) {i : Int} {p q : Page} (hl : lookD s.d i = some q) (hp : isPage p = true) : s.set_ i p = (none, (s.set_ i p).2) ∧ Setd n was s (s.set_ i p).2 i p := by
  have hk := h.set_ i p
  rw [s.set_yes i p q hl hp] at hk ⊢
  have hlen : (putD s.d i p).length = s.d.length := putD_has (by rw [hl]; rfl)
  refine ⟨rfl, hk, ⟨rfl, Int.le_refl _, fun _ h => h, fun _ h => h, ?_, ?_, fun e => ⟨e, ?_⟩⟩, rfl, rfl, rfl, ?_, fun j hj => ?_, hlen⟩
  · show s.d.length ≤ (putD s.d i p).length; omega
  · show s.last ≤ s.last + ((putD s.d i p).length - s.d.length : Int); omega
  · show s.last = s.last + ((putD s.d i p).length - s.d.length : Int); omega
  · show lookD (putD s.d i p) i = some p
    rw [lookD_putV, if_pos rfl]
  · show lookD (putD s.d i p) j = _
    rw [lookD_putV, if_neg hj]
end
end Sp
end Go.Proofs.YtlpmjeiogdlifaaGreat
namespace Go.Proofs.YtlpmjeiogdlifaaGreat
open Go.RowKit
attribute [local go_sem low] mk_extract
attribute [local go_sem] After.cell After.frozen mk_extract_end ByteArray.mk_append_mk
namespace Sp
theorem insI_new {n : Int} {L : List Int} (h : n ∉ L) : (insI n L).length = L.length + 1 := by
  unfold insI
  rw [if_neg h]
  have hp : posI n L ≤ L.length := List.countP_le_length
  simp only [List.length_append, List.length_cons, List.length_take, List.length_drop]
  omega
structure InS (V : List Txt) (s : Sto) (d : Nat) (t : T d) : Prop where
  inn : T.In (s.read V) d t
  lt : ∀ i ∈ T.ids d t, (i : Int) < s.last ∧ (i : Int) ∉ s.avail
  nd : (T.ids d t).Nodup
theorem T.In.ge {rd : Int → Page × Option Int} : ∀ {d : Nat} {t : T d}, T.In rd d t → ∀ i ∈ T.ids d t, 2 ≤ i
  | 0, t, h, i, hi => by
    have : i = t.1 := by simpa [T.ids] using hi
    rw [this]; exact h.1
  | d + 1, t, h, i, hi => by
    rcases List.mem_cons.1 (show i ∈ t.1 :: t.2.flatMap (fun c => T.ids d c.2) from hi) with rfl | hi
    · exact h.1.1
    · obtain ⟨c, hc, hi⟩ := List.mem_flatMap.1 hi
      exact (h.2 c hc).ge i hi
theorem T.In.keep {rd rd' : Int → Page × Option Int} : ∀ {d : Nat} {t : T d}, T.In rd d t → (∀ i ∈ T.ids d t, rd' (i : Int) = rd (i : Int)) → T.In rd' d t
  | 0, t, h, hk => ⟨h.1, (hk t.1 (by simp [T.ids])).trans h.2⟩
  | d + 1, t, h, hk => ⟨⟨h.1.1, (hk t.1 (by simp [T.ids])).trans h.1.2⟩, fun c hc => (h.2 c hc).keep fun i hi => hk i (List.mem_cons_of_mem _ (List.mem_flatMap.2 ⟨c, hc, hi⟩))⟩
section
variable {n : Int} {was : List Int}
structure Mid (n : Int) (was : List Int) (s s' : Sto) (m : Nat) (q : Page) (A B : List Nat) : Prop where
  kp : Kp n was s'
  gr : Grow s s'
  at_ : lookD s'.d (m : Int) = some q
  ge : 2 ≤ m ∧ m < 400
  ids : ∀ i ∈ m :: B, (i ∈ A ∨ Frs s (i : Int)) ∧ (i : Int) < s'.last ∧ (i : Int) ∉ s'.avail
  nd : (m :: B).Nodup
  look : ∀ j : Int, (∀ i ∈ A, (i : Int) ≠ j) → ¬ Frs s j → lookD s'.d j = lookD s.d j
  made : ∀ j : Int, (lookD s.d j).isSome = true → (lookD s'.d j).isSome = true
  frees : ∀ j ∈ s'.freed, j ∈ s.freed ∨ ∃ i ∈ A, (i : Int) = j
  nfr : (∀ i ∈ A, (i : Int) ∉ s.freed) → ∀ i ∈ m :: B, (i : Int) ∉ s'.freed
  gone : ∀ i ∈ A, i ∈ m :: B ∨ (i : Int) ∈ s'.freed
  new : ∀ j : Int, Frs s j → j < s'.last → j ∉ s'.avail → ∃ i ∈ m :: B, (i : Int) = j
theorem Mid.set_ {s s' : Sto} {m : Nat} {p q : Page} {A B : List Nat} (h : Mid n was s s' m q A B) (hA : m ∈ A ∨ Frs s (m : Int)) (hp : isPage p = true) :
    s'.set_ (m : Int) p = (none, (s'.set_ (m : Int) p).2) ∧ Mid n was s (s'.set_ (m : Int) p).2 m p A B ∧ (∀ j : Int, j ≠ m → lookD (s'.set_ (m : Int) p).2.d j = lookD s'.d j) ∧ (s'.set_ (m : Int) p).2.d.length = s'.d.length ∧ (s'.set_ (m : Int) p).2.freed = s'.freed := by
  obtain ⟨e, hs⟩ := set_new h.kp h.at_ hp
  refine ⟨e, ⟨hs.kp, h.gr.trans hs.gr, hs.at_, h.ge, fun i hi => ?_, h.nd, fun j hj hf => ?_, fun j hj => ?_, ?_, ?_, ?_, ?_⟩, hs.look, hs.len, hs.fr⟩
  · rw [hs.lst, hs.av]; exact h.ids i hi
  · have hne : j ≠ m := by
      rintro rfl
      rcases hA with hA | hA
      · exact hj m hA rfl
      · exact hf hA
    exact (hs.look j hne).trans (h.look j hj hf)
  · by_cases e : j = m
    · subst e; rw [hs.at_]; rfl
    · rw [hs.look j e]; exact h.made j hj
  · rw [hs.fr]; exact h.frees
  · rw [hs.fr]; exact h.nfr
  · rw [hs.fr]; exact h.gone
  · rw [hs.lst, hs.av]; exact h.new
theorem Mid.touch {V : List Txt} {s : Sto} {id : Nat} {p : Page} {B : List Nat} (h : Kp n was s) (hr : s.read V (id : Int) = (p, none)) (hp : isPage p = true) (hlt : ∀ i ∈ id :: B, (i : Int) < s.last ∧ (i : Int) ∉ s.avail) (hnd : (id :: B).Nodup) :
    (∃ k e, s.touch V (id : Int) = ((k, some e), s) ∧ NoRoom e s) ∨ ∃ (m : Nat) (s' : Sto), s.touch V (id : Int) = (((m : Int), none), s') ∧ Mid n was s s' m p (id :: B) B ∧ (∀ j : Int, j ≠ m → lookD s'.d j = lookD s.d j) ∧ (m = id ∨ Frs s (m : Int)) ∧
      s'.d.length ≤ s.d.length + 1 ∧ (lookD s.d (id : Int) = none → (id : Int) ∉ s.freed → s'.freed.length = s.freed.length + 1 ∧ s'.d.length = s.d.length + 1) := by
  obtain ⟨hid1, hid2⟩ := hlt id (by simp)
  rcases touch_new h hr hp hid1 hid2 with h1 | ⟨i, s', e, ht⟩
  · exact .inl h1
  obtain ⟨m, rfl⟩ : ∃ m : Nat, i = (m : Int) := ⟨i.toNat, by have := ht.ge; omega⟩
  have hge := ht.ge
  have hB : m ∉ B := fun hm => by
    rcases ht.num with ⟨e1, _⟩ | ⟨hf, _⟩
    · have e1 : m = id := by omega
      exact (List.nodup_cons.1 hnd).1 (e1 ▸ hm)
    · obtain ⟨h2, h3⟩ := hlt m (by simp [hm])
      rcases hf with hf | hf
      · exact h3 hf
      · omega
  have hcase : m = id ∨ Frs s (m : Int) := by
    rcases ht.num with ⟨e1, _⟩ | ⟨hf, _⟩
    · exact .inl (by omega)
    · exact .inr hf
  refine .inr ⟨m, s', e, ⟨ht.kp, ht.gr, ht.at_, by omega, fun j hj => ?_, List.nodup_cons.2 ⟨hB, (List.nodup_cons.1 hnd).2⟩, fun j hj hq => ?_, fun j hj => ?_, fun j hj => ?_, fun hA j hj => ?_, fun j hj => ?_, fun j h1 h2 h3 => ?_⟩, ht.look, hcase, ?_, fun hn hnf => ?_⟩
  · rcases List.mem_cons.1 hj with rfl | hj
    · refine ⟨?_, ht.lt⟩
      rcases hcase with rfl | hf
      · exact .inl (by simp)
      · exact .inr hf
    · obtain ⟨h2, h3⟩ := hlt j (by simp [hj])
      exact ⟨.inl (by simp [hj]), by have := ht.gr.last; omega, fun hx => h3 (ht.gr.av _ hx)⟩
  · refine ht.look j ?_
    rintro rfl
    rcases hcase with rfl | hf
    · exact hj m (by simp) rfl
    · exact hq hf
  · by_cases e : j = m
    · subst e; rw [ht.at_]; rfl
    · rw [ht.look j e]; exact hj
  · rcases ht.num with ⟨_, e, _⟩ | ⟨_, _, e, _⟩
    · rw [e] at hj; exact .inl hj
    · rw [e] at hj
      rcases mem_insI.1 hj with rfl | hj
      · exact .inr ⟨id, by simp, rfl⟩
      · exact .inl hj
  · rcases ht.num with ⟨e1, e, _⟩ | ⟨hf, _, e, _, hn⟩
    · rw [e]
      have e1 : m = id := by omega
      rcases List.mem_cons.1 hj with rfl | hj
      · exact hA _ (by simp [e1])
      · exact hA _ (by simp [hj])
    · rcases List.mem_cons.1 hj with rfl | hj
      · exact hn
      · rw [e]
        intro hx
        rcases mem_insI.1 hx with hx | hx
        · have hx : j = id := by omega
          exact (List.nodup_cons.1 hnd).1 (hx ▸ hj)
        · exact hA j (by simp [hj]) hx
  · rcases List.mem_cons.1 hj with rfl | hj
    · rcases ht.num with ⟨e1, _⟩ | ⟨_, _, e, _⟩
      · left
        have : m = j := by omega
        simp [this]
      · right
        rw [e]
        exact mem_insI.2 (.inl rfl)
    · exact .inl (by simp [hj])
  · exact ⟨m, by simp, (ht.out j h1 h2 h3).symm⟩
  · rcases ht.num with ⟨_, e, _⟩ | ⟨_, _, _, e, _⟩
    · rw [e]; omega
    · omega
  · rcases ht.num with ⟨_, _, e⟩ | ⟨_, _, e, e2, _⟩
    · rw [hn] at e; cases e
    · rw [e, insI_new hnf]; exact ⟨rfl, e2⟩
end
end Sp
end Go.Proofs.YtlpmjeiogdlifaaGreat
namespace Go.Proofs.YtlpmjeiogdlifaaGreat
open Go.RowKit
attribute [local go_sem low] mk_extract
attribute [local go_sem] After.cell After.frozen mk_extract_end ByteArray.mk_append_mk
namespace Sp
abbrev PRes (d : Nat) : Type := (Option Int × T d × Option (Txt × T d)) × Sto
def Sto.putT (V : List Txt) (x : Item) : (d : Nat) → T d → Sto → PRes d
  | 0, t, s => match s.touch V (t.1 : Int) with
    | ((_, some e), s1) => ((some e, t, none), s1)
    | ((i, none), s1) => if (insIt x t.2).length ≤ 4 then ((none, (i.toNat, insIt x t.2), none), (s1.set_ i (leafPg (insIt x t.2))).2)
      else match s1.add (leafPg ((insIt x t.2).drop 3)) with
        | ((_, some e), s2) => ((some e, t, none), s2)
        | ((n, none), s2) => ((none, (i.toNat, (insIt x t.2).take 3), some (((insIt x t.2).getD 3 item0).key, (n.toNat, (insIt x t.2).drop 3))), (s2.set_ i (leafPg ((insIt x t.2).take 3))).2)
  | d + 1, t, s => match s.touch V (t.1 : Int) with
    | ((_, some e), s1) => ((some e, t, none), s1)
    | ((i, none), s1) => match t.2[downI x.key t.2]? with
      | none => ((some 12, t, none), s1)
      | some c => match Sto.putT V x d c.2 s1 with
        | ((some e, _), s2) => ((some e, t, none), s2)
        | ((none, t', more), s2) => if (graft (downI x.key t.2) t' more t.2).length ≤ 4 then ((none, (i.toNat, graft (downI x.key t.2) t' more t.2), none), (s2.set_ i (T.page (d + 1) (i.toNat, graft (downI x.key t.2) t' more t.2))).2)
          else match (graft (downI x.key t.2) t' more t.2).drop 3 with
            | [] => ((some 12, t, none), s2)
            | b :: bs => match s2.add (T.page (d + 1) (2, ([], b.2) :: bs)) with
              | ((_, some e), s3) => ((some e, t, none), s3)
              | ((n, none), s3) => ((none, (i.toNat, (graft (downI x.key t.2) t' more t.2).take 3), some (b.1, (n.toNat, ([], b.2) :: bs))), (s3.set_ i (T.page (d + 1) (i.toNat, (graft (downI x.key t.2) t' more t.2).take 3))).2)
def PutG (V : List Txt) (n : Int) (was : List Int) (x : Item) (d : Nat) (b : Bool) (t : T d) (s : Sto) (t' : T d) (more : Option (Txt × T d)) (s' : Sto) : Prop :=
  ∃ B, Mid n was s s' (T.id d t') (T.page d t') (T.ids d t) B ∧ (T.ids d t' ++ moreIds d more).Perm (T.id d t' :: B) ∧ T.In (s'.read V) d t' ∧ (∀ m ∈ more, T.In (s'.read V) d m.2) ∧ PutOk2 x d b t t' more ∧
    s'.d.length ≤ s.d.length + (2 * d + 1) + more.toList.length ∧
    ((∀ i ∈ T.ids d t, lookD s.d (i : Int) = none ∧ (i : Int) ∉ s.freed) → s'.freed.length = s.freed.length + (d + 1) ∧ s.d.length + (d + 1) ≤ s'.d.length)
def PutN (n : Int) (was : List Int) (d : Nat) (e : Int) (s s' : Sto) : Prop := Kp n was s' ∧ Grow s s' ∧ NoRoom e s' ∧ s'.d.length ≤ s.d.length + (2 * d + 1)
section
variable {n : Int} {was : List Int}
theorem Mid.rng {s s' : Sto} {m : Nat} {q : Page} {A B : List Nat} (h : Mid n was s s' m q A B) (hs : Kp n was s) (hA : ∀ i ∈ A, 2 ≤ i) : ∀ i ∈ m :: B, 2 ≤ i ∧ i < 400 := by
  intro i hi
  obtain ⟨h1, h2, h3⟩ := h.ids i hi
  have h4 := h.kp.ok.last
  refine ⟨?_, by omega⟩
  rcases h1 with h1 | h1 | h1
  · exact hA i h1
  · have := (hs.ok.avail.2 _ h1).1; omega
  · have := hs.ok.last; omega
theorem Mid.below {s s1 s2 : Sto} {m : Nat} {q : Page} {A P C Q C' : List Nat} (h : Mid n was s s1 m q A (P ++ (C ++ Q))) (hA : ∀ i ∈ A, (i : Int) < s.last ∧ (i : Int) ∉ s.avail) (hCA : ∀ i ∈ C, i ∈ A) {m2 : Nat} {q2 : Page} {B2 : List Nat}
    (h2 : Mid n was s1 s2 m2 q2 C B2) (hp : C'.Perm (m2 :: B2)) : Mid n was s s2 m q A (P ++ (C' ++ Q)) ∧ (∀ i ∈ m :: (P ++ Q), lookD s2.d (i : Int) = lookD s1.d (i : Int)) := by
  have hC' : ∀ i, i ∈ C' ↔ i ∈ m2 :: B2 := fun i => hp.mem_iff
  have hnd := h.nd
  have hnf1 : ∀ i ∈ m :: (P ++ (C ++ Q)), ¬ Frs s1 (i : Int) := fun i hi hf => by
    obtain ⟨_, h3, h4⟩ := h.ids i hi
    rcases hf with hf | hf
    · exact h4 hf
    · omega
  have hsib : ∀ i ∈ m :: (P ++ Q), i ∈ m :: (P ++ (C ++ Q)) ∧ i ∉ C := fun i hi => by
    have hn1 := List.nodup_cons.1 hnd
    obtain ⟨_, hn3, hn4⟩ := List.nodup_append.1 hn1.2
    obtain ⟨_, _, hn5⟩ := List.nodup_append.1 hn3
    rcases List.mem_cons.1 hi with rfl | hi
    · exact ⟨by simp, fun hc => hn1.1 (by simp [hc])⟩
    · rcases List.mem_append.1 hi with hi | hi
      · exact ⟨by simp [hi], fun hc => hn4 i hi i (by simp [hc]) rfl⟩
      · exact ⟨by simp [hi], fun hc => hn5 i hc i hi rfl⟩
  have hlook : ∀ i ∈ m :: (P ++ Q), lookD s2.d (i : Int) = lookD s1.d (i : Int) := fun i hi => by
    obtain ⟨h3, h4⟩ := hsib i hi
    exact h2.look _ (fun j hj e => h4 (by have : j = i := by omega
                                          exact this ▸ hj)) (hnf1 i h3)
  have hpart : ∀ i ∈ m :: (P ++ (C' ++ Q)), i ∈ m :: (P ++ Q) ∨ i ∈ C' := fun i hi => by
    simp only [List.mem_cons, List.mem_append] at hi ⊢
    rcases hi with h | h | h | h
    · exact .inl (.inl h)
    · exact .inl (.inr (.inl h))
    · exact .inr h
    · exact .inl (.inr (.inr h))
  have hback : ∀ i, i ∈ m :: (P ++ Q) ∨ i ∈ C' → i ∈ m :: (P ++ (C' ++ Q)) := fun i hi => by
    simp only [List.mem_cons, List.mem_append] at hi ⊢
    rcases hi with (h | h | h) | h
    · exact .inl h
    · exact .inr (.inl h)
    · exact .inr (.inr (.inr h))
    · exact .inr (.inr (.inl h))
  have hold : ∀ i ∈ m :: (P ++ (C ++ Q)), i ∈ m :: (P ++ Q) ∨ i ∈ C := fun i hi => by
    simp only [List.mem_cons, List.mem_append] at hi ⊢
    rcases hi with h | h | h | h
    · exact .inl (.inl h)
    · exact .inl (.inr (.inl h))
    · exact .inr h
    · exact .inl (.inr (.inr h))
  refine ⟨⟨h2.kp, h.gr.trans h2.gr, (hlook m (by simp)).trans h.at_, h.ge, fun i hi => ?_, ?_, fun j hj hq => ?_, fun j hj => h2.made j (h.made j hj), fun j hj => ?_, fun hfr i hi => ?_, fun i hi => ?_, fun j h3 h4 h5 => ?_⟩, hlook⟩
  · rcases hpart i hi with hi | hi
    · obtain ⟨h3, h4, h5⟩ := h.ids i (hsib i hi).1
      exact ⟨h3, by have := h2.gr.last; omega, fun hx => h5 (h2.gr.av _ hx)⟩
    · obtain ⟨h3, h4, h5⟩ := h2.ids i ((hC' i).1 hi)
      refine ⟨?_, h4, h5⟩
      rcases h3 with h3 | h3
      · exact .inl (hCA i h3)
      · exact .inr (h3.back h.gr)
  · have hn1 := List.nodup_cons.1 hnd
    obtain ⟨hn2, hn3, hn4⟩ := List.nodup_append.1 hn1.2
    obtain ⟨_, hn5, hn6⟩ := List.nodup_append.1 hn3
    have hap : ∀ i ∈ m :: (P ++ Q), i ∉ C' := fun i hi hc => by
      obtain ⟨h3, h4⟩ := hsib i hi
      rcases (h2.ids i ((hC' i).1 hc)).1 with h5 | h5
      · exact h4 h5
      · exact hnf1 i h3 h5
    refine List.nodup_cons.2 ⟨fun hm => ?_, List.nodup_append.2 ⟨hn2, List.nodup_append.2 ⟨hp.nodup_iff.2 h2.nd, hn5, fun a ha b hb e => ?_⟩, fun a ha b hb e => ?_⟩⟩
    · rcases List.mem_append.1 hm with hm | hm
      · exact hn1.1 (by simp [hm])
      · rcases List.mem_append.1 hm with hm | hm
        · exact hap m (by simp) hm
        · exact hn1.1 (by simp [hm])
    · subst e; exact hap a (by simp [hb]) ha
    · subst e
      rcases List.mem_append.1 hb with hb | hb
      · exact hap a (by simp [ha]) hb
      · exact hn4 a ha a (by simp [hb]) rfl
  · refine (h2.look j (fun i hi e => hj i (hCA i hi) e) (fun hf => hq (hf.back h.gr))).trans (h.look j hj hq)
  · rcases h2.frees j hj with hj | ⟨i, hi, e⟩
    · exact h.frees j hj
    · exact .inr ⟨i, hCA i hi, e⟩
  · have hn := h.nfr hfr
    rcases hpart i hi with hi | hi
    · obtain ⟨h3, h4⟩ := hsib i hi
      intro hx
      rcases h2.frees _ hx with hx | ⟨j, hj, e⟩
      · exact hn i h3 hx
      · have : j = i := by omega
        exact h4 (this ▸ hj)
    · exact h2.nfr (fun j hj => hn j (by simp [hj])) i ((hC' i).1 hi)
  · rcases h.gone i hi with h3 | h3
    · rcases hold i h3 with h3 | h3
      · exact .inl (hback i (.inl h3))
      · rcases h2.gone i h3 with h4 | h4
        · exact .inl (hback i (.inr ((hC' i).2 h4)))
        · exact .inr h4
    · exact .inr (h2.gr.frd _ h3)
  · by_cases hf : Frs s1 j
    · obtain ⟨i, hi, e⟩ := h2.new j hf h4 h5
      exact ⟨i, hback i (.inr ((hC' i).2 hi)), e⟩
    · have hj2 : j < s1.last ∧ j ∉ s1.avail := ⟨Int.not_le.1 fun h => hf (.inr h), fun h => hf (.inl h)⟩
      obtain ⟨i, hi, e⟩ := h.new j h3 hj2.1 hj2.2
      rcases hold i hi with h6 | h6
      · exact ⟨i, hback i (.inl h6), e⟩
      · exfalso
        obtain ⟨h7, h8⟩ := hA i (hCA i h6)
        rw [e] at h7 h8
        rcases h3 with h3 | h3
        · exact h8 h3
        · omega
end
end Sp
end Go.Proofs.YtlpmjeiogdlifaaGreat
namespace Go.Proofs.YtlpmjeiogdlifaaGreat
open Go.RowKit
attribute [local go_sem low] mk_extract
attribute [local go_sem] After.cell After.frozen mk_extract_end ByteArray.mk_append_mk
namespace Sp
section
variable {n : Int} {was : List Int}
theorem InS.root {V : List Txt} {s : Sto} {d : Nat} {t : T d} (h : InS V s d t) : s.read V (T.id d t : Int) = (T.page d t, none) := h.inn.root.2
end
end Sp
end Go.Proofs.YtlpmjeiogdlifaaGreat
namespace Go.Proofs.YtlpmjeiogdlifaaGreat
open Go.RowKit
attribute [local go_sem low] mk_extract
attribute [local go_sem] After.cell After.frozen mk_extract_end ByteArray.mk_append_mk
namespace Sp
section
variable {n : Int} {was : List Int}
end
end Sp
end Go.Proofs.YtlpmjeiogdlifaaGreat
namespace Go.Proofs.YtlpmjeiogdlifaaGreat
open Go.RowKit
attribute [local go_sem low] mk_extract
attribute [local go_sem] After.cell After.frozen mk_extract_end ByteArray.mk_append_mk
namespace Sp
def Rt.ids (o : Option Rt) : List Nat := match o with | none => [] | some r => T.ids r.d r.t
structure Whole (V : List Txt) (n : Int) (was : List Int) (s : Sto) (o : Option Rt) : Prop where
  kp : Kp n was s
  most : s.most = 400
  tr : ∀ r, o = some r → InS V s r.d r.t ∧ T.Ok r.d true r.t
  nfr : ∀ i ∈ Rt.ids o, (i : Int) ∉ s.freed
  cov : ∀ j : Int, 2 ≤ j → j < s.last → (∃ i ∈ Rt.ids o, (i : Int) = j) ∨ j ∈ s.freed ∨ j ∈ s.avail
  dirt : ∀ x ∈ s.d, ∃ i ∈ Rt.ids o, (i : Int) = x.1
section
variable {V : List Txt} {n : Int} {was : List Int} {s : Sto} {o : Option Rt}
theorem Whole.lt (h : Whole V n was s o) : ∀ i ∈ Rt.ids o, 2 ≤ i ∧ (i : Int) < s.last ∧ (i : Int) ∉ s.avail := by
  intro i hi
  rcases o with _ | r
  · cases hi
  · obtain ⟨h1, _⟩ := h.tr r rfl
    exact ⟨h1.inn.ge i hi, h1.lt i hi⟩
theorem Whole.nd (h : Whole V n was s o) : (Rt.ids o).Nodup := by
  rcases o with _ | r
  · exact List.nodup_nil
  · exact (h.tr r rfl).1.nd
theorem nodup_mapInt {l : List Nat} (h : l.Nodup) : (l.map fun i => ((i : Nat) : Int)).Nodup := by
  refine List.pairwise_map.2 (h.imp fun {a b} hab e => hab ?_)
  omega
theorem rise_nodup {L : List Int} (h : L.Pairwise (· < ·)) : L.Nodup := h.imp fun {a b} h e => by omega
theorem Whole.count (h : Whole V n was s o) : ((Rt.ids o).length : Int) + s.freed.length + s.avail.length = s.last - 2 := by
  have h2 := h.kp.ok.last
  have hnd : ((Rt.ids o).map (fun i => ((i : Nat) : Int)) ++ (s.freed ++ s.avail)).Nodup := by
    refine List.nodup_append.2 ⟨nodup_mapInt h.nd, List.nodup_append.2 ⟨rise_nodup h.kp.ok.freed.1, rise_nodup h.kp.ok.avail.1, fun a ha b hb e => ?_⟩, fun a ha b hb e => ?_⟩
    · subst e; exact (h.kp.a a hb).2.2 ha
    · subst e
      obtain ⟨i, hi, rfl⟩ := List.mem_map.1 ha
      rcases List.mem_append.1 hb with hb | hb
      · exact h.nfr i hi hb
      · exact (h.lt i hi).2.2 hb
  have hr : ((List.range (s.last - 2).toNat).map fun i => ((i : Nat) : Int) + 2).Nodup :=
    List.pairwise_map.2 (List.nodup_range.imp fun {a b} hab e => hab (by omega))
  have hp := (List.perm_ext_iff_of_nodup hnd hr).2 fun j => by
    constructor
    · intro hj
      have hj2 : 2 ≤ j ∧ j < s.last := by
        rcases List.mem_append.1 hj with hj | hj
        · obtain ⟨i, hi, rfl⟩ := List.mem_map.1 hj
          have := h.lt i hi
          omega
        · rcases List.mem_append.1 hj with hj | hj
          · exact ⟨(h.kp.ok.freed.2 j hj).1, h.kp.f j hj⟩
          · exact ⟨(h.kp.ok.avail.2 j hj).1, (h.kp.a j hj).1⟩
      exact List.mem_map.2 ⟨(j - 2).toNat, List.mem_range.2 (by omega), by omega⟩
    · intro hj
      obtain ⟨i, hi, rfl⟩ := List.mem_map.1 hj
      have hi := List.mem_range.1 hi
      rcases h.cov ((i : Int) + 2) (by omega) (by omega) with ⟨k, hk, e⟩ | hf | ha
      · exact List.mem_append.2 (.inl (List.mem_map.2 ⟨k, hk, e⟩))
      · exact List.mem_append.2 (.inr (List.mem_append.2 (.inl hf)))
      · exact List.mem_append.2 (.inr (List.mem_append.2 (.inr ha)))
  have hl := hp.length_eq
  simp only [List.length_append, List.length_map, List.length_range] at hl
  omega
theorem Whole.next {A B : List Nat} {m : Nat} {q : Page} {s' : Sto} (hk : Kp n was s) (hmo : s.most = 400) (hA : ∀ i ∈ A, (i : Int) ∉ s.freed) (hcov : ∀ j : Int, 2 ≤ j → j < s.last → (∃ i ∈ A, (i : Int) = j) ∨ j ∈ s.freed ∨ j ∈ s.avail)
    (hd : ∀ x ∈ s.d, ∃ i ∈ A, (i : Int) = x.1) (h : Mid n was s s' m q A B) {o' : Option Rt} (hp : (Rt.ids o').Perm (m :: B)) (htr : ∀ r, o' = some r → T.In (s'.read V) r.d r.t ∧ T.Ok r.d true r.t) : Whole V n was s' o' := by
  have hmem : ∀ i, i ∈ Rt.ids o' ↔ i ∈ m :: B := fun i => hp.mem_iff
  refine ⟨h.kp, h.gr.most.trans hmo, fun r hr => ?_, fun i hi => h.nfr hA i ((hmem i).1 hi), fun j h2 hl => ?_, fun x hx => ?_⟩
  · obtain ⟨h1, h2⟩ := htr r hr
    subst hr
    exact ⟨⟨h1, fun i hi => (h.ids i ((hmem i).1 hi)).2, hp.nodup_iff.2 h.nd⟩, h2⟩
  · by_cases hf : Frs s j
    · by_cases ha : j ∈ s'.avail
      · exact .inr (.inr ha)
      · obtain ⟨i, hi, e⟩ := h.new j hf hl ha
        exact .inl ⟨i, (hmem i).2 hi, e⟩
    · have hj : j < s.last := Int.not_le.1 fun h => hf (.inr h)
      rcases hcov j h2 hj with ⟨i, hi, e⟩ | h3 | h3
      · rcases h.gone i hi with h4 | h4
        · exact .inl ⟨i, (hmem i).2 h4, e⟩
        · exact .inr (.inl (e ▸ h4))
      · exact .inr (.inl (h.gr.frd _ h3))
      · exact absurd (.inl h3) hf
  · have hx' := h.kp.k x hx
    have hlk : lookD s'.d x.1 ≠ none := fun e => lookD_none.1 e x hx rfl
    by_cases hf : Frs s x.1
    · obtain ⟨i, hi, e⟩ := h.new x.1 hf hx'.last hx'.av
      exact ⟨i, (hmem i).2 hi, e⟩
    · by_cases hA2 : ∃ i ∈ A, (i : Int) = x.1
      · obtain ⟨i, hi, e⟩ := hA2
        rcases h.gone i hi with h4 | h4
        · exact ⟨i, (hmem i).2 h4, e⟩
        · exact absurd (e ▸ h4) hx'.fr
      · exfalso
        have h5 := h.look x.1 (fun i hi e => hA2 ⟨i, hi, e⟩) hf
        rw [h5] at hlk
        rcases hq : lookD s.d x.1 with _ | q
        · exact hlk hq
        · exact hA2 (hd (x.1, q) (lookD_mem hq))
def Sto.putR (V : List Txt) (x : Item) (o : Option Rt) (s : Sto) : (Option Int × Option Rt) × Sto := match o with
  | none => match s.add (leafPg [x]) with
    | ((_, some e), s1) => ((some e, none), s1)
    | ((i, none), s1) => ((none, some ⟨0, (i.toNat, [x])⟩), s1)
  | some r => match s.putT V x r.d r.t with
    | ((some e, _), s1) => ((some e, some r), s1)
    | ((none, t', none), s1) => ((none, some ⟨r.d, t'⟩), s1)
    | ((none, t', some m), s1) => match s1.add (branchPg [[], m.1] [((T.id r.d t' : Nat) : Int), ((T.id r.d m.2 : Nat) : Int)]) with
      | ((_, some e), s2) => ((some e, some r), s2)
      | ((i, none), s2) => ((none, some ⟨r.d + 1, (i.toNat, [([], t'), m])⟩), s2)
def Rt.deep (o : Option Rt) : Nat := match o with | none => 0 | some r => r.d + 1
structure PutW (V : List Txt) (n : Int) (was : List Int) (x : Item) (s : Sto) (o : Option Rt) (s' : Sto) (o' : Option Rt) : Prop where
  wh : Whole V n was s' o'
  gr : Grow s s'
  it : Rt.items o' = insIt x (Rt.items o)
  some_ : ∃ r, o' = some r
  dirty : ∃ p, lookD s'.d ((Rt.root o' : Nat) : Int) = some p
  bnd : s'.d.length ≤ s.d.length + 2 * Rt.deep o'
  path : s.d = [] → s'.freed.length = s.freed.length + Rt.deep o ∧ Rt.deep o ≤ Rt.deep o' ∧ Rt.deep o ≤ s'.d.length
end
end Sp
end Go.Proofs.YtlpmjeiogdlifaaGreat
namespace Go.Proofs.YtlpmjeiogdlifaaGreat
open Go.RowKit
attribute [local go_sem low] mk_extract
attribute [local go_sem] After.cell After.frozen mk_extract_end ByteArray.mk_append_mk
namespace Sp
section
variable {V : List Txt} {n : Int} {was : List Int} {s : Sto} {o : Option Rt}
end
end Sp
end Go.Proofs.YtlpmjeiogdlifaaGreat
