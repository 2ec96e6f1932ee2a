/- A run of numbers side by side, in plain Lean. Long values, in plain Lean. Long values: how many pages, which sizes, the pieces. As many pages as may be, in plain Lean. Long values in a store of new pages, in plain Lean. -/
import Derived.Test.YtkcfmjlcijhieaaGreatQB21
import Derived.Test.YtkcfmjlcijhieaaGreatQB23
import Derived.Test.YtkcfmjlcijhieaaGreatQB24
import Derived.Test.YtkcfmjlcijhieaaGreatQB25
set_option linter.unusedSimpArgs false
set_option linter.unusedVariables false
namespace Go.Proofs.YtkcfmjlcijhieaaGreat
open Go.RowKit
attribute [local go_sem low] mk_extract
attribute [local go_sem] After.cell After.frozen mk_extract_end ByteArray.mk_append_mk
namespace Sp
theorem lookD_cons {α : Type} (x : Int × α) (D : List (Int × α)) (i : Int) : lookD (x :: D) i = if x.1 = i then some x.2 else lookD D i := by
  unfold lookD
  by_cases h : x.1 = i
  · rw [List.find?_cons_of_pos (by simpa using h), if_pos h]
    rfl
  · rw [List.find?_cons_of_neg (by simpa using h), if_neg h]
theorem lookD_map {α : Type} (i j : Int) (v : α) : ∀ D : List (Int × α), lookD (D.map fun x => if x.1 = i then (i, v) else x) j = if j = i then (lookD D i).map (fun _ => v) else lookD D j
  | [] => by
    by_cases h : j = i
    · rw [if_pos h]; rfl
    · rw [if_neg h]; rfl
  | x :: D => by
    rw [List.map_cons, lookD_cons, lookD_map i j v D, lookD_cons, lookD_cons]
    by_cases hj : j = i
    · subst hj
      by_cases hx : x.1 = j
      · simp [hx]
      · simp [hx]
    · by_cases hx : x.1 = i
      · have : i ≠ j := fun e => hj e.symm
        simp [hx, hj, this]
      · simp [hx, hj]
theorem lookD_put {α : Type} (D : List (Int × α)) (i j : Int) (v : α) : lookD (putD D i v) j = if j = i then some v else lookD D j := by
  unfold putD
  by_cases h : (lookD D i).isSome
  · rw [if_pos h, lookD_map]
    obtain ⟨q, hq⟩ := Option.isSome_iff_exists.1 h
    rw [hq]
    rfl
  · rw [if_neg h]
    have h0 : lookD D i = none := by simpa using h
    unfold lookD at h0 ⊢
    rw [List.find?_append]
    by_cases hj : j = i
    · subst hj
      have : D.find? (fun x => x.1 == j) = none := by simpa using h0
      rw [this, if_pos rfl]
      simp
    · rw [if_neg hj]
      have : ([(i, v)] : List (Int × α)).find? (fun x => x.1 == j) = none := by
        rw [List.find?_cons_of_neg (by simpa using fun e => hj e.symm)]
        rfl
      rw [this, Option.or_none]
theorem lookD_run (d : List (Int × Page)) (id : Int) : ∀ (k : Nat) (x : Int), lookD (runD d id k) x = if id ≤ x ∧ x < id + k then some pg0 else lookD d x
  | 0, x => by rw [if_neg (by omega)]; rfl
  | k + 1, x => by
    show lookD (putD (runD d id k) (id + k) pg0) x = _
    rw [lookD_put, lookD_run d id k x]
    by_cases h : x = id + k
    · rw [if_pos h, if_pos (by omega)]
    · rw [if_neg h]
      by_cases h2 : id ≤ x ∧ x < id + k
      · rw [if_pos h2, if_pos (by omega)]
      · rw [if_neg h2, if_neg (by omega)]
theorem runD_len {d : List (Int × Page)} {id : Int} : ∀ {k : Nat}, (∀ j : Nat, j < k → lookD d (id + j) = none) → (runD d id k).length = d.length + k
  | 0, _ => rfl
  | k + 1, h => by
    show (putD (runD d id k) (id + k) pg0).length = _
    have e : lookD (runD d id k) (id + k) = none := by
      rw [lookD_run, if_neg (by omega)]
      exact h k (by omega)
    unfold putD
    rw [e, if_neg (by simp), List.length_append, runD_len fun j hj => h j (by omega)]
    rfl
def fitB (F k i : Nat) : Bool := decide (i + k ≤ 16) && (List.range k).all fun j => F / 2 ^ (i + j) % 2 == 1
def wantAt (F k c : Nat) : Int := match (List.range' c (16 - c)).find? (fitB F k) with
  | some i => 2 + (i : Int)
  | none => 18
theorem wantAt_end (F k : Nat) : wantAt F k 16 = 18 := rfl
theorem wantAt_step {F k c : Nat} (h : c < 16) : wantAt F k c = if fitB F k c then 2 + (c : Int) else wantAt F k (c + 1) := by
  unfold wantAt
  rw [show 16 - c = (16 - (c + 1)) + 1 from by omega, List.range'_succ]
  by_cases hf : fitB F k c
  · rw [List.find?_cons_of_pos hf, if_pos hf]
  · rw [List.find?_cons_of_neg hf, if_neg hf]
theorem mem_bits {F i : Nat} {x : Int} : x ∈ bitsTo F i ↔ ∃ j : Nat, j < i ∧ F / 2 ^ j % 2 = 1 ∧ x = 2 + (j : Int) := by
  unfold bitsTo
  constructor
  · intro h
    obtain ⟨j, hj, e⟩ := List.mem_map.1 h
    obtain ⟨h1, h2⟩ := List.mem_filter.1 hj
    exact ⟨j, List.mem_range.1 h1, by simpa using h2, e.symm⟩
  · rintro ⟨j, h1, h2, rfl⟩
    exact List.mem_map.2 ⟨j, List.mem_filter.2 ⟨List.mem_range.2 h1, by simpa using h2⟩, rfl⟩
theorem getD_up {L : List Int} (h : L.Pairwise (· < ·)) {i j : Nat} (hij : i < j) (hj : j < L.length) : L.getD i 0 < L.getD j 0 := by
  have := List.pairwise_iff_getElem.1 h i j (by omega) hj hij
  rw [List.getD_eq_getElem?_getD, List.getD_eq_getElem?_getD, List.getElem?_eq_getElem hj, List.getElem?_eq_getElem (show i < L.length by omega)]
  exact this
theorem getD_mem {L : List Int} {x : Int} (h : x ∈ L) : ∃ i, i < L.length ∧ L.getD i 0 = x := by
  obtain ⟨i, hi, e⟩ := List.getElem_of_mem h
  exact ⟨i, hi, by rw [List.getD_eq_getElem?_getD, List.getElem?_eq_getElem hi]; exact e⟩
theorem mem_getD {L : List Int} {i : Nat} (h : i < L.length) : L.getD i 0 ∈ L := by
  rw [List.getD_eq_getElem?_getD, List.getElem?_eq_getElem h]
  exact List.getElem_mem h
theorem run_at {L : List Int} (hp : L.Pairwise (· < ·)) {x : Int} {k : Nat} (hk : 1 ≤ k) (h : ∀ m : Nat, m < k → x + m ∈ L) : ∃ i, i < L.length ∧ L.getD i 0 = x ∧ runAt L k i = true := by
  have h0 := h 0 (by omega)
  rw [Int.natCast_zero, Int.add_zero] at h0
  obtain ⟨i, hi, e⟩ := getD_mem h0
  have hs : ∀ m : Nat, m < k → i + m < L.length ∧ L.getD (i + m) 0 = x + m := by
    intro m
    induction m with
    | zero => intro _; rw [Nat.add_zero, Int.natCast_zero, Int.add_zero]; exact ⟨hi, e⟩
    | succ m ih =>
      intro hm
      obtain ⟨h1, h2⟩ := ih (by omega)
      obtain ⟨j, hj, e3⟩ := getD_mem (h (m + 1) hm)
      have hgt : i + m < j := by
        rcases Nat.lt_trichotomy (i + m) j with h' | h' | h'
        · exact h'
        · subst h'; omega
        · have := getD_up hp h' h1; omega
      have h4 := getD_up hp (i := i + m) (j := i + (m + 1)) (by omega) (by omega)
      refine ⟨by omega, ?_⟩
      rcases Nat.lt_or_ge (i + (m + 1)) j with h' | h'
      · have := getD_up hp h' hj; omega
      · have : i + (m + 1) = j := by omega
        rw [this]; exact e3
  exact ⟨i, hi, e, runAt_iff.2 fun m hm => by obtain ⟨h1, h2⟩ := hs m hm; exact ⟨h1, by omega⟩⟩
theorem fit_mem {F k i : Nat} (h : fitB F k i = true) (m : Nat) (hm : m < k) : 2 + (i : Int) + m ∈ bitsTo F 16 := by
  unfold fitB at h
  rw [Bool.and_eq_true, List.all_eq_true] at h
  have h1 := of_decide_eq_true h.1
  have h2 := h.2 m (List.mem_range.2 hm)
  exact mem_bits.2 ⟨i + m, by omega, by simpa using h2, by omega⟩
theorem run_fit {F k i : Nat} (hk : 1 ≤ k) (hr : runAt (bitsTo F 16) k i = true) : ∃ j : Nat, j < 16 ∧ (bitsTo F 16).getD i 0 = 2 + (j : Int) ∧ fitB F k j = true := by
  have h := runAt_iff.1 hr
  obtain ⟨h1, _⟩ := h 0 (by omega)
  rw [Nat.add_zero] at h1
  obtain ⟨j, hj, hb, e⟩ := mem_bits.1 (mem_getD h1)
  have hall : ∀ m : Nat, m < k → j + m < 16 ∧ F / 2 ^ (j + m) % 2 = 1 := fun m hm => by
    obtain ⟨h3, h4⟩ := h m hm
    obtain ⟨j2, hj2, hb2, e2⟩ := mem_bits.1 (mem_getD h3)
    have : j2 = j + m := by omega
    rw [← this]
    exact ⟨hj2, hb2⟩
  refine ⟨j, hj, e, ?_⟩
  unfold fitB
  rw [Bool.and_eq_true, List.all_eq_true]
  have := (hall (k - 1) (by omega)).1
  exact ⟨decide_eq_true (by omega), fun m hm => by simpa using (hall m (List.mem_range.1 hm)).2⟩
theorem run_bits {F k : Nat} (hk : 1 ≤ k) : runI (bitsTo F 16) k = ((List.range' 0 16).find? (fitB F k)).map fun i : Nat => 2 + (i : Int) := by
  have hp := (bitsTo_rng (free := F) (i := 16)).1
  rcases hf : (List.range' 0 16).find? (fitB F k) with _ | i
  · refine runI_none fun i hi => ?_
    rcases hr : runAt (bitsTo F 16) k i with _ | _
    · rfl
    · obtain ⟨j, hj, _, h2⟩ := run_fit hk hr
      have := List.find?_eq_none.1 hf j (List.mem_range'_1.2 ⟨by omega, by omega⟩)
      exact absurd h2 this
  · have h1 := List.find?_some hf
    obtain ⟨x, hx, e, hr⟩ := run_at hp hk (fit_mem h1)
    have := runI_first (l := bitsTo F 16) (n := k) (j := x) (by omega) hx (fun y hy => by
      rcases hr2 : runAt (bitsTo F 16) k y with _ | _
      · rfl
      · obtain ⟨j, hj, e2, h2⟩ := run_fit hk hr2
        have hlt := getD_up hp hy hx
        have hji : j < i := by omega
        obtain ⟨_, la, lb, e3, h3⟩ := List.find?_eq_some_iff_append.1 hf
        have hm : j ∈ la := by
          have hjr : j ∈ List.range' 0 16 := List.mem_range'_1.2 ⟨by omega, by omega⟩
          have hpw : (List.range' 0 16).Pairwise (· < ·) := List.pairwise_lt_range'
          rw [e3] at hjr hpw
          rcases List.mem_append.1 hjr with h | h
          · exact h
          · rcases List.mem_cons.1 h with h | h
            · omega
            · have := (List.pairwise_cons.1 (List.pairwise_append.1 hpw).2.1).1 j h
              omega
        have := h3 j hm
        rw [h2] at this
        cases this) hr
    rw [this, e]
    rfl
theorem wantAt_rng {F k : Nat} (hk : k ≤ 5) : 2 ≤ wantAt F k 0 ∧ (wantAt F k 0 + k ≤ 18 ∨ wantAt F k 0 = 18) := by
  unfold wantAt
  rcases hf : (List.range' 0 (16 - 0)).find? (fitB F k) with _ | i
  · exact ⟨by decide, .inr rfl⟩
  · have h1 := List.find?_some hf
    unfold fitB at h1
    rw [Bool.and_eq_true] at h1
    have := of_decide_eq_true h1.1
    refine ⟨?_, .inl ?_⟩
    · show 2 ≤ 2 + (i : Int)
      omega
    · show 2 + (i : Int) + k ≤ 18
      omega
/-- A run, some of whose pages are filled. -/
structure Ran (F k i : Nat) (s : Sto) : Prop where
  ok : s.Ok
  most : s.most = 400
  last : s.last = max 18 (wantAt F k 0 + k)
  look : ∀ m : Nat, m < k → lookD s.d (wantAt F k 0 + m) = some (if m < i then lfPg [107] else pg0)
  len : s.d.length = k
theorem run_ran {F k : Nat} {s : Sto} (h1 : 1 ≤ k) (h5 : k ≤ 5) (hok : s.Ok) (ha : s.avail = bitsTo F 16) (hl : s.last = 18) (hm : s.most = 400) (hd : s.d = []) : ∃ s1, s.run k = ((wantAt F k 0, none), s1) ∧ Ran F k 0 s1 := by
  have hw := wantAt_rng (F := F) h5
  have hok2 := hok.run k
  have hlook : ∀ m : Nat, m < k → lookD (runD [] (wantAt F k 0) k) (wantAt F k 0 + m) = some (if m < 0 then lfPg [107] else pg0) := fun m hm => by
    rw [lookD_run, if_pos (by omega), if_neg (Nat.not_lt_zero m)]
  have hlen : (runD [] (wantAt F k 0) k).length = k := by
    rw [runD_len fun j _ => rfl]
    exact Nat.zero_add k
  have hrb := run_bits (F := F) h1
  rw [s.run_mid k (by omega) (by omega)] at hok2 ⊢
  unfold Sto.numbers at hok2 ⊢
  rw [if_neg (by rw [hd]; simp only [List.length_nil]; omega), ha, hrb] at hok2 ⊢
  unfold wantAt at hw hlook hlen ⊢
  rw [show 16 - 0 = 16 from rfl] at hw hlook hlen ⊢
  rcases hf : (List.range' 0 16).find? (fitB F k) with _ | i
  · rw [hf] at hw hlook hlen hok2
    simp only [Option.map_none] at hok2 ⊢
    rw [if_neg (by omega)] at hok2 ⊢
    rw [hl, hd] at hok2 ⊢
    refine ⟨_, rfl, hok2, hm, ?_, ?_, ?_⟩
    · show (18 : Int) + k = _
      unfold wantAt
      rw [show 16 - 0 = 16 from rfl, hf]
      show (18 : Int) + k = max 18 (18 + (k : Int))
      omega
    · unfold wantAt
      rw [show 16 - 0 = 16 from rfl, hf]
      exact hlook
    · exact hlen
  · rw [hf] at hw hlook hlen hok2
    simp only [Option.map_some] at hok2 ⊢
    rw [hd] at hok2 ⊢
    refine ⟨_, rfl, hok2, hm, ?_, ?_, ?_⟩
    · show s.last = _
      unfold wantAt
      rw [show 16 - 0 = 16 from rfl, hf]
      show s.last = max 18 (2 + (i : Int) + k)
      have hw2 : 2 + (i : Int) + k ≤ 18 ∨ 2 + (i : Int) = 18 := hw.2
      have hfit := List.find?_some hf
      unfold fitB at hfit
      rw [Bool.and_eq_true] at hfit
      have := of_decide_eq_true hfit.1
      omega
    · unfold wantAt
      rw [show 16 - 0 = 16 from rfl, hf]
      exact hlook
    · exact hlen
theorem Ran.rd {F k i : Nat} {s : Sto} (h : Ran F k i s) (h5 : k ≤ 5) (V : List Txt) {m : Nat} (hm : m < k) : s.read V (wantAt F k 0 + m) = if m < i then (lfPg [107], none) else (pg0, some 12) := by
  have hw := wantAt_rng (F := F) h5
  have hmo := h.most
  unfold Sto.read
  rw [if_neg (by omega), h.look m hm]
  by_cases hi : m < i
  · rw [if_pos hi, if_pos hi]
    rfl
  · rw [if_neg hi, if_neg hi]
    rfl
theorem Ran.fill {F k i : Nat} {s : Sto} (h : Ran F k i s) (hi : i < k) : ∃ s1, s.set_ (wantAt F k 0 + i) (lfPg [107]) = (none, s1) ∧ Ran F k (i + 1) s1 := by
  have hl := h.look i hi
  have hs : (lookD s.d (wantAt F k 0 + i)).isSome = true := by rw [hl]; rfl
  have hok := h.ok.set_ (wantAt F k 0 + i) (lfPg [107])
  unfold Sto.set_ at hok ⊢
  rw [if_pos ⟨hs, lf_k⟩] at hok ⊢
  refine ⟨_, rfl, hok, h.most, h.last, fun m hm => ?_, ?_⟩
  · show lookD (putD s.d (wantAt F k 0 + i) (lfPg [107])) (wantAt F k 0 + m) = _
    rw [lookD_put]
    by_cases e : m = i
    · subst e
      rw [if_pos rfl, if_pos (by omega)]
    · rw [if_neg (by omega), h.look m hm]
      by_cases h2 : m < i
      · rw [if_pos h2, if_pos (by omega)]
      · rw [if_neg h2, if_neg (by omega)]
  · show (putD s.d (wantAt F k 0 + i) (lfPg [107])).length = k
    rw [putD_has hs, h.len]
theorem Sto.run_zero (s : Sto) : s.run 0 = ((0, some 10), s) := rfl
end Sp
end Go.Proofs.YtkcfmjlcijhieaaGreat
namespace Go.Proofs.YtkcfmjlcijhieaaGreat
open Go.RowKit
attribute [local go_sem low] mk_extract
attribute [local go_sem] After.cell After.frozen mk_extract_end ByteArray.mk_append_mk
namespace Sp
/-- A page of a long value. -/
def ovPg (t : Txt) : Page := ⟨3, [], [], [], t, [], [], 0, mt0⟩
theorem ov_is {t : Txt} (h1 : 1 ≤ t.length) (h2 : t.length ≤ 100) : isPage (ovPg t) = true := by
  have h0 : t ≠ [] := fun e => by rw [e] at h1; simp at h1
  simp [isPage, ovPg, has, h0, h2]
def cntO (n : Int) : Nat := if n < 1 then 0 else ((n - 1) / 100 + 1).toNat
theorem cntO_nat {n : Nat} : cntO n = (n + 99) / 100 := by
  unfold cntO
  by_cases h : (n : Int) < 1
  · rw [if_pos h]; omega
  · rw [if_neg h]; omega
def longB (n : Int) : Bool := decide (12 < n) && decide (n ≤ 1000)
theorem longB_iff {n : Int} : longB n = true ↔ 12 < n ∧ n ≤ 1000 := by
  unfold longB
  rw [Bool.and_eq_true, decide_eq_true_iff, decide_eq_true_iff]
def piece (T : Txt) (k : Nat) : Txt := (T.drop (100 * k)).take 100
theorem piece_len (T : Txt) (k : Nat) : (piece T k).length = min 100 (T.length - 100 * k) := by
  unfold piece
  rw [List.length_take, List.length_drop]
theorem piece_is {T : Txt} {k : Nat} (h : 100 * k < T.length) : isPage (ovPg (piece T k)) = true :=
  ov_is (by rw [piece_len]; omega) (by rw [piece_len]; omega)
theorem piece_take (T : Txt) (k : Nat) : T.take (100 * k) ++ piece T k = T.take (100 * (k + 1)) := by
  unfold piece
  rw [show 100 * (k + 1) = 100 * k + 100 from by omega, List.take_add]
/-- Pages that were made take pieces. -/
def fillD (d : List (Int × Page)) (id : Int) (T : Txt) : Nat → List (Int × Page)
  | 0 => d
  | k + 1 => putD (fillD d id T k) (id + k) (ovPg (piece T k))
def Sto.write (s : Sto) (T : Txt) : (Int × Option Int) × Sto :=
  if longB T.length = false then ((0, some 22), s) else match s.run (cntO T.length) with
    | ((id, none), s1) => ((id, none), { s1 with d := fillD s1.d id T (cntO T.length) })
    | ((_, some e), s1) => ((0, some e), s1)
def readTo (s : Sto) (V : List Txt) (run n : Int) : Nat → Txt × Option Int
  | 0 => ([], none)
  | k + 1 => match readTo s V run n k with
    | (_, some e) => ([], some e)
    | (t, none) => match s.read V (run + k) with
      | (_, some e) => ([], some e)
      | (p, none) => if p.kind = 3 ∧ (p.text.length : Int) = min (n - 100 * k) 100 then (t ++ p.text, none) else ([], some 12)
def Sto.readO (s : Sto) (V : List Txt) (run n : Int) : Txt × Option Int := if longB n = false then ([], some 22) else readTo s V run n (cntO n)
theorem readTo_bad {s : Sto} {V : List Txt} {run n e : Int} {k : Nat} (h : readTo s V run n k = ([], some e)) : ∀ {j : Nat}, k ≤ j → readTo s V run n j = ([], some e)
  | j, hj => by
    induction j with
    | zero => obtain rfl : k = 0 := by omega
              exact h
    | succ j ih =>
      by_cases hk : k = j + 1
      · subst hk; exact h
      · have := ih (by omega)
        unfold readTo
        rw [this]
def dropTo (s : Sto) (run : Int) : Nat → Sto
  | 0 => s
  | k + 1 => (dropTo s run k).drop (run + k)
theorem fillD_keys {d : List (Int × Page)} {id : Int} {T : Txt} : ∀ {k : Nat}, (∀ j : Nat, j < k → (lookD d (id + j)).isSome = true) → (fillD d id T k).map (·.1) = d.map (·.1)
  | 0, _ => rfl
  | k + 1, h => by
    have ih := fillD_keys (d := d) (id := id) (T := T) (k := k) fun j hj => h j (by omega)
    show (putD (fillD d id T k) (id + k) _).map (·.1) = _
    rw [putD_keys, if_pos, ih]
    have h1 := h k (by omega)
    rcases hl : lookD (fillD d id T k) (id + k) with _ | q
    · rcases hq : lookD d (id + k) with _ | q
      · rw [hq] at h1; cases h1
      · have hm : id + (k : Int) ∈ d.map (·.1) := List.mem_map.2 ⟨_, lookD_mem hq, rfl⟩
        rw [← ih] at hm
        obtain ⟨x, hx, e⟩ := List.mem_map.1 hm
        exact absurd e (lookD_none.1 hl x hx)
    · rfl
theorem lookD_fill (d : List (Int × Page)) (id : Int) (T : Txt) : ∀ (k : Nat) (x : Int), lookD (fillD d id T k) x = if id ≤ x ∧ x < id + k then some (ovPg (piece T (x - id).toNat)) else lookD d x
  | 0, x => by rw [if_neg (by omega)]; rfl
  | k + 1, x => by
    show lookD (putD (fillD d id T k) (id + k) (ovPg (piece T k))) x = _
    rw [lookD_put, lookD_fill d id T k x]
    by_cases h : x = id + k
    · rw [if_pos h, if_pos (by omega), show (x - id).toNat = k from by omega]
    · rw [if_neg h]
      by_cases h2 : id ≤ x ∧ x < id + k
      · rw [if_pos h2, if_pos (by omega)]
      · rw [if_neg h2, if_neg (by omega)]
end Sp
end Go.Proofs.YtkcfmjlcijhieaaGreat
namespace Go.Proofs.YtkcfmjlcijhieaaGreat
open Go.RowKit
attribute [local go_sem low] mk_extract
attribute [local go_sem] After.cell After.frozen mk_extract_end ByteArray.mk_append_mk
open Go.Conc
set_option maxRecDepth 100000 in
set_option maxHeartbeats 1600000 in
theorem count_any (n : Int) (w : World) (h0 : -1000000 ≤ n) (h1 : n ≤ 1000000) :
    Calls Tryz.prog 46 #[.int .i64 n] w fun e w' => e = .returned (.int .i64 (Sp.cntO n)) ∧ w = w' := by
  by_cases h : n < 1
  · have HC := Lib.hid (show Sp.cntO n = 0 from if_pos h)
    go_enter Tryz.func46, Tryz.ntmps46
    go_wp2_with fail
    go_ret
    rw [HC.out]
    exact ⟨by simp, rfl⟩
  · have HC := Lib.hid (show Sp.cntO n = ((n - 1) / 100 + 1).toNat from if_neg h)
    have hq : (n - 1).tdiv 100 = (n - 1) / 100 := Int.tdiv_eq_ediv_of_nonneg (by omega)
    go_enter Tryz.func46, Tryz.ntmps46
    go_wp2_with fail
    go_ret
    rw [HC.out]
    refine ⟨?_, rfl⟩
    have : ((((n - 1) / 100 + 1).toNat : Nat) : Int) = (n - 1) / 100 + 1 := by omega
    rw [this]
    rfl
theorem longB_no1 {n : Int} (h : ¬ 12 < n) : Sp.longB n = false := by
  rcases hb : Sp.longB n with _ | _
  · rfl
  · exact absurd (Sp.longB_iff.1 hb).1 h
theorem longB_no2 {n : Int} (h : ¬ n ≤ 1000) : Sp.longB n = false := by
  rcases hb : Sp.longB n with _ | _
  · rfl
  · exact absurd (Sp.longB_iff.1 hb).2 h
set_option maxRecDepth 100000 in
set_option maxHeartbeats 1600000 in
theorem isLong_any (n : Int) (w : World) :
    Calls Tryz.prog 78 #[.int .i64 n] w fun e w' => e = .returned (.bool (Sp.longB n)) ∧ w = w' := by
  by_cases h : 12 < n
  · by_cases h2 : n ≤ 1000
    · have HL := Lib.hid (Sp.longB_iff.2 ⟨h, h2⟩)
      go_enter Tryz.func78, Tryz.ntmps78
      go_wp2_with fail
      go_ret
      rw [HL.out]
      exact ⟨by simp, rfl⟩
    · have HL := Lib.hid (longB_no2 h2)
      go_enter Tryz.func78, Tryz.ntmps78
      go_wp2_with fail
      go_ret
      rw [HL.out]
      exact ⟨by simp, rfl⟩
  · have HL := Lib.hid (longB_no1 h)
    go_enter Tryz.func78, Tryz.ntmps78
    go_wp2_with fail
    go_ret
    rw [HL.out]
    exact ⟨by simp, rfl⟩
theorem slice_take (R : Txt) (n : Int) (h0 : 0 ≤ n) (hn : n ≤ R.length) (hn2 : R.take n.toNat = R.take 100) (w : World) : (Instr.slice 9 (.string ⟨R.toArray⟩) none (some (.int .i64 n)) none).run Tryz.prog w = .ok (.string ⟨(R.take 100).toArray⟩) w := by
  rw [run_slice_string_to_if w 9 ⟨R.toArray⟩ .i64 n Tryz.underlying9]
  rw [if_pos ⟨h0, (show n ≤ ((ByteArray.mk R.toArray).size : Int) from hn)⟩, mk_extract, List.drop_zero, Nat.sub_zero, hn2]
theorem mkChanT0 (w : World) : (Instr.makeChan 178 (.int .i64 0)).run Tryz.prog w = .ok (.chan (some w.heap.size)) (w.alloc (.chan 0 #[] false 0 0 false)) := by kernel_rfl
theorem mkChanT1 (w : World) : (Instr.makeChan 178 (.int .i64 1)).run Tryz.prog w = .ok (.chan (some w.heap.size)) (w.alloc (.chan 1 #[] false 0 0 false)) := by kernel_rfl
theorem mkChanT2 (w : World) : (Instr.makeChan 178 (.int .i64 2)).run Tryz.prog w = .ok (.chan (some w.heap.size)) (w.alloc (.chan 2 #[] false 0 0 false)) := by kernel_rfl
theorem mkChanT3 (w : World) : (Instr.makeChan 178 (.int .i64 3)).run Tryz.prog w = .ok (.chan (some w.heap.size)) (w.alloc (.chan 3 #[] false 0 0 false)) := by kernel_rfl
theorem mkChanT4 (w : World) : (Instr.makeChan 178 (.int .i64 4)).run Tryz.prog w = .ok (.chan (some w.heap.size)) (w.alloc (.chan 4 #[] false 0 0 false)) := by kernel_rfl
theorem mkChanT5 (w : World) : (Instr.makeChan 178 (.int .i64 5)).run Tryz.prog w = .ok (.chan (some w.heap.size)) (w.alloc (.chan 5 #[] false 0 0 false)) := by kernel_rfl
theorem mkChanT6 (w : World) : (Instr.makeChan 178 (.int .i64 6)).run Tryz.prog w = .ok (.chan (some w.heap.size)) (w.alloc (.chan 6 #[] false 0 0 false)) := by kernel_rfl
theorem mkChanT7 (w : World) : (Instr.makeChan 178 (.int .i64 7)).run Tryz.prog w = .ok (.chan (some w.heap.size)) (w.alloc (.chan 7 #[] false 0 0 false)) := by kernel_rfl
theorem mkChanT8 (w : World) : (Instr.makeChan 178 (.int .i64 8)).run Tryz.prog w = .ok (.chan (some w.heap.size)) (w.alloc (.chan 8 #[] false 0 0 false)) := by kernel_rfl
theorem mkChanT9 (w : World) : (Instr.makeChan 178 (.int .i64 9)).run Tryz.prog w = .ok (.chan (some w.heap.size)) (w.alloc (.chan 9 #[] false 0 0 false)) := by kernel_rfl
theorem mkChanT10 (w : World) : (Instr.makeChan 178 (.int .i64 10)).run Tryz.prog w = .ok (.chan (some w.heap.size)) (w.alloc (.chan 10 #[] false 0 0 false)) := by kernel_rfl
theorem mkChanT (n : Nat) (h : n ≤ 10) (w : World) : (Instr.makeChan 178 (.int .i64 n)).run Tryz.prog w = .ok (.chan (some w.heap.size)) (w.alloc (.chan n #[] false 0 0 false)) := by
  have h2 : n = 0 ∨ n = 1 ∨ n = 2 ∨ n = 3 ∨ n = 4 ∨ n = 5 ∨ n = 6 ∨ n = 7 ∨ n = 8 ∨ n = 9 ∨ n = 10 := by omega
  rcases h2 with rfl | rfl | rfl | rfl | rfl | rfl | rfl | rfl | rfl | rfl | rfl
  · exact mkChanT0 w
  · exact mkChanT1 w
  · exact mkChanT2 w
  · exact mkChanT3 w
  · exact mkChanT4 w
  · exact mkChanT5 w
  · exact mkChanT6 w
  · exact mkChanT7 w
  · exact mkChanT8 w
  · exact mkChanT9 w
  · exact mkChanT10 w
def strLen : Value → Nat
  | .string s => s.size
  | _ => 0
/-- The pieces that are sent so far. -/
def pcs (T : Txt) (k : Nat) : Array Value := ((List.range k).map fun j => tv (Sp.piece T j)).toArray
theorem pcs_succ (T : Txt) (k : Nat) : pcs T (k + 1) = (pcs T k).push (tv (Sp.piece T k)) := by
  unfold pcs
  rw [List.range_succ, List.map_append]
  simp
theorem pcs_size (T : Txt) (k : Nat) : (pcs T k).size = k := by simp [pcs]
set_option maxRecDepth 100000 in
set_option maxHeartbeats 1600000 in
theorem pieces_any (T : Txt) (hT : T.length ≤ 1000) (w : World) :
    Calls Tryz.prog 79 #[.string ⟨T.toArray⟩] w fun e w' => ∃ c cap sq qq, e = .returned (.chan (some c)) ∧ w.heap.size ≤ c ∧ w'.heap[c]? = some (.chan cap (pcs T (Sp.cntO T.length)) false sq qq false) ∧ Below w.heap.size w w' := by
  have hcb : Sp.cntO T.length ≤ 10 := by rw [Sp.cntO_nat]; omega
  have HCN := Lib.hid (show T.length ≤ 100 * Sp.cntO T.length ∧ 100 * Sp.cntO T.length < T.length + 100 from by rw [Sp.cntO_nat]; omega)
  have hmk := fun w => mkChanT (Sp.cntO T.length) hcb w
  have HC := Lib.hid (count_any T.length w (by omega) (by omega))
  generalize Sp.cntO T.length = c at *
  go_enter Tryz.func79, Tryz.ntmps79
  go_upto_region 2 with (go_at_call 46; refine HC.out.mono ?_; rintro e w1 ⟨rfl, rfl⟩)
  have hb1 : Below w.heap.size w (w.alloc (.chan c #[] false 0 0 false)) := (Below.refl _ _).alloc (Nat.le_refl _) _
  have hch1 : ∃ s q, (w.alloc (.chan c #[] false 0 0 false)).heap[w.heap.size]? = some (.chan c (pcs T 0) false s q false) := ⟨0, 0, heap_alloc_new w _⟩
  have hcw : w.heap.size < (w.alloc (.chan c #[] false 0 0 false)).heap.size := by rw [World.size_alloc]; omega
  have HB := Lib.hid hb1
  have HCH := Lib.hid hch1
  have HCW := Lib.hid hcw
  clear hb1 hch1 hcw hmk
  generalize w.alloc (.chan c #[] false 0 0 false) = W1 at *
  go_loopw [0] (fun v wr => ∃ k : Nat, k ≤ c ∧ v = .string ⟨(T.drop (100 * k)).toArray⟩ ∧ Below w.heap.size w wr ∧ w.heap.size < wr.heap.size ∧ ∃ s q, wr.heap[w.heap.size]? = some (.chan c (pcs T k) false s q false)) (fun v _ => strLen v)
  case atStart => exact ⟨0, by omega, rfl, HB.out, HCW.out, HCH.out⟩
  case round =>
    obtain ⟨k, hk, rfl, hb, hcw, hch⟩ := hrel
    have B := Lib.hid hb
    have CW := Lib.hid hcw
    have CH := Lib.hid hch
    clear hb hcw hch HB HCH HCW
    by_cases hkc : k < c
    · have hlt : 100 * k < T.length := by have := HCN.out; omega
      have HP := Lib.hid (show (T.drop (100 * k)).take 100 = Sp.piece T k from rfl)
      have HD := Lib.hid (show (T.drop (100 * k)).drop 100 = T.drop (100 * (k + 1)) from by rw [List.drop_drop]; congr 1)
      have hRl : (T.drop (100 * k)).length = T.length - 100 * k := by rw [List.length_drop]
      generalize T.drop (100 * k) = R at *
      have hR0 : R.isEmpty = false := by
        rcases R with _ | _
        · simp at hRl; omega
        · rfl
      have hRn : 0 < R.length := by omega
      clear hRl
      have HDR := Lib.hid (show R.drop (min (R.length : Int) 100).toNat = R.drop 100 from by
        by_cases h : R.length ≤ 100
        · rw [List.drop_eq_nil_of_le (by omega), List.drop_eq_nil_of_le h]
        · congr 1; omega)
      go_upto_region 4 with fail
      obtain ⟨sq, qq, hc⟩ := CH.out
      have HSL := Lib.hid (slice_take R (min (R.length : Int) 100) (by omega) (by omega) (by
        by_cases h : R.length ≤ 100
        · rw [List.take_of_length_le (by omega), List.take_of_length_le h]
        · congr 1; omega) wr)
      refine InReg.region ?_
      show InReg _ _ _ [0, 1, 2, 3, 4] _ _
      refine InReg.val (w' := wr) (v := .chan (some w.heap.size)) rfl rfl (by simp [go_sem, execOp, Act.eval]) ?_
      refine InReg.val (w' := wr) (v := .string ⟨R.toArray⟩) rfl rfl (by simp [go_sem, execOp, Act.eval, Act.put]) ?_
      refine InReg.val (w' := wr) (v := .int .i64 (min (R.length : Int) 100)) rfl rfl (by simp [go_sem, execOp, Act.eval, Act.put]) ?_
      refine InReg.val (w' := wr) (v := .string ⟨(R.take 100).toArray⟩) rfl rfl (by
        have h := HSL.out
        simp [go_sem, execOp, Act.eval, Act.put, h]) ?_
      refine InReg.send (w' := wr) (c := w.heap.size) (v := .string ⟨(R.take 100).toArray⟩) (z := .tuple #[]) rfl rfl (by simp [go_sem, execOp, scase, Act.eval, Act.put]) hc (by rw [pcs_size]; exact hkc) ?_
      refine InReg.nil ?_
      have hpu : (pcs T k).push (.string ⟨(R.take 100).toArray⟩) = pcs T (k + 1) := by rw [pcs_succ, HP.out]; rfl
      rw [hpu]
      have HB3 := Lib.hid (below_setChan B.out (Nat.le_refl _) c (pcs T (k + 1)) false (sq + 1) qq false)
      have HCH3 := Lib.hid (show ∃ s q, (wr.setChan w.heap.size c (pcs T (k + 1)) false (sq + 1) qq false).heap[w.heap.size]? = some (.chan c (pcs T (k + 1)) false s q false) from ⟨sq + 1, qq, heap_setChan _ _ _ _ _ _ _ _ CW.out⟩)
      have HCW3 := Lib.hid (show w.heap.size < (wr.setChan w.heap.size c (pcs T (k + 1)) false (sq + 1) qq false).heap.size from by rw [size_setChan]; exact CW.out)
      clear hpu hc CH CW B HSL
      generalize wr.setChan w.heap.size c (pcs T (k + 1)) false (sq + 1) qq false = W3 at *
      go_wp2_with fail
      go_roundw
      case rel => exact ⟨k + 1, by omega, by rw [← HD.out, ← HDR.out], HB3.out, HCW3.out, HCH3.out⟩
      case measure =>
        show (R.drop (min (R.length : Int) 100).toNat).length < R.length
        rw [List.length_drop]
        omega
    · obtain rfl : k = c := by omega
      have HNIL := Lib.hid (show T.drop (100 * k) = [] from List.drop_eq_nil_of_le HCN.out.1)
      rw [HNIL.out]
      go_wp2_with fail
      go_ret
      obtain ⟨sq, qq, hc⟩ := CH.out
      exact ⟨w.heap.size, k, sq, qq, by simp, Nat.le_refl _, hc, B.out⟩
end Go.Proofs.YtkcfmjlcijhieaaGreat
namespace Go.Proofs.YtkcfmjlcijhieaaGreat
open Go.RowKit
attribute [local go_sem low] mk_extract
attribute [local go_sem] After.cell After.frozen mk_extract_end ByteArray.mk_append_mk
namespace Sp
theorem putD_new {α : Type} {D : List (Int × α)} {i : Int} {v : α} (h : lookD D i = none) : putD D i v = D ++ [(i, v)] := by
  unfold putD
  rw [if_neg (by rw [h]; simp)]
theorem delD_one {α : Type} {D : List (Int × α)} {i : Int} {v : α} (hn : (D.map (·.1)).Nodup) (h : lookD D i = some v) : (delD D i).length + 1 = D.length := by
  have hm := lookD_mem h
  obtain ⟨j, hj, e⟩ := List.getElem_of_mem hm
  rw [delD_at (v := v) (j := j) hn (by rw [List.getElem?_eq_getElem hj, e]), List.length_eraseIdx, if_pos hj]
  omega
/-- So many pages are made. -/
structure Full (k : Nat) (s : Sto) : Prop where
  ok : s.Ok
  avail : s.avail = []
  freed : s.freed = []
  last : s.last = 2 + k
  most : s.most = 400
  keys : s.d.map (·.1) = (List.range k).map fun j : Nat => 2 + (j : Int)
theorem Full.len {k : Nat} {s : Sto} (h : Full k s) : s.d.length = k := by
  have := congrArg List.length h.keys
  simpa using this
theorem Full.zero : Full 0 (Sto.new 2 400 []) := ⟨Sto.new_ok 2 400 [], rfl, rfl, rfl, rfl, rfl⟩
theorem Full.add {k : Nat} {s : Sto} (h : Full k s) (hk : k < 120) {p : Page} (hp : isPage p = true) : s.add p = ((2 + (k : Int), none), { s with last := s.last + 1, d := putD s.d s.last p }) ∧ Full (k + 1) { s with last := s.last + 1, d := putD s.d s.last p } := by
  have hl := h.len
  have hla := h.last
  have hmo := h.most
  have e := Sto.add_last (p := p) h.avail hp (by omega) (by omega)
  have hno : lookD s.d s.last = none := lookD_none.2 fun x hx e => by
    have : x.1 ∈ s.d.map (·.1) := List.mem_map.2 ⟨x, hx, rfl⟩
    rw [h.keys] at this
    obtain ⟨j, hj, e2⟩ := List.mem_map.1 this
    have := List.mem_range.1 hj
    omega
  have hok := h.ok.add p
  rw [e] at hok
  refine ⟨by rw [e, hla], hok, h.avail, h.freed, by show s.last + 1 = _; rw [hla]; omega, h.most, ?_⟩
  show (putD s.d s.last p).map (·.1) = _
  rw [putD_new hno, List.map_append, h.keys, List.range_succ, List.map_append, hla]
  rfl
theorem Full.more {s : Sto} (h : Full 120 s) {p : Page} (hp : isPage p = true) : s.add p = ((0, some 17), s) ∧ s.run 1 = ((0, some 17), s) := by
  have hl := h.len
  have e : s.numbers 1 = ((0, some 17), s) := by
    unfold Sto.numbers
    rw [if_pos (by omega)]
  refine ⟨by rw [s.add_yes p hp, e], ?_⟩
  rw [s.run_mid 1 (by omega) (by omega), e]
theorem Full.drop {s : Sto} (h : Full 120 s) {j : Nat} (hj : j < 120) : ∃ q, lookD s.d (2 + (j : Int)) = some q ∧ s.drop (2 + (j : Int)) = { s with d := delD s.d (2 + (j : Int)), avail := [2 + (j : Int)] } ∧ (delD s.d (2 + (j : Int))).length = 119 := by
  have hm : 2 + (j : Int) ∈ s.d.map (·.1) := by
    rw [h.keys]
    exact List.mem_map.2 ⟨j, List.mem_range.2 hj, rfl⟩
  obtain ⟨x, hx, hxe⟩ := List.mem_map.1 hm
  have hq : lookD s.d (2 + (j : Int)) = some x.2 := lookD_of_mem h.ok.nodup (by rw [← hxe]; exact hx)
  have hl := h.len
  have := delD_one h.ok.nodup hq
  refine ⟨x.2, hq, ?_, by omega⟩
  rw [s.drop_made _ _ hq, h.avail]
  rfl
end Sp
end Go.Proofs.YtkcfmjlcijhieaaGreat
namespace Go.Proofs.YtkcfmjlcijhieaaGreat
open Go.RowKit
attribute [local go_sem low] mk_extract
attribute [local go_sem] After.cell After.frozen mk_extract_end ByteArray.mk_append_mk
namespace Sp
theorem lookD_del {α : Type} (D : List (Int × α)) (i j : Int) : lookD (delD D i) j = if j = i then none else lookD D j := by
  unfold lookD delD
  by_cases h : j = i
  · subst h
    rw [if_pos rfl, List.find?_eq_none.2]
    · rfl
    · intro x hx
      have := (List.mem_filter.1 hx).2
      simpa using this
  · rw [if_neg h, List.find?_filter]
    congr 1
    refine congrArg (fun p => D.find? p) (funext fun x => ?_)
    by_cases hx : x.1 = j
    · simp [hx, h]
    · simp [hx]
theorem runD_keys {d : List (Int × Page)} {id : Int} : ∀ {k : Nat}, (∀ j : Nat, j < k → lookD d (id + j) = none) → (runD d id k).map (·.1) = d.map (·.1) ++ (List.range k).map fun j : Nat => id + (j : Int)
  | 0, _ => by simp [runD]
  | k + 1, h => by
    show (putD (runD d id k) (id + k) pg0).map (·.1) = _
    have e : lookD (runD d id k) (id + k) = none := by
      rw [lookD_run, if_neg (by omega)]
      exact h k (by omega)
    rw [putD_keys, if_neg (by rw [e]; simp), runD_keys fun j hj => h j (by omega), List.range_succ, List.map_append, List.append_assoc]
    rfl
theorem Sto.Ok.keys_eq {s : Sto} (h : s.Ok) {d' : List (Int × Page)} (e : d'.map (·.1) = s.d.map (·.1)) : ({ s with d := d' } : Sto).Ok :=
  { h with
    nodup := by show (d'.map (·.1)).Nodup; rw [e]; exact h.nodup
    keys := fun x hx => by
      have : x.1 ∈ d'.map (·.1) := List.mem_map.2 ⟨x, hx, rfl⟩
      rw [e] at this
      obtain ⟨y, hy, e2⟩ := List.mem_map.1 this
      rw [← e2]
      exact h.keys y hy
    cnt := by
      show d'.length ≤ 120
      have := congrArg List.length e
      rw [List.length_map, List.length_map] at this
      rw [this]
      exact h.cnt }
theorem Full.none_ {n : Nat} {s : Sto} (h : Full n s) {x : Int} (hx : 2 + (n : Int) ≤ x) : lookD s.d x = none := lookD_none.2 fun y hy e => by
  have : y.1 ∈ s.d.map (·.1) := List.mem_map.2 ⟨y, hy, rfl⟩
  rw [h.keys] at this
  obtain ⟨j, hj, e2⟩ := List.mem_map.1 this
  have := List.mem_range.1 hj
  omega
theorem Full.dirty {n : Nat} {s : Sto} (h : Full n s) : s.dirty = (List.range n).map fun j : Nat => 2 + (j : Int) := by
  unfold Sto.dirty
  rw [h.keys]
  refine List.mergeSort_of_pairwise ?_
  refine List.pairwise_map.2 (List.Pairwise.imp ?_ List.pairwise_lt_range)
  intro a b hab
  exact decide_eq_true (by omega)
theorem runI_nil (n : Nat) : runI [] n = none := runI_none (l := []) fun i hi => absurd hi (Nat.not_lt_zero i)
theorem cntO_le {T : Txt} (h : longB T.length = true) : 1 ≤ cntO T.length ∧ cntO T.length ≤ 10 ∧ T.length ≤ 100 * cntO T.length ∧ 100 * cntO T.length < T.length + 100 := by
  have := longB_iff.1 h
  rw [cntO_nat]
  omega
theorem Full.write {n : Nat} {s : Sto} (h : Full n s) {T : Txt} (hT : longB T.length = true) (hn : n + cntO T.length ≤ 120) :
    ∃ s1, s.write T = ((2 + (n : Int), none), s1) ∧ Full (n + cntO T.length) s1 ∧ ∀ x, lookD s1.d x = if 2 + (n : Int) ≤ x ∧ x < 2 + (n : Int) + cntO T.length then some (ovPg (piece T (x - (2 + (n : Int))).toNat)) else lookD s.d x := by
  have hc := cntO_le hT
  have hlen := h.len
  have hno : ∀ j : Nat, j < cntO T.length → lookD s.d (s.last + j) = none := fun j _ => h.none_ (by rw [h.last]; omega)
  have hr : s.run (cntO T.length) = ((s.last, none), { s with last := s.last + cntO T.length, d := runD s.d s.last (cntO T.length) }) := by
    rw [s.run_mid _ (by omega) (by omega)]
    unfold Sto.numbers
    rw [if_neg (by omega), h.avail, runI_nil]
    dsimp only
    rw [if_neg (by have := h.last; have := h.most; omega), Int.toNat_natCast, ← h.avail]
  have hok := h.ok.run (cntO T.length)
  rw [hr] at hok
  have hks := runD_keys hno
  have hsome : ∀ j : Nat, j < cntO T.length → (lookD (runD s.d s.last (cntO T.length)) (s.last + j)).isSome = true := fun j hj => by
    rw [lookD_run, if_pos (by omega)]; rfl
  have hfk := fillD_keys (T := T) hsome
  have hw : s.write T = ((s.last, none), { s with last := s.last + cntO T.length, d := fillD (runD s.d s.last (cntO T.length)) s.last T (cntO T.length) }) := by
    unfold Sto.write
    rw [if_neg (by rw [hT]; simp), hr]
  refine ⟨{ s with last := s.last + cntO T.length, d := fillD (runD s.d s.last (cntO T.length)) s.last T (cntO T.length) }, hw.trans (congrArg (fun z : Int => ((z, (none : Option Int)), ({ s with last := s.last + cntO T.length, d := fillD (runD s.d s.last (cntO T.length)) s.last T (cntO T.length) } : Sto))) h.last), ⟨hok.keys_eq hfk, h.avail, h.freed, ?_, h.most, ?_⟩, fun x => ?_⟩
  · show s.last + _ = _
    have := h.last
    omega
  · show (fillD _ _ T _).map (·.1) = _
    rw [hfk, hks, h.keys, List.range_add, List.map_append, List.map_map]
    congr 1
    refine List.map_congr_left fun j _ => ?_
    show s.last + j = 2 + ((n + j : Nat) : Int)
    have := h.last
    omega
  · show lookD (fillD _ _ T _) x = _
    rw [lookD_fill, lookD_run, h.last]
    by_cases hx : 2 + (n : Int) ≤ x ∧ x < 2 + (n : Int) + cntO T.length
    · rw [if_pos hx, if_pos hx]
    · rw [if_neg hx, if_neg hx, if_neg hx]
theorem Sto.write_short {s : Sto} {T : Txt} (h : longB T.length = false) : s.write T = ((0, some 22), s) := by
  unfold Sto.write
  rw [if_pos h]
theorem readTo_is {s : Sto} {V : List Txt} {run : Int} {T : Txt} (h2 : 2 ≤ run) (hm : run + cntO T.length ≤ s.most) (hl : ∀ m : Nat, m < cntO T.length → lookD s.d (run + m) = some (ovPg (piece T m))) :
    ∀ k : Nat, k ≤ cntO T.length → readTo s V run T.length k = (T.take (100 * k), none)
  | 0, _ => by simp [readTo]
  | k + 1, hk => by
    unfold readTo
    rw [readTo_is h2 hm hl k (by omega)]
    have e : s.read V (run + k) = (ovPg (piece T k), none) := by
      unfold Sto.read
      rw [if_neg (by omega), hl k (by omega)]
      rfl
    rw [e]
    dsimp only
    have hc : (ovPg (piece T k)).kind = 3 ∧ ((ovPg (piece T k)).text.length : Int) = min ((T.length : Int) - 100 * k) 100 := by
      refine ⟨rfl, ?_⟩
      show ((piece T k).length : Int) = _
      have := piece_len T k
      have : 100 * k < T.length := by rw [cntO_nat] at hk; omega
      omega
    rw [if_pos hc]
    show (T.take (100 * k) ++ piece T k, none) = _
    rw [piece_take]
theorem readO_is {s : Sto} {V : List Txt} {run : Int} {T : Txt} (hT : longB T.length = true) (h2 : 2 ≤ run) (hm : run + cntO T.length ≤ s.most) (hl : ∀ m : Nat, m < cntO T.length → lookD s.d (run + m) = some (ovPg (piece T m))) :
    s.readO V run T.length = (T, none) := by
  unfold Sto.readO
  rw [if_neg (by rw [hT]; simp), readTo_is h2 hm hl _ (Nat.le_refl _), List.take_of_length_le (cntO_le hT).2.2.1]
/-- A run's pages are dropped, so many of them. -/
structure Dropped (s0 : Sto) (run : Int) (k : Nat) (s : Sto) : Prop where
  ok : s.Ok
  avail : s.avail.length = k ∧ ∀ x ∈ s.avail, run ≤ x ∧ x < run + k
  len : s.d.length + k = s0.d.length
  most : s.most = s0.most
  look : ∀ x, lookD s.d x = if run ≤ x ∧ x < run + k then none else lookD s0.d x
theorem Dropped.zero {s0 : Sto} {run : Int} (h : s0.Ok) (ha : s0.avail = []) : Dropped s0 run 0 s0 :=
  ⟨h, ⟨by rw [ha]; rfl, by rw [ha]; intro x hx; cases hx⟩, rfl, rfl, fun x => by rw [if_neg (by omega)]⟩
theorem Dropped.step {s0 s : Sto} {run : Int} {k : Nat} (h : Dropped s0 run k s) (hs : (lookD s0.d (run + k)).isSome = true) : Dropped s0 run (k + 1) (s.drop (run + k)) := by
  have hok := h.ok.drop (run + k)
  obtain ⟨q, hq⟩ := Option.isSome_iff_exists.1 hs
  have hq2 : lookD s.d (run + k) = some q := by rw [h.look, if_neg (by omega), hq]
  rw [s.drop_made _ _ hq2] at hok ⊢
  have hni : run + (k : Int) ∉ s.avail := fun hm => by have := h.avail.2 _ hm; omega
  refine ⟨hok, ⟨?_, fun x hx => ?_⟩, ?_, h.most, fun x => ?_⟩
  · show (insI (run + k) s.avail).length = k + 1
    unfold insI
    rw [if_neg hni, List.length_append, List.length_cons, List.length_take, List.length_drop]
    have := h.avail.1
    omega
  · rcases mem_insI.1 hx with rfl | hx
    · omega
    · have := h.avail.2 _ hx; omega
  · show (delD s.d (run + k)).length + (k + 1) = _
    have := delD_one h.ok.nodup hq2
    have := h.len
    omega
  · show lookD (delD s.d (run + k)) x = _
    rw [lookD_del, h.look]
    by_cases e : x = run + k
    · rw [if_pos e, if_pos (by omega)]
    · rw [if_neg e]
      by_cases h2 : run ≤ x ∧ x < run + k
      · rw [if_pos h2, if_pos (by omega)]
      · rw [if_neg h2, if_neg (by omega)]
theorem dropTo_is {s : Sto} {run : Int} (h : s.Ok) (ha : s.avail = []) : ∀ {k : Nat}, (∀ j : Nat, j < k → (lookD s.d (run + j)).isSome = true) → Dropped s run k (dropTo s run k)
  | 0, _ => Dropped.zero h ha
  | k + 1, hk => (dropTo_is h ha fun j hj => hk j (by omega)).step (hk k (by omega))
end Sp
end Go.Proofs.YtkcfmjlcijhieaaGreat
