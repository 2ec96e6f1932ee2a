/- A run of numbers side by side, in plain Lean. As many pages as may be, in plain Lean. New numbers: the law's walk. -/
import Derived.Test.YtkcfmjlcijhieaaGreatQB16
import Derived.Test.YtkcfmjlcijhieaaGreatQB22
import Derived.Test.YtkcfmjlcijhieaaGreatQB23
import Derived.Test.YtkcfmjlcijhieaaGreatQB24
import Derived.Test.YtkcfmjlcijhieaaGreatQB25
set_option linter.unusedSimpArgs false
set_option linter.unusedVariables false
namespace Go.Proofs.YtkcfmjlcijhieaaGreat
open Go.RowKit
attribute [local go_sem low] mk_extract
attribute [local go_sem] After.cell After.frozen mk_extract_end ByteArray.mk_append_mk
namespace Sp
theorem lookD_cons {α : Type} (x : Int × α) (D : List (Int × α)) (i : Int) : lookD (x :: D) i = if x.1 = i then some x.2 else lookD D i := by
  unfold lookD
  by_cases h : x.1 = i
  · rw [List.find?_cons_of_pos (by simpa using h), if_pos h]
    rfl
  · rw [List.find?_cons_of_neg (by simpa using h), if_neg h]
theorem lookD_map {α : Type} (i j : Int) (v : α) : ∀ D : List (Int × α), lookD (D.map fun x => if x.1 = i then (i, v) else x) j = if j = i then (lookD D i).map (fun _ => v) else lookD D j
  | [] => by
    by_cases h : j = i
    · rw [if_pos h]; rfl
    · rw [if_neg h]; rfl
  | x :: D => by
    rw [List.map_cons, lookD_cons, lookD_map i j v D, lookD_cons, lookD_cons]
    by_cases hj : j = i
    · subst hj
      by_cases hx : x.1 = j
      · simp [hx]
      · simp [hx]
    · by_cases hx : x.1 = i
      · have : i ≠ j := fun e => hj e.symm
        simp [hx, hj, this]
      · simp [hx, hj]
theorem lookD_put {α : Type} (D : List (Int × α)) (i j : Int) (v : α) : lookD (putD D i v) j = if j = i then some v else lookD D j := by
  unfold putD
  by_cases h : (lookD D i).isSome
  · rw [if_pos h, lookD_map]
    obtain ⟨q, hq⟩ := Option.isSome_iff_exists.1 h
    rw [hq]
    rfl
  · rw [if_neg h]
    have h0 : lookD D i = none := by simpa using h
    unfold lookD at h0 ⊢
    rw [List.find?_append]
    by_cases hj : j = i
    · subst hj
      have : D.find? (fun x => x.1 == j) = none := by simpa using h0
      rw [this, if_pos rfl]
      simp
    · rw [if_neg hj]
      have : ([(i, v)] : List (Int × α)).find? (fun x => x.1 == j) = none := by
        rw [List.find?_cons_of_neg (by simpa using fun e => hj e.symm)]
        rfl
      rw [this, Option.or_none]
theorem lookD_run (d : List (Int × Page)) (id : Int) : ∀ (k : Nat) (x : Int), lookD (runD d id k) x = if id ≤ x ∧ x < id + k then some pg0 else lookD d x
  | 0, x => by rw [if_neg (by omega)]; rfl
  | k + 1, x => by
    show lookD (putD (runD d id k) (id + k) pg0) x = _
    rw [lookD_put, lookD_run d id k x]
    by_cases h : x = id + k
    · rw [if_pos h, if_pos (by omega)]
    · rw [if_neg h]
      by_cases h2 : id ≤ x ∧ x < id + k
      · rw [if_pos h2, if_pos (by omega)]
      · rw [if_neg h2, if_neg (by omega)]
theorem runD_len {d : List (Int × Page)} {id : Int} : ∀ {k : Nat}, (∀ j : Nat, j < k → lookD d (id + j) = none) → (runD d id k).length = d.length + k
  | 0, _ => rfl
  | k + 1, h => by
    show (putD (runD d id k) (id + k) pg0).length = _
    have e : lookD (runD d id k) (id + k) = none := by
      rw [lookD_run, if_neg (by omega)]
      exact h k (by omega)
    unfold putD
    rw [e, if_neg (by simp), List.length_append, runD_len fun j hj => h j (by omega)]
    rfl
def fitB (F k i : Nat) : Bool := decide (i + k ≤ 16) && (List.range k).all fun j => F / 2 ^ (i + j) % 2 == 1
def wantAt (F k c : Nat) : Int := match (List.range' c (16 - c)).find? (fitB F k) with
  | some i => 2 + (i : Int)
  | none => 18
theorem wantAt_end (F k : Nat) : wantAt F k 16 = 18 := rfl
theorem wantAt_step {F k c : Nat} (h : c < 16) : wantAt F k c = if fitB F k c then 2 + (c : Int) else wantAt F k (c + 1) := by
  unfold wantAt
  rw [show 16 - c = (16 - (c + 1)) + 1 from by omega, List.range'_succ]
  by_cases hf : fitB F k c
  · rw [List.find?_cons_of_pos hf, if_pos hf]
  · rw [List.find?_cons_of_neg hf, if_neg hf]
theorem mem_bits {F i : Nat} {x : Int} : x ∈ bitsTo F i ↔ ∃ j : Nat, j < i ∧ F / 2 ^ j % 2 = 1 ∧ x = 2 + (j : Int) := by
  unfold bitsTo
  constructor
  · intro h
    obtain ⟨j, hj, e⟩ := List.mem_map.1 h
    obtain ⟨h1, h2⟩ := List.mem_filter.1 hj
    exact ⟨j, List.mem_range.1 h1, by simpa using h2, e.symm⟩
  · rintro ⟨j, h1, h2, rfl⟩
    exact List.mem_map.2 ⟨j, List.mem_filter.2 ⟨List.mem_range.2 h1, by simpa using h2⟩, rfl⟩
theorem getD_up {L : List Int} (h : L.Pairwise (· < ·)) {i j : Nat} (hij : i < j) (hj : j < L.length) : L.getD i 0 < L.getD j 0 := by
  have := List.pairwise_iff_getElem.1 h i j (by omega) hj hij
  rw [List.getD_eq_getElem?_getD, List.getD_eq_getElem?_getD, List.getElem?_eq_getElem hj, List.getElem?_eq_getElem (show i < L.length by omega)]
  exact this
theorem getD_mem {L : List Int} {x : Int} (h : x ∈ L) : ∃ i, i < L.length ∧ L.getD i 0 = x := by
  obtain ⟨i, hi, e⟩ := List.getElem_of_mem h
  exact ⟨i, hi, by rw [List.getD_eq_getElem?_getD, List.getElem?_eq_getElem hi]; exact e⟩
theorem mem_getD {L : List Int} {i : Nat} (h : i < L.length) : L.getD i 0 ∈ L := by
  rw [List.getD_eq_getElem?_getD, List.getElem?_eq_getElem h]
  exact List.getElem_mem h
theorem run_at {L : List Int} (hp : L.Pairwise (· < ·)) {x : Int} {k : Nat} (hk : 1 ≤ k) (h : ∀ m : Nat, m < k → x + m ∈ L) : ∃ i, i < L.length ∧ L.getD i 0 = x ∧ runAt L k i = true := by
  have h0 := h 0 (by omega)
  rw [Int.natCast_zero, Int.add_zero] at h0
  obtain ⟨i, hi, e⟩ := getD_mem h0
  have hs : ∀ m : Nat, m < k → i + m < L.length ∧ L.getD (i + m) 0 = x + m := by
    intro m
    induction m with
    | zero => intro _; rw [Nat.add_zero, Int.natCast_zero, Int.add_zero]; exact ⟨hi, e⟩
    | succ m ih =>
      intro hm
      obtain ⟨h1, h2⟩ := ih (by omega)
      obtain ⟨j, hj, e3⟩ := getD_mem (h (m + 1) hm)
      have hgt : i + m < j := by
        rcases Nat.lt_trichotomy (i + m) j with h' | h' | h'
        · exact h'
        · subst h'; omega
        · have := getD_up hp h' h1; omega
      have h4 := getD_up hp (i := i + m) (j := i + (m + 1)) (by omega) (by omega)
      refine ⟨by omega, ?_⟩
      rcases Nat.lt_or_ge (i + (m + 1)) j with h' | h'
      · have := getD_up hp h' hj; omega
      · have : i + (m + 1) = j := by omega
        rw [this]; exact e3
  exact ⟨i, hi, e, runAt_iff.2 fun m hm => by obtain ⟨h1, h2⟩ := hs m hm; exact ⟨h1, by omega⟩⟩
theorem fit_mem {F k i : Nat} (h : fitB F k i = true) (m : Nat) (hm : m < k) : 2 + (i : Int) + m ∈ bitsTo F 16 := by
  unfold fitB at h
  rw [Bool.and_eq_true, List.all_eq_true] at h
  have h1 := of_decide_eq_true h.1
  have h2 := h.2 m (List.mem_range.2 hm)
  exact mem_bits.2 ⟨i + m, by omega, by simpa using h2, by omega⟩
theorem run_fit {F k i : Nat} (hk : 1 ≤ k) (hr : runAt (bitsTo F 16) k i = true) : ∃ j : Nat, j < 16 ∧ (bitsTo F 16).getD i 0 = 2 + (j : Int) ∧ fitB F k j = true := by
  have h := runAt_iff.1 hr
  obtain ⟨h1, _⟩ := h 0 (by omega)
  rw [Nat.add_zero] at h1
  obtain ⟨j, hj, hb, e⟩ := mem_bits.1 (mem_getD h1)
  have hall : ∀ m : Nat, m < k → j + m < 16 ∧ F / 2 ^ (j + m) % 2 = 1 := fun m hm => by
    obtain ⟨h3, h4⟩ := h m hm
    obtain ⟨j2, hj2, hb2, e2⟩ := mem_bits.1 (mem_getD h3)
    have : j2 = j + m := by omega
    rw [← this]
    exact ⟨hj2, hb2⟩
  refine ⟨j, hj, e, ?_⟩
  unfold fitB
  rw [Bool.and_eq_true, List.all_eq_true]
  have := (hall (k - 1) (by omega)).1
  exact ⟨decide_eq_true (by omega), fun m hm => by simpa using (hall m (List.mem_range.1 hm)).2⟩
theorem run_bits {F k : Nat} (hk : 1 ≤ k) : runI (bitsTo F 16) k = ((List.range' 0 16).find? (fitB F k)).map fun i : Nat => 2 + (i : Int) := by
  have hp := (bitsTo_rng (free := F) (i := 16)).1
  rcases hf : (List.range' 0 16).find? (fitB F k) with _ | i
  · refine runI_none fun i hi => ?_
    rcases hr : runAt (bitsTo F 16) k i with _ | _
    · rfl
    · obtain ⟨j, hj, _, h2⟩ := run_fit hk hr
      have := List.find?_eq_none.1 hf j (List.mem_range'_1.2 ⟨by omega, by omega⟩)
      exact absurd h2 this
  · have h1 := List.find?_some hf
    obtain ⟨x, hx, e, hr⟩ := run_at hp hk (fit_mem h1)
    have := runI_first (l := bitsTo F 16) (n := k) (j := x) (by omega) hx (fun y hy => by
      rcases hr2 : runAt (bitsTo F 16) k y with _ | _
      · rfl
      · obtain ⟨j, hj, e2, h2⟩ := run_fit hk hr2
        have hlt := getD_up hp hy hx
        have hji : j < i := by omega
        obtain ⟨_, la, lb, e3, h3⟩ := List.find?_eq_some_iff_append.1 hf
        have hm : j ∈ la := by
          have hjr : j ∈ List.range' 0 16 := List.mem_range'_1.2 ⟨by omega, by omega⟩
          have hpw : (List.range' 0 16).Pairwise (· < ·) := List.pairwise_lt_range'
          rw [e3] at hjr hpw
          rcases List.mem_append.1 hjr with h | h
          · exact h
          · rcases List.mem_cons.1 h with h | h
            · omega
            · have := (List.pairwise_cons.1 (List.pairwise_append.1 hpw).2.1).1 j h
              omega
        have := h3 j hm
        rw [h2] at this
        cases this) hr
    rw [this, e]
    rfl
theorem wantAt_rng {F k : Nat} (hk : k ≤ 5) : 2 ≤ wantAt F k 0 ∧ (wantAt F k 0 + k ≤ 18 ∨ wantAt F k 0 = 18) := by
  unfold wantAt
  rcases hf : (List.range' 0 (16 - 0)).find? (fitB F k) with _ | i
  · exact ⟨by decide, .inr rfl⟩
  · have h1 := List.find?_some hf
    unfold fitB at h1
    rw [Bool.and_eq_true] at h1
    have := of_decide_eq_true h1.1
    refine ⟨?_, .inl ?_⟩
    · show 2 ≤ 2 + (i : Int)
      omega
    · show 2 + (i : Int) + k ≤ 18
      omega
/-- A run, some of whose pages are filled. -/
structure Ran (F k i : Nat) (s : Sto) : Prop where
  ok : s.Ok
  most : s.most = 400
  last : s.last = max 18 (wantAt F k 0 + k)
  look : ∀ m : Nat, m < k → lookD s.d (wantAt F k 0 + m) = some (if m < i then lfPg [107] else pg0)
  len : s.d.length = k
theorem run_ran {F k : Nat} {s : Sto} (h1 : 1 ≤ k) (h5 : k ≤ 5) (hok : s.Ok) (ha : s.avail = bitsTo F 16) (hl : s.last = 18) (hm : s.most = 400) (hd : s.d = []) : ∃ s1, s.run k = ((wantAt F k 0, none), s1) ∧ Ran F k 0 s1 := by
  have hw := wantAt_rng (F := F) h5
  have hok2 := hok.run k
  have hlook : ∀ m : Nat, m < k → lookD (runD [] (wantAt F k 0) k) (wantAt F k 0 + m) = some (if m < 0 then lfPg [107] else pg0) := fun m hm => by
    rw [lookD_run, if_pos (by omega), if_neg (Nat.not_lt_zero m)]
  have hlen : (runD [] (wantAt F k 0) k).length = k := by
    rw [runD_len fun j _ => rfl]
    exact Nat.zero_add k
  have hrb := run_bits (F := F) h1
  rw [s.run_mid k (by omega) (by omega)] at hok2 ⊢
  unfold Sto.numbers at hok2 ⊢
  rw [if_neg (by rw [hd]; simp only [List.length_nil]; omega), ha, hrb] at hok2 ⊢
  unfold wantAt at hw hlook hlen ⊢
  rw [show 16 - 0 = 16 from rfl] at hw hlook hlen ⊢
  rcases hf : (List.range' 0 16).find? (fitB F k) with _ | i
  · rw [hf] at hw hlook hlen hok2
    simp only [Option.map_none] at hok2 ⊢
    rw [if_neg (by omega)] at hok2 ⊢
    rw [hl, hd] at hok2 ⊢
    refine ⟨_, rfl, hok2, hm, ?_, ?_, ?_⟩
    · show (18 : Int) + k = _
      unfold wantAt
      rw [show 16 - 0 = 16 from rfl, hf]
      show (18 : Int) + k = max 18 (18 + (k : Int))
      omega
    · unfold wantAt
      rw [show 16 - 0 = 16 from rfl, hf]
      exact hlook
    · exact hlen
  · rw [hf] at hw hlook hlen hok2
    simp only [Option.map_some] at hok2 ⊢
    rw [hd] at hok2 ⊢
    refine ⟨_, rfl, hok2, hm, ?_, ?_, ?_⟩
    · show s.last = _
      unfold wantAt
      rw [show 16 - 0 = 16 from rfl, hf]
      show s.last = max 18 (2 + (i : Int) + k)
      have hw2 : 2 + (i : Int) + k ≤ 18 ∨ 2 + (i : Int) = 18 := hw.2
      have hfit := List.find?_some hf
      unfold fitB at hfit
      rw [Bool.and_eq_true] at hfit
      have := of_decide_eq_true hfit.1
      omega
    · unfold wantAt
      rw [show 16 - 0 = 16 from rfl, hf]
      exact hlook
    · exact hlen
theorem Ran.rd {F k i : Nat} {s : Sto} (h : Ran F k i s) (h5 : k ≤ 5) (V : List Txt) {m : Nat} (hm : m < k) : s.read V (wantAt F k 0 + m) = if m < i then (lfPg [107], none) else (pg0, some 12) := by
  have hw := wantAt_rng (F := F) h5
  have hmo := h.most
  unfold Sto.read
  rw [if_neg (by omega), h.look m hm]
  by_cases hi : m < i
  · rw [if_pos hi, if_pos hi]
    rfl
  · rw [if_neg hi, if_neg hi]
    rfl
theorem Ran.fill {F k i : Nat} {s : Sto} (h : Ran F k i s) (hi : i < k) : ∃ s1, s.set_ (wantAt F k 0 + i) (lfPg [107]) = (none, s1) ∧ Ran F k (i + 1) s1 := by
  have hl := h.look i hi
  have hs : (lookD s.d (wantAt F k 0 + i)).isSome = true := by rw [hl]; rfl
  have hok := h.ok.set_ (wantAt F k 0 + i) (lfPg [107])
  unfold Sto.set_ at hok ⊢
  rw [if_pos ⟨hs, lf_k⟩] at hok ⊢
  refine ⟨_, rfl, hok, h.most, h.last, fun m hm => ?_, ?_⟩
  · show lookD (putD s.d (wantAt F k 0 + i) (lfPg [107])) (wantAt F k 0 + m) = _
    rw [lookD_put]
    by_cases e : m = i
    · subst e
      rw [if_pos rfl, if_pos (by omega)]
    · rw [if_neg (by omega), h.look m hm]
      by_cases h2 : m < i
      · rw [if_pos h2, if_pos (by omega)]
      · rw [if_neg h2, if_neg (by omega)]
  · show (putD s.d (wantAt F k 0 + i) (lfPg [107])).length = k
    rw [putD_has hs, h.len]
theorem Sto.run_zero (s : Sto) : s.run 0 = ((0, some 10), s) := rfl
end Sp
end Go.Proofs.YtkcfmjlcijhieaaGreat
namespace Go.Proofs.YtkcfmjlcijhieaaGreat
open Go.RowKit
attribute [local go_sem low] mk_extract
attribute [local go_sem] After.cell After.frozen mk_extract_end ByteArray.mk_append_mk
namespace Sp
theorem putD_new {α : Type} {D : List (Int × α)} {i : Int} {v : α} (h : lookD D i = none) : putD D i v = D ++ [(i, v)] := by
  unfold putD
  rw [if_neg (by rw [h]; simp)]
theorem delD_one {α : Type} {D : List (Int × α)} {i : Int} {v : α} (hn : (D.map (·.1)).Nodup) (h : lookD D i = some v) : (delD D i).length + 1 = D.length := by
  have hm := lookD_mem h
  obtain ⟨j, hj, e⟩ := List.getElem_of_mem hm
  rw [delD_at (v := v) (j := j) hn (by rw [List.getElem?_eq_getElem hj, e]), List.length_eraseIdx, if_pos hj]
  omega
/-- So many pages are made. -/
structure Full (k : Nat) (s : Sto) : Prop where
  ok : s.Ok
  avail : s.avail = []
  freed : s.freed = []
  last : s.last = 2 + k
  most : s.most = 400
  keys : s.d.map (·.1) = (List.range k).map fun j : Nat => 2 + (j : Int)
theorem Full.len {k : Nat} {s : Sto} (h : Full k s) : s.d.length = k := by
  have := congrArg List.length h.keys
  simpa using this
theorem Full.zero : Full 0 (Sto.new 2 400 []) := ⟨Sto.new_ok 2 400 [], rfl, rfl, rfl, rfl, rfl⟩
theorem Full.add {k : Nat} {s : Sto} (h : Full k s) (hk : k < 120) {p : Page} (hp : isPage p = true) : s.add p = ((2 + (k : Int), none), { s with last := s.last + 1, d := putD s.d s.last p }) ∧ Full (k + 1) { s with last := s.last + 1, d := putD s.d s.last p } := by
  have hl := h.len
  have hla := h.last
  have hmo := h.most
  have e := Sto.add_last (p := p) h.avail hp (by omega) (by omega)
  have hno : lookD s.d s.last = none := lookD_none.2 fun x hx e => by
    have : x.1 ∈ s.d.map (·.1) := List.mem_map.2 ⟨x, hx, rfl⟩
    rw [h.keys] at this
    obtain ⟨j, hj, e2⟩ := List.mem_map.1 this
    have := List.mem_range.1 hj
    omega
  have hok := h.ok.add p
  rw [e] at hok
  refine ⟨by rw [e, hla], hok, h.avail, h.freed, by show s.last + 1 = _; rw [hla]; omega, h.most, ?_⟩
  show (putD s.d s.last p).map (·.1) = _
  rw [putD_new hno, List.map_append, h.keys, List.range_succ, List.map_append, hla]
  rfl
theorem Full.more {s : Sto} (h : Full 120 s) {p : Page} (hp : isPage p = true) : s.add p = ((0, some 17), s) ∧ s.run 1 = ((0, some 17), s) := by
  have hl := h.len
  have e : s.numbers 1 = ((0, some 17), s) := by
    unfold Sto.numbers
    rw [if_pos (by omega)]
  refine ⟨by rw [s.add_yes p hp, e], ?_⟩
  rw [s.run_mid 1 (by omega) (by omega), e]
theorem Full.drop {s : Sto} (h : Full 120 s) {j : Nat} (hj : j < 120) : ∃ q, lookD s.d (2 + (j : Int)) = some q ∧ s.drop (2 + (j : Int)) = { s with d := delD s.d (2 + (j : Int)), avail := [2 + (j : Int)] } ∧ (delD s.d (2 + (j : Int))).length = 119 := by
  have hm : 2 + (j : Int) ∈ s.d.map (·.1) := by
    rw [h.keys]
    exact List.mem_map.2 ⟨j, List.mem_range.2 hj, rfl⟩
  obtain ⟨x, hx, hxe⟩ := List.mem_map.1 hm
  have hq : lookD s.d (2 + (j : Int)) = some x.2 := lookD_of_mem h.ok.nodup (by rw [← hxe]; exact hx)
  have hl := h.len
  have := delD_one h.ok.nodup hq
  refine ⟨x.2, hq, ?_, by omega⟩
  rw [s.drop_made _ _ hq, h.avail]
  rfl
end Sp
end Go.Proofs.YtkcfmjlcijhieaaGreat
namespace Go.Proofs.YtkcfmjlcijhieaaGreat
open Go.RowKit
attribute [local go_sem low] mk_extract
attribute [local go_sem] After.cell After.frozen mk_extract_end ByteArray.mk_append_mk
theorem and_u16 (n : Nat) : bits BinOp.and IntKind.u16 (n : Int) 1 = ((n % 2 : Nat) : Int) := by
  have h : (BitVec.ofInt 16 (n : Int) &&& BitVec.ofInt 16 1).toNat = (BitVec.ofInt 16 (n : Int)).toNat % 2 := by
    rw [BitVec.toNat_and]
    exact Nat.and_one_is_mod _
  have h2 : (BitVec.ofInt 16 (n : Int)).toNat = n % 65536 := by
    rw [BitVec.toNat_ofInt]
    omega
  show IntKind.u16.wrap (((BitVec.ofInt 16 (n : Int) &&& BitVec.ofInt 16 1).toNat : Nat) : Int) = _
  rw [h, h2]
  simp only [IntKind.wrap_u16]
  omega
theorem bit_u16 (F k : Nat) : (bits BinOp.and IntKind.u16 ((F : Int) / 2 ^ k) 1 == 1) = decide (F / 2 ^ k % 2 = 1) := by
  have e : ((F : Int) / 2 ^ k) = ((F / 2 ^ k : Nat) : Int) := by
    rw [Int.natCast_ediv, Int.natCast_pow]
    rfl
  rw [e, and_u16]
  by_cases h : F / 2 ^ k % 2 = 1
  · simp [h]
  · have h0 : F / 2 ^ k % 2 = 0 := by omega
    simp [h0]
/-- A slice of numbers in a block of numbers. -/
structure IVB (w : World) (u : Value) (L : List Int) : Prop where
  iv : IV w u L
  blk : ∀ A n c, u = .slice (some A) n c → ∃ cs, Blk w A.block IntT cs
  cap : ∀ A n c, u = .slice A n c → n ≤ c
theorem own_ivb {w : World} {base : Nat} {u : Value} {L : List Int} (h : w.ownsRow base IntT 1 u L.length (L.map iv)) (hn : L.length ≤ 100000) : IVB w u L := by
  refine ⟨own_iv h hn, fun A n c e => ?_, fun A n c e => ?_⟩
  · rcases h.2 with ⟨e2, _⟩ | ⟨g, cap, cur, e2, _, hh, _⟩
    · rw [e] at e2; cases e2
    · rw [e] at e2
      simp only [Value.slice.injEq, Option.some.injEq] at e2
      rw [e2.1]
      exact ⟨cur, hh⟩
  · rcases h.2 with ⟨e2, _⟩ | ⟨g, cap, cur, e2, _, hh, hnc, _⟩
    · rw [e] at e2
      simp only [Value.slice.injEq] at e2
      omega
    · rw [e] at e2
      simp only [Value.slice.injEq] at e2
      omega
theorem IVB.chg {S : Nat → Prop} {w w' : World} {u : Value} {L : List Int} (h : IVB w u L) (hk : Chg S w w') (hS : ∀ k cs, Blk w k IntT cs → ¬ S k) : IVB w' u L := by
  obtain ⟨A, c, rfl, h1⟩ := h.iv.form
  refine ⟨⟨⟨A, c, rfl, ?_⟩, h.iv.len⟩, fun A' n' c' e => ?_, h.cap⟩
  · rcases h1 with h1 | ⟨b, off, rfl, hc⟩
    · exact .inl h1
    · obtain ⟨cs, hb⟩ := h.blk _ _ _ rfl
      refine .inr ⟨b, off, rfl, fun j hj => ?_⟩
      exact (hk.cell hb.lt (hS _ _ hb)).trans (hc j hj)
  · obtain ⟨cs, hb⟩ := h.blk _ _ _ e
    exact ⟨cs, hb.chg hk (hS _ _ hb)⟩
theorem IVB.go {w w' : World} {u : Value} {L : List Int} (h : IVB w u L) (hb : Below w.heap.size w w') : IVB w' u L :=
  h.chg (S := NoM) (Chg.of_below hb) fun _ _ _ h => h
theorem IVB.tail {w : World} {b off : Nat} {x : Int} {L : List Int} {c : Nat} (h : IVB w (.slice (some ⟨b, off, none⟩) (L.length + 1) c) (x :: L)) : IVB w (.slice (if c = 1 then some ⟨b, off, none⟩ else some ⟨b, off + 1, none⟩) L.length (c - 1)) L := by
  have hcap := h.cap _ _ _ rfl
  obtain ⟨A, c', e, h1⟩ := h.iv.form
  simp only [Value.slice.injEq] at e
  obtain ⟨rfl, _, rfl⟩ := e
  have hl := h.iv.len
  rw [List.length_cons] at hl
  obtain ⟨cs, hb⟩ := h.blk _ _ _ rfl
  by_cases h1c : c = 1
  · rw [if_pos h1c]
    have h0 : L.length = 0 := by omega
    refine ⟨⟨⟨some ⟨b, off, none⟩, c - 1, rfl, .inr ⟨b, off, rfl, fun j hj => by omega⟩⟩, by omega⟩, fun A' n' c' e => ?_, fun A' n' c' e => ?_⟩
    · simp only [Value.slice.injEq, Option.some.injEq] at e
      rw [← e.1]
      exact ⟨cs, hb⟩
    · simp only [Value.slice.injEq] at e
      omega
  · rw [if_neg h1c]
    refine ⟨⟨⟨some ⟨b, off + 1, none⟩, c - 1, rfl, ?_⟩, by omega⟩, fun A' n' c' e => ?_, fun A' n' c' e => ?_⟩
    · rcases h1 with ⟨h1, _⟩ | ⟨b', off', e, hc⟩
      · cases h1
      · simp only [Option.some.injEq, Addr.mk.injEq] at e
        obtain ⟨rfl, rfl, _⟩ := e
        refine .inr ⟨b, off + 1, rfl, fun j hj => ?_⟩
        have hj1 := hc (j + 1) (by simpa using hj)
        rw [show off + 1 + j = off + (j + 1) by omega, hj1]
        rfl
    · simp only [Value.slice.injEq, Option.some.injEq] at e
      rw [← e.1]
      exact ⟨cs, hb⟩
    · simp only [Value.slice.injEq] at e
      omega
theorem IVB.ints {w : World} {A : Option Addr} {n c : Nat} {L : List Int} (h : IVB w (.slice A n c) L) : n = L.length ∧ Ints w NoM A L := by
  obtain ⟨A', c', e, h1⟩ := h.iv.form
  simp only [Value.slice.injEq] at e
  obtain ⟨rfl, e2, rfl⟩ := e
  refine ⟨e2, ?_⟩
  have hl := h.iv.len
  rcases h1 with ⟨_, rfl⟩ | ⟨b, off, rfl, hc⟩
  · exact Row.nil_
  · obtain ⟨cs, hb⟩ := h.blk _ _ _ rfl
    refine ⟨by rw [List.length_map]; omega, .inr ⟨b, off, rfl, hb.lt, fun h => h, fun j v hv => ?_⟩⟩
    rw [List.getElem?_map, Option.map_eq_some_iff] at hv
    obtain ⟨x, hx, rfl⟩ := hv
    have hj : j < L.length := (List.getElem?_eq_some_iff.1 hx).1
    have := hc j hj
    rw [List.getD_eq_getElem?_getD, hx] at this
    exact this
/-- In the second loop. -/
structure NuS (w : World) (M : Nat → Prop) (t f m d : Nat) (fv : Value) (mm : Int) (k : Nat) (v : Value) (s : Sp.Sto) (W : World) : Prop where
  st : StAt W M t f m d fv [] s
  ok : s.Ok
  hb : Below w.heap.size w W
  ht : w.heap.size ≤ t ∧ w.heap.size ≤ d
  av : IVB W v s.avail
  mo : s.most = mm
  cnt : s.d.length ≤ k
theorem StAt.not_int {w : World} {M : Nat → Prop} {t f m d : Nat} {fv : Value} {V : List Txt} {s : Sp.Sto} (h : StAt w M t f m d fv V s) : ∀ k cs, Blk w k IntT cs → ¬ TwoM t d k := fun k cs hb e => by
  rcases e with rfl | rfl
  · obtain ⟨uf, ua, h1, _, _⟩ := h.bt
    exact h1.not_ (by decide) _ hb
  · obtain ⟨D, hD, _⟩ := h.dm
    exact hD.not_blk hb
set_option maxRecDepth 100000 in
set_option maxHeartbeats 1600000 in
theorem numbers_walk0 (HK : ∀ W, Calls Tryz.prog 27 #[] W fun e w' => e = .returned (.bool true) ∧ Below W.heap.size W w') (free n most : Int) (hf : 0 ≤ free ∧ free < 65536) (hn : 0 ≤ n ∧ n < 256) (hm : 0 ≤ most ∧ most < 256) (w : World) :
    Calls Tryz.prog 6 #[.int .u16 free, .int .u8 n, .int .u8 most] w fun e w' => e = .returned (.bool true) ∧ Below w.heap.size w w' := by
  obtain ⟨i0, hi0, hz0, hz1, hz2⟩ := info_parts info_int
  obtain ⟨F, rfl⟩ : ∃ F : Nat, free = F := ⟨free.toNat, by omega⟩
  have HKN := Lib.hid (HK w)
  clear HK
  go_enter Tryz.func6, Tryz.ntmps6
  go_upto_region 4 with (go_at_call 27; refine HKN.out.mono ?_; rintro e w1 ⟨rfl, hb1⟩; have HB1 := Lib.hid hb1; clear hb1)
  go_wp2_with fail
  go_loopw [7, 8] (fun v i wr => ∃ k : Nat, k ≤ 16 ∧ i = .int .i64 k ∧ wr.ownsRow w.heap.size IntT 1 v (Sp.bitsTo F k).length ((Sp.bitsTo F k).map iv) ∧ Below w.heap.size w wr) (fun _ i _ => 16 - (intOf i).toNat)
  case atStart => exact ⟨0, by omega, rfl, World.ownsRow_nil _ _ _ _, HB1.out⟩
  case round =>
    obtain ⟨k, hk, rfl, ho, hb⟩ := hrel
    have HO := Lib.hid ho
    have HB := Lib.hid hb
    clear ho hb
    by_cases hk16 : k < 16
    · obtain ⟨A7, c7, rfl⟩ := own_slice HO.out
      have hln := (Sp.bitsTo_rng (free := F) (i := k)).2.2
      have hbt := bit_u16 F k
      by_cases hb1 : F / 2 ^ k % 2 = 1
      · have HE := Lib.hid (Sp.bitsTo_yes hb1)
        rw [decide_eq_true hb1] at hbt
        have hlt := HB.out.size
        clear hb1
        go_wp2_with (at_builtin; refine wpList_append_own _ rfl _ _ 26 rfl w.heap.size IntT i0 _ 1 8 Tryz.underlying26 hi0 hz0 hz1 hz2 rfl (by decide) (.slice A7 (Sp.bitsTo F k).length c7) (Sp.bitsTo F k).length ((Sp.bitsTo F k).map iv) rfl ?c0 ⟨wr.heap.size, 0, none⟩ 1 1 [iv (2 + (k : Int))] rfl rfl ?c1 ?c2 ?c3 ?c4 ?c5 ?_)
        case c0 => exact HO.out.alloc _
        case c1 => exact cell_one_new _ _ _
        case c2 => exact fun u hu => by rw [List.mem_singleton.1 hu]; rfl
        case c3 => simp only [maxLen]; omega
        case c4 => omega
        case c5 => simp; omega
        intro v' w' hown' hgr' _
        have hk2 : Below w.heap.size w (wr.alloc (.cells #[iv (2 + (k : Int))] IntT)) := HB.out.alloc HB.out.size _
        have HO2 := Lib.hid hown'
        have HB2 := Lib.hid (hk2.grown hgr' hk2.size (fun j hj => (HO.out.lt j hj).1))
        clear hown' hgr' hk2
        go_wp2_with fail
        go_roundw
        case rel => exact ⟨k + 1, by omega, by go_num, by rw [HE.out, List.length_append, List.map_append]; exact HO2.out, HB2.out⟩
        case measure => simp [intOf]; omega
      · have HE := Lib.hid (Sp.bitsTo_no hb1)
        rw [decide_eq_false hb1] at hbt
        clear hb1
        go_wp2_with fail
        go_roundw
        case rel => exact ⟨k + 1, by omega, by go_num, by rw [HE.out]; exact HO.out, HB.out⟩
        case measure => simp [intOf]; omega
    · obtain rfl : k = 16 := by omega
      obtain ⟨A7, c7, rfl⟩ := own_slice HO.out
      have hl16 := (Sp.bitsTo_rng (free := F) (i := 16)).2.2
      have HIV := Lib.hid (own_ivb HO.out (by omega))
      generalize hmm : 18 + most % 20 = mm at *
      have hmm2 : 18 ≤ mm ∧ mm < 38 := by omega
      have HS0 := Lib.hid (show (Sp.Sto.new 18 mm (Sp.bitsTo F 16)).avail = Sp.bitsTo F 16 from by
        obtain ⟨h1, h2, _⟩ := Sp.bitsTo_rng (free := F) (i := 16)
        have := Sp.foldl_new (b := min (min (max 18 2) 400) (min (max mm 2) 400)) (Sp.bitsTo F 16) [] h1 (fun x hx => by have := h2 x hx; omega)
        exact this)
      have HS1 := Lib.hid (show (Sp.Sto.new 18 mm (Sp.bitsTo F 16)).last = 18 from rfl)
      have HS2 := Lib.hid (show (Sp.Sto.new 18 mm (Sp.bitsTo F 16)).most = mm from by show min (max mm 2) 400 = mm; omega)
      have HS3 := Lib.hid (show (Sp.Sto.new 18 mm (Sp.bitsTo F 16)).d = [] from rfl)
      have HS4 := Lib.hid (Sp.Sto.new_ok 18 mm (Sp.bitsTo F 16))
      go_upto_region 11 with (first
        | (go_at_call 20; refine (fileNew_nil _).mono ?_; rintro e w2 ⟨f, fv, m, rfl, hf, _, _, hb2⟩; have HF := Lib.hid hf; have HB2 := Lib.hid hb2; clear hf hb2)
        | (go_at_call 28; refine (stoNew_any f m fv [] 18 mm (.slice A7 (Sp.bitsTo F 16).length c7) (Sp.bitsTo F 16) _ HF.out (HIV.out.go HB2.out).iv).mono ?_; rintro e w3 ⟨t, d, M, rfl, hst, hM, hb3, ht, hd⟩; have HST := Lib.hid hst; have HM := Lib.hid hM; have HB3 := Lib.hid hb3; clear hst hM hb3))
      have hzz : w.heap.size ≤ wr.heap.size := HB.out.size
      have hz2 := HB2.out.size
      have HBB := Lib.hid (HB.out.trans ((HB2.out.mono hzz).trans (HB3.out.mono (by omega))))
      have HN0 := Lib.hid (show NuS w M t f m d fv mm 0 (.slice A7 (Sp.bitsTo F 16).length c7) (Sp.Sto.new 18 mm (Sp.bitsTo F 16)) w3 from
        ⟨HST.out, HS4.out, HBB.out, ⟨by omega, by omega⟩, by rw [HS0.out]; exact (HIV.out.go HB2.out).go HB3.out, HS2.out, by rw [HS3.out]; exact Nat.le_refl _⟩)
      have HLN := Lib.hid (show (Sp.bitsTo F 16).length = (Sp.Sto.new 18 mm (Sp.bitsTo F 16)).avail.length from by rw [HS0.out])
      generalize (Sp.bitsTo F 16).length = len0 at *
      generalize Sp.Sto.new 18 mm (Sp.bitsTo F 16) = s0 at *
      clear HIV HST HBB HB HB2 HB3 HS0 HS2 HS3 HS4 HM HF hz2 hzz ht hd HO hl16
      go_wp2_with fail
      obtain ⟨N, hN⟩ : ∃ N : Nat, n % 40 = N := ⟨(n % 40).toNat, by omega⟩
      have hN40 : N < 40 := by omega
      go_loopw [7, 11, 12] (fun v l i wr => ∃ (k : Nat) (s : Sp.Sto) (A : Option Addr) (c : Nat), k ≤ N ∧ i = .int .i64 k ∧ v = .slice A s.avail.length c ∧ l = .int .i64 s.last ∧ NuS w M t f m d fv mm k v s wr) (fun _ _ i _ => N - (intOf i).toNat)
      case atStart => exact ⟨0, s0, A7, c7, Nat.zero_le _, rfl, by rw [HLN.out], by rw [HS1.out], HN0.out⟩
      case round =>
        obtain ⟨k, s, A, c, hk, rfl, rfl, rfl, hs⟩ := hrel
        have S := Lib.hid hs
        clear hs HN0 HLN HS1
        by_cases hkn : k < N
        · have htw := S.out.st.lt t S.out.st.hM.1
          have hdw := S.out.st.lt d S.out.st.hM.2
          have hcn := S.out.cnt
          have hc120 : s.d.length < 120 := by omega
          have HADD := Lib.hid (fun (r : Refs) (W : World) (hb : Below wr.heap.size wr W) (hp : PageRd W (LowB wr) (Sp.lfPg [107]) r) => stoAdd_any M t f m d fv [] s (Sp.lfPg [107]) r W (S.out.st.go hb) S.out.ok hp (fun k hk => by
            show k < wr.heap.size
            rcases hk with rfl | rfl <;> assumption))
          have HOK := Lib.hid (S.out.ok.add (Sp.lfPg [107]))
          obtain ⟨A', c', e, hform⟩ := S.out.av.iv.form
          simp only [Value.slice.injEq] at e
          obtain ⟨rfl, _, rfl⟩ := e
          rcases hav : s.avail with _ | ⟨x, l⟩
          · have hlen : s.avail.length = 0 := by rw [hav]; rfl
            simp only [List.length_nil]
            have hsl := S.out.ok.last
            have hsm : s.most = mm := S.out.mo
            have HLN := Lib.hid (show ∀ (A : Option Addr) (c : Nat), Value.slice A 0 c = Value.slice A s.avail.length c from fun A c => by rw [hlen])
            have HNI := Lib.hid S.out.st.not_int
            have HAV := Lib.hid S.out.av
            by_cases hlm : s.last < mm
            · have HA := Lib.hid (Sp.Sto.add_last (p := Sp.lfPg [107]) hav Sp.lf_k hc120 (by rw [hsm]; exact hlm))
              rw [HA.out] at HADD HOK
              clear hform htw hdw
              go_upto_region 16 with (first
                | (go_at_call 30; refine (leaf_any [107] _).mono ?_; rintro e w4 ⟨r4, rfl, hp4, hb4⟩; have HP4 := Lib.hid hp4; have HB4 := Lib.hid hb4; clear hp4 hb4)
                | (go_at_call 29; refine (HADD.out r4 w4 HB4.out HP4.out).mono ?_; rintro e w5 ⟨rfl, hst5, hk5⟩; have HST5 := Lib.hid hst5; have HK5 := Lib.hid hk5; clear hst5 hk5; simp only [erO]))
              have HK45 := Lib.hid ((Chg.of_below (S := TwoM t d) HB4.out).trans HK5.out)
              have hN5 := Lib.hid (show NuS w M t f m d fv mm (k + 1) (.slice A s.avail.length c) { s with last := s.last + 1, d := Sp.putD s.d s.last (Sp.lfPg [107]) } w5 from
                ⟨HST5.out, HOK.out, S.out.hb.trans (HK45.out.below S.out.hb.size fun j hj e => by
                  have := S.out.ht
                  rcases e with rfl | rfl <;> omega), S.out.ht, HAV.out.chg HK45.out HNI.out, S.out.mo, by
                  have := Sp.putD_len s.d s.last (Sp.lfPg [107])
                  show (Sp.putD s.d s.last (Sp.lfPg [107])).length ≤ k + 1
                  omega⟩)
              clear hav hlen hsm
              go_wp2_with fail
              go_roundw
              case rel => exact ⟨k + 1, { s with last := s.last + 1, d := Sp.putD s.d s.last (Sp.lfPg [107]) }, A, c, by omega, by go_num, HLN.out A c, rfl, by rw [HLN.out A c]; exact hN5.out⟩
              case measure => simp [intOf]; omega
            · have HA := Lib.hid (Sp.Sto.add_full (p := Sp.lfPg [107]) hav Sp.lf_k hc120 (by rw [hsm]; omega))
              rw [HA.out] at HADD HOK
              clear hform htw hdw
              go_upto_region 16 with (first
                | (go_at_call 30; refine (leaf_any [107] _).mono ?_; rintro e w4 ⟨r4, rfl, hp4, hb4⟩; have HP4 := Lib.hid hp4; have HB4 := Lib.hid hb4; clear hp4 hb4)
                | (go_at_call 29; refine (HADD.out r4 w4 HB4.out HP4.out).mono ?_; rintro e w5 ⟨rfl, hst5, hk5⟩; have HST5 := Lib.hid hst5; have HK5 := Lib.hid hk5; clear hst5 hk5; simp only [erO]))
              have HK45 := Lib.hid ((Chg.of_below (S := TwoM t d) HB4.out).trans HK5.out)
              have hN5 := Lib.hid (show NuS w M t f m d fv mm (k + 1) (.slice A s.avail.length c) s w5 from
                ⟨HST5.out, HOK.out, S.out.hb.trans (HK45.out.below S.out.hb.size fun j hj e => by
                  have := S.out.ht
                  rcases e with rfl | rfl <;> omega), S.out.ht, HAV.out.chg HK45.out HNI.out, S.out.mo, by
                  have := S.out.cnt
                  omega⟩)
              clear hav hlen hsm
              go_wp2_with (first
                | (go_at_call 26; refine (errIs_same 14 _).mono ?_; rintro e w6 ⟨rfl, rfl⟩)
                | (go_at_call 31; refine (stoLast_any M t f m d fv [] s _ hN5.out.st).mono ?_; rintro e w6 ⟨rfl, rfl⟩))
              go_roundw
              case rel => exact ⟨k + 1, s, A, c, by omega, by go_num, HLN.out A c, rfl, by rw [HLN.out A c]; exact hN5.out⟩
              case measure => simp [intOf]; omega
          · have hlen : s.avail.length = l.length + 1 := by rw [hav]; rfl
            have HA := Lib.hid (Sp.Sto.add_avail (p := Sp.lfPg [107]) hav Sp.lf_k hc120 S.out.ok.avail)
            rw [HA.out] at HADD HOK
            obtain ⟨b, off, rfl, hcl⟩ : ∃ b off, A = some ⟨b, off, none⟩ ∧ ∀ j, j < s.avail.length → wr.cell? ⟨b, off + j, none⟩ = some (.int .i64 (s.avail.getD j 0)) := by
              rcases hform with ⟨_, e⟩ | h
              · rw [hav] at e; cases e
              · exact h
            have HX := Lib.hid (show wr.cell? ⟨b, off, none⟩ = some (.int .i64 x) from by
              have := hcl 0 (by omega)
              rw [hav] at this
              exact this)
            obtain ⟨csb, hbb⟩ := S.out.av.blk _ _ _ rfl
            have HBB2 := Lib.hid hbb
            have HAV := Lib.hid (show IVB wr (.slice (some ⟨b, off, none⟩) (l.length + 1) c) (x :: l) from by have := S.out.av; rw [hav] at this; exact this)
            have HNI := Lib.hid S.out.st.not_int
            simp only [List.length_cons]
            clear hform hcl hbb hav hlen htw hdw
            go_upto_region 16 with (first
              | (go_at_call 30; refine (leaf_any [107] _).mono ?_; rintro e w4 ⟨r4, rfl, hp4, hb4⟩; have HP4 := Lib.hid hp4; have HB4 := Lib.hid hb4; clear hp4 hb4)
              | (go_at_call 29; refine (HADD.out r4 w4 HB4.out HP4.out).mono ?_; rintro e w5 ⟨rfl, hst5, hk5⟩; have HST5 := Lib.hid hst5; have HK5 := Lib.hid hk5; clear hst5 hk5; simp only [erO]))
            have HK45 := Lib.hid ((Chg.of_below (S := TwoM t d) HB4.out).trans HK5.out)
            have hx0 : w5.cell? ⟨b, off, none⟩ = some (.int .i64 x) := (HK45.out.cell HBB2.out.lt (HNI.out _ _ HBB2.out)).trans HX.out
            have hN5 := Lib.hid (show NuS w M t f m d fv mm (k + 1) (.slice (if c = 1 then some ⟨b, off, none⟩ else some ⟨b, off + 1, none⟩) l.length (c - 1)) { s with avail := l, d := Sp.putD s.d x (Sp.lfPg [107]) } w5 from
              ⟨HST5.out, HOK.out, S.out.hb.trans (HK45.out.below S.out.hb.size fun j hj e => by
                have := S.out.ht
                rcases e with rfl | rfl <;> omega), S.out.ht, (HAV.out.chg HK45.out HNI.out).tail, S.out.mo, by
                have := Sp.putD_len s.d x (Sp.lfPg [107])
                show (Sp.putD s.d x (Sp.lfPg [107])).length ≤ k + 1
                omega⟩)
            go_wp2_with fail
            go_roundw
            case rel => exact ⟨k + 1, { s with avail := l, d := Sp.putD s.d x (Sp.lfPg [107]) }, _, _, by omega, by go_num, rfl, rfl, hN5.out⟩
            case measure => simp [intOf]; omega
        · obtain ⟨_, hints⟩ := S.out.av.ints
          have HIN := Lib.hid hints
          clear hints
          go_wp2_with (first
            | (go_at_call 31; refine (stoLast_any M t f m d fv [] s _ S.out.st).mono ?_; rintro e w6 ⟨rfl, rfl⟩)
            | (go_at_call 32; refine (stoAvail_any M t f m d fv [] s _ S.out.st).mono ?_; rintro e w6 ⟨ru, rfl, ho6, hb6⟩; obtain ⟨Ao, co, rfl⟩ := own_slice ho6; have HO6 := Lib.hid (own_ivb ho6 (by have := S.out.ok.avail.len; omega)); have HB6 := Lib.hid hb6; clear ho6 hb6)
            | (go_at_call 21; refine (dSameInts s.avail s.avail Ao A co c w6 HO6.out.ints.2 (Ints.go HIN.out HB6.out)).mono ?_; rintro e w7 ⟨rfl, hb7⟩; have HB7 := Lib.hid hb7; clear hb7))
          go_ret
          have z1 := S.out.hb.size
          have z2 := HB6.out.size
          exact ⟨by simp, S.out.hb.trans ((HB6.out.mono z1).trans (HB7.out.mono (by omega)))⟩
end Go.Proofs.YtkcfmjlcijhieaaGreat
