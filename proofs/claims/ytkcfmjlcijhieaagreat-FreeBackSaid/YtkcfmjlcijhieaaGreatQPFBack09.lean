/- Free pages parted by an age: the plain law. A list that is packed, and read again: the plain law. A list that is packed, and read again: the law's lists, in plain Lean. -/
import Derived.Test.YtkcfmjlcijhieaaGreatQPFBack07
import Derived.Test.YtkcfmjlcijhieaaGreatQPFBack08
set_option linter.unusedSimpArgs false
set_option linter.unusedVariables false
namespace Go.Proofs.YtkcfmjlcijhieaaGreat
open Go.RowKit
attribute [local go_sem low] mk_extract
attribute [local go_sem] After.cell After.frozen mk_extract_end ByteArray.mk_append_mk
namespace Sp
/-- Where the numbers of the n-th begin. -/
def atP (l : List Nat) (n : Nat) : Nat := 2 + ((l.take n).map fun c => c % 5 + 1).sum
def partF (l : List Nat) (n : Nat) : Free := ⟨n, (List.range (l.getD n 0 % 5 + 1)).map fun k : Nat => (atP l n : Int) + (k : Int)⟩
def partsL (l : List Nat) (n : Nat) : List Free := (List.range n).map (partF l)
theorem atP_succ {l : List Nat} {n : Nat} (h : n < l.length) : atP l (n + 1) = atP l n + (l.getD n 0 % 5 + 1) := by
  unfold atP
  rw [List.take_succ_eq_append_getElem h, List.map_append, List.sum_append]
  simp [List.getD, h]
  omega
theorem partsL_succ (l : List Nat) (n : Nat) : partsL l (n + 1) = partsL l n ++ [partF l n] := by
  unfold partsL
  rw [List.range_succ, List.map_append]
  rfl
theorem partsL_len (l : List Nat) (n : Nat) : (partsL l n).length = n := by simp [partsL]
theorem parts_ids (l : List Nat) : ∀ n, n ≤ l.length → 2 ≤ atP l n ∧ (partsL l n).flatMap (·.ids) = (List.range (atP l n - 2)).map fun k : Nat => 2 + (k : Int)
  | 0, _ => by simp [atP, partsL]
  | n + 1, hn => by
    obtain ⟨h2, ih⟩ := parts_ids l n (by omega)
    have ha := atP_succ (l := l) (n := n) (by omega)
    refine ⟨by omega, ?_⟩
    rw [partsL_succ, List.flatMap_append, ih, ha, show atP l n + (l.getD n 0 % 5 + 1) - 2 = (atP l n - 2) + (l.getD n 0 % 5 + 1) by omega, List.range_add, List.map_append, List.map_map]
    congr 1
    simp only [List.flatMap_cons, List.flatMap_nil, List.append_nil, partF]
    refine List.map_congr_left fun k _ => ?_
    show (atP l n : Int) + (k : Int) = 2 + ((atP l n - 2 + k : Nat) : Int)
    omega
theorem parts_up (l : List Nat) (n : Nat) (hn : n ≤ l.length) : ((partsL l n).flatMap (·.ids)).Pairwise (· < ·) := by
  rw [(parts_ids l n hn).2]
  exact List.pairwise_map.2 (List.Pairwise.imp (fun h => by omega) List.pairwise_lt_range)
theorem flat_len : ∀ l : List Free, (l.flatMap (·.ids)).length = total l
  | [] => rfl
  | x :: l => by
    have := flat_len l
    simp only [List.flatMap_cons, List.length_append, total, List.map_cons, List.sum_cons] at *
    omega
theorem parts_total (l : List Nat) (n : Nat) (hn : n ≤ l.length) : total (partsL l n) = atP l n - 2 := by
  rw [← flat_len, (parts_ids l n hn).2]
  simp
theorem total_part (p : Free → Bool) : ∀ l : List Free, total (l.filter p) + total (l.filter fun f => !p f) = total l
  | [] => rfl
  | x :: l => by
    have ih := total_part p l
    have h3 : ∀ m : List Free, total (x :: m) = x.ids.length + total m := fun m => by simp [total]
    rw [List.filter_cons, List.filter_cons, h3]
    cases hp : p x
    · rw [if_neg (by simp), if_pos (by simp), h3]; omega
    · rw [if_pos rfl, if_neg (by simp), h3]; omega
theorem flat_sub (p : Free → Bool) : ∀ l : List Free, ((l.filter p).flatMap (·.ids)).Sublist (l.flatMap (·.ids))
  | [] => List.Sublist.refl _
  | x :: l => by
    rw [List.filter_cons, List.flatMap_cons]
    split
    · rw [List.flatMap_cons]
      exact (List.Sublist.refl _).append (flat_sub p l)
    · exact (flat_sub p l).trans (List.sublist_append_right _ _)
theorem part_ids (l : List Nat) (n : Nat) : ∀ f ∈ partsL l n, 1 ≤ f.ids.length ∧ f.ids.length ≤ 1000 := by
  intro f hf
  obtain ⟨k, _, rfl⟩ := List.mem_map.1 hf
  simp only [partF, List.length_map, List.length_range]
  omega
theorem atP_le (l : List Nat) (n : Nat) : atP l n ≤ 2 + 5 * n := by
  have : ∀ m : List Nat, (m.map fun c => c % 5 + 1).sum ≤ 5 * m.length := by
    intro m
    induction m with
    | nil => simp
    | cons c m ih => simp only [List.map_cons, List.sum_cons, List.length_cons]; omega
  have h := this (l.take n)
  rw [List.length_take] at h
  unfold atP
  omega
/-- What is told of what may be taken. -/
theorem parts_use (l : List Nat) (n : Nat) (hn : n ≤ l.length) (o : Int) : (usableI (partsL l n) o).Pairwise (· < ·) ∧ (usableI (partsL l n) o).length = total ((partsL l n).filter fun f => decide (f.txn < o)) := by
  have h1 := (parts_up l n hn).sublist (flat_sub (fun f => decide (f.txn < o)) (partsL l n))
  have h2 := usable_lt h1
  exact ⟨by rw [h2]; exact h1, by rw [h2, flat_len]⟩
end Sp
set_option maxRecDepth 100000 in
set_option maxHeartbeats 1600000 in
theorem dIsRow_up (L : List Int) (A : Option Addr) (c : Nat) {M : Nat → Prop} (w : World) (h : Ints w M A L) (hp : L.Pairwise (· < ·)) (hn : L.length ≤ 100000) :
    Calls Tryz.prog 25 #[.slice A L.length c] w fun e w' => e = .returned (.bool true) ∧ Below w.heap.size w w' := by
  have H := Lib.hid h
  have HP := Lib.hid hp
  clear h hp
  go_enter Tryz.func25, Tryz.ntmps25
  go_upto_region 2 with fail
  go_loopw [3] (fun i wr => ∃ j : Nat, 1 ≤ j ∧ i = .int .i64 j ∧ (j ≤ L.length ∨ j = 1) ∧ Below w.heap.size w wr) (fun i _ => L.length + 1 - (intOf i).toNat)
  case atStart => exact ⟨1, by omega, rfl, .inr rfl, Below.refl _ _⟩
  case round =>
    obtain ⟨j, hj1, rfl, hj, hb⟩ := hrel
    have HB := Lib.hid hb
    clear hb
    by_cases hjl : j < L.length
    · obtain ⟨b, off, rfl, hbl, hcl⟩ := H.out.at_ hjl
      have x1 := (HB.out.cell (p := ⟨b, off + j, none⟩) hbl).trans (hcl j hjl)
      have x0 := (HB.out.cell (p := ⟨b, off + (j - 1), none⟩) hbl).trans (hcl (j - 1) (by omega))
      have hlt : L.getD (j - 1) 0 < L.getD j 0 := by
        have h1 : j - 1 < L.length := by omega
        have := List.pairwise_iff_getElem.1 HP.out (j - 1) j h1 hjl (by omega)
        simpa [List.getD, h1, hjl] using this
      obtain ⟨r, hr⟩ : ∃ r, r = j - 1 := ⟨_, rfl⟩
      rw [← hr] at x0 hlt
      generalize L.getD j 0 = y at *
      generalize L.getD r 0 = x at *
      have hyx : ¬ y ≤ x := by omega
      have b2 : (j : Int) - 1 = (r : Int) := by omega
      have b3 : r < L.length := by omega
      clear hr hcl
      go_upto_region 4 with fail
      go_quiet (fail)
      have B2 := Lib.hid (HB.out.trans ((below_drewN (Below.refl wr.heap.size wr) nq).mono HB.out.size))
      go_wp2_with fail
      go_roundw
      case rel => exact ⟨j + 1, by omega, by go_num, by omega, B2.out⟩
      case measure => simp [intOf]; omega
    · go_wp2_with fail
      go_ret
      exact ⟨rfl, HB.out⟩
end Go.Proofs.YtkcfmjlcijhieaaGreat
namespace Go.Proofs.YtkcfmjlcijhieaaGreat
open Go.RowKit
attribute [local go_sem low] mk_extract
attribute [local go_sem] After.cell After.frozen mk_extract_end ByteArray.mk_append_mk
namespace Sp
/-- Each number with its transaction. -/
def prs (l : List Free) : List (Int × Int) := l.flatMap fun f => f.ids.map fun i => (f.txn, i)
theorem prs_app (l m : List Free) : prs (l ++ m) = prs l ++ prs m := List.flatMap_append
theorem prs_one (f : Free) : prs [f] = f.ids.map fun i => (f.txn, i) := by simp [prs]
theorem prs_ids : ∀ l : List Free, (prs l).map (·.2) = l.flatMap (·.ids)
  | [] => rfl
  | x :: l => by
    have := prs_ids l
    simp only [prs, List.flatMap_cons, List.map_append, List.map_map] at *
    rw [this]
    congr 1
    exact (List.map_congr_left fun _ _ => rfl).trans (List.map_id _)
theorem prs_use (o : Int) : ∀ l : List Free, (l.filter fun f => decide (f.txn < o)).flatMap (·.ids) = ((prs l).filter fun x => decide (x.1 < o)).map (·.2)
  | [] => rfl
  | x :: l => by
    have ih := prs_use o l
    have h1 : prs (x :: l) = (x.ids.map fun i => (x.txn, i)) ++ prs l := by simp [prs]
    rw [h1, List.filter_append, List.map_append, ← ih, List.filter_cons]
    by_cases hx : x.txn < o
    · have e : ((x.ids.map fun i => (x.txn, i)).filter fun y : Int × Int => decide (y.1 < o)) = x.ids.map fun i => (x.txn, i) := List.filter_eq_self.2 fun y hy => by
        obtain ⟨i, _, rfl⟩ := List.mem_map.1 hy
        exact decide_eq_true hx
      rw [if_pos (decide_eq_true hx), List.flatMap_cons, e, List.map_map]
      congr 1
      exact ((List.map_congr_left fun _ _ => rfl).trans (List.map_id _)).symm
    · have e : ((x.ids.map fun i => (x.txn, i)).filter fun y : Int × Int => decide (y.1 < o)) = [] := List.filter_eq_nil_iff.2 fun y hy => by
        obtain ⟨i, _, rfl⟩ := List.mem_map.1 hy
        simpa using hx
      rw [if_neg (by simpa using hx), e]
      rfl
theorem prs_len (l : List Free) : (prs l).length = total l := by
  have := congrArg List.length (prs_ids l)
  rw [List.length_map] at this
  rw [this, flat_len]
def onesFrom (t : Int) : Bool → List Int → List One
  | _, [] => []
  | b, i :: l => ⟨t, i, b⟩ :: onesFrom t false l
theorem onesFrom_get (t : Int) : ∀ (b : Bool) (l : List Int) (k : Nat), (onesFrom t b l)[k]? = if k < l.length then some ⟨t, l.getD k 0, if k = 0 then b else false⟩ else none
  | _, [], k => by simp [onesFrom]
  | b, i :: l, 0 => by simp [onesFrom]
  | b, i :: l, k + 1 => by
    simp only [onesFrom, List.getElem?_cons_succ]
    rw [onesFrom_get t false l k]
    by_cases h : k < l.length
    · rw [if_pos h, if_pos (show k + 1 < (i :: l).length from Nat.succ_lt_succ h)]
      simp
    · rw [if_neg h, if_neg (show ¬ k + 1 < (i :: l).length from fun h' => h (Nat.lt_of_succ_lt_succ h'))]
theorem onesF_is (f : Free) : onesF f = onesFrom f.txn true f.ids := by
  refine List.ext_getElem? fun k => ?_
  rw [onesFrom_get]
  unfold onesF
  rw [List.getElem?_map]
  by_cases h : k < f.ids.length
  · rw [if_pos h, List.getElem?_range h]
    by_cases h0 : k = 0
    · subst h0; simp
    · simp [h0]
  · rw [if_neg h, List.getElem?_eq_none (by simp; omega)]
    rfl
/-- Those that begin no row follow one of their transaction. -/
def Ch : Option Int → List One → Prop
  | _, [] => True
  | none, x :: L => Ch (some x.txn) L
  | some t, x :: L => (x.new = false → x.txn = t) ∧ Ch (some x.txn) L
theorem Ch.none_ {t : Option Int} {L : List One} (h : Ch t L) : Ch none L := by
  cases L with
  | nil => trivial
  | cons x L =>
    cases t with
    | none => exact h
    | some t => exact h.2
theorem Ch.tail {t : Option Int} {x : One} {L : List One} (h : Ch t (x :: L)) : Ch none L := by
  cases t with
  | none => exact Ch.none_ (t := some x.txn) h
  | some t => exact Ch.none_ h.2
theorem Ch.drop : ∀ (k : Nat) {t : Option Int} {L : List One}, Ch t L → Ch none (L.drop k)
  | 0, _, _, h => h.none_
  | _ + 1, _, [], _ => trivial
  | k + 1, _, _ :: _, h => Ch.drop k h.tail
theorem Ch.take : ∀ (k : Nat) {t : Option Int} {L : List One}, Ch t L → Ch t (L.take k)
  | 0, _, _, _ => by rw [List.take_zero]; trivial
  | _ + 1, _, [], _ => trivial
  | k + 1, none, _ :: _, h => Ch.take k h
  | k + 1, some _, _ :: _, h => ⟨h.1, Ch.take k h.2⟩
theorem ch_from {M : List One} (hM : ∀ t, Ch t M) (t : Int) : ∀ (b : Bool) (l : List Int) (s : Option Int), (b = true ∨ s = some t) → Ch s (onesFrom t b l ++ M)
  | _, [], s, _ => hM s
  | b, i :: l, none, _ => ch_from hM t false l (some t) (.inr rfl)
  | b, i :: l, some s, h => ⟨fun hb => by
      have hb : b = false := hb
      rcases h with h | h
      · rw [hb] at h; cases h
      · injection h with h
        exact h.symm, ch_from hM t false l (some t) (.inr rfl)⟩
theorem ch_ones : ∀ (l : List Free) (t : Option Int), Ch t (onesOf l)
  | [], _ => trivial
  | x :: l, t => by
    show Ch t (onesF x ++ onesOf l)
    rw [onesF_is]
    exact ch_from (ch_ones l) x.txn true x.ids t (.inl rfl)
theorem ones_prs : ∀ l : List Free, (onesOf l).map (fun x => (x.txn, x.id)) = prs l
  | [] => rfl
  | x :: l => by
    have ih := ones_prs l
    have h : ∀ (b : Bool) (m : List Int), (onesFrom x.txn b m).map (fun x => (x.txn, x.id)) = m.map fun i => (x.txn, i) := by
      intro b m
      induction m generalizing b with
      | nil => rfl
      | cons i m ih => simp only [onesFrom, List.map_cons, ih]
    show (onesF x ++ onesOf l).map _ = _
    rw [List.map_append, ih, onesF_is, h]
    simp [prs]
theorem fold_prs : ∀ (L : List One) (out : List Free), Ch (out.getLast?.map (·.txn)) L → prs (L.foldl rowStep out) = prs out ++ L.map fun x => (x.txn, x.id)
  | [], out, _ => by simp
  | x :: L, out, h => by
    rw [List.foldl_cons]
    by_cases hx : x.new = true ∨ out = []
    · rw [rowStep_new hx, fold_prs L]
      · rw [prs_app, prs_one]
        simp
      · have : ((out ++ [(⟨x.txn, [x.id]⟩ : Free)]).getLast?.map (·.txn)) = some x.txn := by simp
        rw [this]
        cases ho : out.getLast?.map (·.txn) with
        | none => rw [ho] at h; exact h
        | some t => rw [ho] at h; exact h.2
    · obtain ⟨hn, hne⟩ := not_or.1 hx
      have hn : x.new = false := by simpa using hn
      obtain ⟨init, last, rfl⟩ : ∃ init last, out = init ++ [last] := ⟨out.dropLast, out.getLast hne, (List.dropLast_concat_getLast hne).symm⟩
      have hl : ((init ++ [last]).getLast?.map (·.txn)) = some last.txn := by simp
      rw [hl] at h
      have ht : x.txn = last.txn := h.1 hn
      rw [rowStep_old hn, fold_prs L]
      · rw [prs_app, prs_app, prs_one, prs_one, ← ht]
        simp
      · have : ((init ++ [(⟨last.txn, last.ids ++ [x.id]⟩ : Free)]).getLast?.map (·.txn)) = some x.txn := by simp [ht]
        rw [this]
        exact h.2
theorem fold_ne : ∀ (L : List One) (out : List Free), (∀ f ∈ out, f.ids ≠ []) → ∀ f ∈ L.foldl rowStep out, f.ids ≠ []
  | [], _, h => h
  | x :: L, out, h => by
    rw [List.foldl_cons]
    refine fold_ne L _ fun f hf => ?_
    by_cases hx : x.new = true ∨ out = []
    · rw [rowStep_new hx] at hf
      rcases List.mem_append.1 hf with hf | hf
      · exact h f hf
      · rw [List.mem_singleton.1 hf]; simp
    · obtain ⟨hn, hne⟩ := not_or.1 hx
      obtain ⟨init, last, rfl⟩ : ∃ init last, out = init ++ [last] := ⟨out.dropLast, out.getLast hne, (List.dropLast_concat_getLast hne).symm⟩
      rw [rowStep_old (by simpa using hn)] at hf
      rcases List.mem_append.1 hf with hf | hf
      · exact h f (by simp [hf])
      · rw [List.mem_singleton.1 hf]; simp
theorem rowI_prs (l : List Free) (k : Nat) : prs (rowI ((onesOf l).drop k)) = ((prs l).drop k).take 20 := by
  have hc : Ch none (((onesOf l).drop k).take 20) := Ch.take 20 (Ch.drop k (ch_ones l none))
  unfold rowI
  rw [fold_prs _ [] (by simpa using hc), List.map_take, List.map_drop, ones_prs]
  simp [prs]
theorem rowI_ne (L : List One) : ∀ f ∈ rowI L, f.ids ≠ [] := fold_ne _ [] fun f hf => by cases hf
/-- The i-th page's row. -/
def rowN (l : List Free) (i : Nat) : List Free := rowI ((onesOf l).drop (20 * i))
theorem rows_prs (l : List Free) : ∀ k, prs ((List.range k).flatMap (rowN l)) = (prs l).take (20 * k)
  | 0 => by simp [prs]
  | k + 1 => by
    rw [List.range_succ, List.flatMap_append, prs_app, rows_prs l k]
    simp only [List.flatMap_cons, List.flatMap_nil, List.append_nil]
    rw [rowN, rowI_prs, show 20 * (k + 1) = 20 * k + 20 by omega, List.take_add]
/-- What is asked of a list. -/
structure GoodL (l : List Free) : Prop where
  up : ((prs l).map (·.2)).Pairwise (· < ·)
  tx : ((prs l).map (·.1)).Pairwise (· ≤ ·)
  rg : ∀ x ∈ prs l, 2 ≤ x.2 ∧ x.2 < 400
  tr : ∀ x ∈ prs l, 0 ≤ x.1 ∧ x.1 < 18446744073709551616
theorem prs_txns : ∀ l : List Free, (∀ f ∈ l, f.ids ≠ []) → (l.map (·.txn)).Sublist ((prs l).map (·.1))
  | [], _ => List.Sublist.refl _
  | x :: l, h => by
    have ih := prs_txns l fun f hf => h f (by simp [hf])
    have hx := h x (by simp)
    have e : prs (x :: l) = (x.ids.map fun i => (x.txn, i)) ++ prs l := by simp [prs]
    rw [e, List.map_append, List.map_cons]
    cases hi : x.ids with
    | nil => exact absurd hi hx
    | cons i m =>
      simp only [List.map_cons, List.cons_append]
      exact (ih.trans (List.sublist_append_right _ _)).cons_cons _
theorem free_of_prs {r : List Free} (hne : ∀ f ∈ r, f.ids ≠ []) (h : GoodL r) (ht : total r ≤ 20) {nx : Int} (hn : noneOr nx = true) : isPage (frPg r nx) = true := by
  have hf : isFree (frPg r nx) = true := by
    unfold isFree
    rw [Bool.and_eq_true, Bool.and_eq_true]
    refine ⟨⟨allTo_iff.2 fun i hi => ?_, decide_eq_true ht⟩, hn⟩
    have hi : i < r.length := hi
    have e : ∀ j, j < r.length → r.getD j free0 ∈ r := fun j hj => by
      rw [show r.getD j free0 = r[j] by simp [List.getD, hj]]
      exact List.getElem_mem hj
    show freeAt r i = true
    rw [freeAt_def, Bool.and_eq_true, Bool.and_eq_true, Bool.or_eq_true]
    refine ⟨⟨decide_eq_true (hne _ (e i hi)), ?_⟩, ?_⟩
    · rcases Nat.eq_zero_or_pos i with h0 | h0
      · exact .inl (decide_eq_true h0)
      · right
        have h1 := h.tx.sublist (prs_txns r hne)
        have h2 := List.pairwise_iff_getElem.1 h1 (i - 1) i (by rw [List.length_map]; omega) (by rw [List.length_map]; omega) (by omega)
        rw [List.getElem_map, List.getElem_map] at h2
        refine decide_eq_true ?_
        rw [show r.getD (i - 1) free0 = r[i - 1] by simp [List.getD, show i - 1 < r.length by omega], show r.getD i free0 = r[i] by simp [List.getD, hi]]
        exact h2
    · have hm := e i hi
      generalize r.getD i free0 = f at *
      have hsub : (f.ids.map fun i => (f.txn, i)).Sublist (prs r) := by
        unfold prs
        rw [List.flatMap_def]
        exact List.sublist_flatten_of_mem (List.mem_map.2 ⟨f, hm, rfl⟩)
      have hup : f.ids.Pairwise (· < ·) := by
        have := h.up.sublist (hsub.map (·.2))
        rw [List.map_map] at this
        rwa [show f.ids.map ((fun x : Int × Int => x.2) ∘ fun i => (f.txn, i)) = f.ids from (List.map_congr_left fun _ _ => rfl).trans (List.map_id _)] at this
      have hr : ∀ y ∈ f.ids, 2 ≤ y ∧ y < 400 := fun y hy => h.rg (f.txn, y) (hsub.subset (List.mem_map.2 ⟨y, hy, rfl⟩))
      refine allTo_iff.2 fun k hk => ?_
      rw [idAt_def, Bool.and_eq_true, Bool.or_eq_true]
      have ek : f.ids.getD k 0 = f.ids[k] := by simp [List.getD, hk]
      refine ⟨?_, ?_⟩
      · have := hr f.ids[k] (List.getElem_mem hk)
        unfold isID
        rw [ek, Bool.and_eq_true]
        exact ⟨decide_eq_true this.1, decide_eq_true this.2⟩
      · rcases Nat.eq_zero_or_pos k with h0 | h0
        · exact .inl (decide_eq_true h0)
        · right
          refine decide_eq_true ?_
          rw [ek, show f.ids.getD (k - 1) 0 = f.ids[k - 1] by simp [List.getD, show k - 1 < f.ids.length by omega]]
          exact List.pairwise_iff_getElem.1 hup (k - 1) k (by omega) hk (by omega)
  unfold isPage
  rw [if_neg (by decide : ¬ (5 : Int) = 1), if_neg (by decide : ¬ (5 : Int) = 2), if_neg (by decide : ¬ (5 : Int) = 3), if_neg (by decide : ¬ (5 : Int) = 4), if_pos rfl, hf, Bool.and_true]
  refine decide_eq_true ?_
  simp [has]
end Sp
end Go.Proofs.YtkcfmjlcijhieaaGreat
namespace Go.Proofs.YtkcfmjlcijhieaaGreat
open Go.RowKit
attribute [local go_sem low] mk_extract
attribute [local go_sem] After.cell After.frozen mk_extract_end ByteArray.mk_append_mk
namespace Sp
theorem insI_tail {n : Int} {L : List Int} (h : ∀ x ∈ L, x < n) : insI n L = L ++ [n] := by
  have hp : posI n L = L.length := by
    unfold posI
    rw [List.countP_eq_length]
    exact fun x hx => decide_eq_true (h x hx)
  unfold insI
  rw [if_neg (fun hm => by have := h n hm; omega), hp, List.take_length, List.drop_length]
/-- The page behind the i-th. -/
def nxB (k i : Nat) : Int := if i + 1 < k then 3 + (i : Int) else 0
def backV (R : Nat → List Free) (k : Nat) : Nat → List Txt := fun n => [[], []] ++ (List.range n).map fun i => bytes (frPg (R i) (nxB k i))
theorem backV_succ (R : Nat → List Free) (k n : Nat) : backV R k (n + 1) = backV R k n ++ [bytes (frPg (R n) (nxB k n))] := by
  unfold backV
  rw [List.range_succ, List.map_append, List.append_assoc]
  rfl
theorem backV_len (R : Nat → List Free) (k n : Nat) : (backV R k n).length = n + 2 := by
  unfold backV
  rw [List.length_append, List.length_map, List.length_range]
  simp
  omega
theorem bytes_le5 (p : Page) : (bytes p).length ≤ 2000000 := by
  cases h : isPage p with
  | false => simp [bytes, h]
  | true =>
    have := partsB_le h
    rw [bytes_of h]
    simp only [body, List.length_append, le8_length]
    omega
theorem backV_sz (R : Nat → List Free) (k n : Nat) : ∀ s ∈ backV R k n, s.length ≤ 4611686018427387904 := by
  intro s hs
  rcases List.mem_append.1 hs with hs | hs
  · rcases List.mem_cons.1 hs with rfl | hs
    · simp
    · rw [List.mem_singleton.1 hs]; simp
  · obtain ⟨i, _, rfl⟩ := List.mem_map.1 hs
    have := bytes_le5 (frPg (R i) (nxB k i))
    omega
theorem backV_at (R : Nat → List Free) (k n j : Nat) (hj : j < n) : atV (backV R k n) (2 + (j : Int)) = bytes (frPg (R j) (nxB k j)) := by
  unfold atV backV
  rw [if_neg (by omega), show (2 + (j : Int)).toNat = j + 2 by omega]
  rw [List.getD_eq_getElem?_getD, List.getElem?_append_right (by simp)]
  simp [hj]
theorem nxB_ok {k i : Nat} (hk : k ≤ 18) : noneOr (nxB k i) = true := by
  unfold nxB noneOr isID
  split
  · simp; omega
  · simp
theorem reads_rows (R : Nat → List Free) (k : Nat) (h1 : 1 ≤ k) (h18 : k ≤ 18) (hR : ∀ i, i < k → isPage (frPg (R i) (nxB k i)) = true ∧ Rng (frPg (R i) (nxB k i))) :
    freesI (backV R k k) 400 500 2 [] [] = (((List.range k).flatMap R, (List.range k).map fun i : Nat => 2 + (i : Int)), none) := by
  have key : ∀ d j, j + d = k → freesI (backV R k k) 400 (500 - j) (if j = k then 0 else 2 + (j : Int)) ((List.range j).flatMap R) ((List.range j).map fun i : Nat => 2 + (i : Int)) = (((List.range k).flatMap R, (List.range k).map fun i : Nat => 2 + (i : Int)), none) := by
    intro d
    induction d with
    | zero =>
      intro j hj
      have hj : j = k := by omega
      subst hj
      rw [if_pos rfl, show 500 - j = (499 - j) + 1 by omega, freesI_zero]
    | succ d ih =>
      intro j hj
      have hjk : j < k := by omega
      obtain ⟨hp, hr⟩ := hR j hjk
      have he : readF (atV (backV R k k) (2 + (j : Int))) = (frPg (R j) (nxB k j), none) := by
        rw [backV_at R k k j hjk]
        unfold readF
        rw [if_pos (readOk_bytes hp hr), parse_bytes hp hr]
      rw [if_neg (by omega), show 500 - j = (500 - (j + 1)) + 1 by omega]
      rw [freesI_next' _ _ _ _ _ _ he (by omega) (by omega) rfl (by
        intro hm
        obtain ⟨i, hi, e⟩ := List.mem_map.1 hm
        have := List.mem_range.1 hi
        omega)]
      have hnx : (frPg (R j) (nxB k j)).next = if j + 1 = k then 0 else 2 + ((j + 1 : Nat) : Int) := by
        show nxB k j = _
        unfold nxB
        by_cases h : j + 1 < k
        · rw [if_pos h, if_neg (by omega)]; omega
        · rw [if_neg h, if_pos (by omega)]
      have hon : insI (2 + (j : Int)) ((List.range j).map fun i : Nat => 2 + (i : Int)) = (List.range (j + 1)).map fun i : Nat => 2 + (i : Int) := by
        rw [insI_tail (fun x hx => by
          obtain ⟨i, hi, rfl⟩ := List.mem_map.1 hx
          have := List.mem_range.1 hi
          omega), List.range_succ, List.map_append]
        rfl
      have hout : (List.range j).flatMap R ++ (frPg (R j) (nxB k j)).free = (List.range (j + 1)).flatMap R := by
        rw [List.range_succ, List.flatMap_append]
        simp
      rw [hnx, hon, hout]
      exact ih (j + 1) (by omega)
  have := key k 0 (by omega)
  rw [if_neg (by omega)] at this
  exact this
theorem GoodL.sub {l m : List Free} (h : GoodL l) (hs : (prs m).Sublist (prs l)) : GoodL m :=
  ⟨h.up.sublist (hs.map _), h.tx.sublist (hs.map _), fun x hx => h.rg x (hs.subset hx), fun x hx => h.tr x (hs.subset hx)⟩
theorem GoodL.row {l : List Free} (h : GoodL l) (i : Nat) : GoodL (rowN l i) := h.sub (by
  rw [rowN, rowI_prs]
  exact (List.take_sublist _ _).trans (List.drop_sublist _ _))
theorem row_total (l : List Free) (i : Nat) : total (rowN l i) ≤ 20 := by
  rw [← prs_len, rowN, rowI_prs, List.length_take]
  omega
theorem len_total : ∀ l : List Free, (∀ f ∈ l, f.ids ≠ []) → l.length ≤ total l
  | [], _ => Nat.zero_le _
  | x :: l, h => by
    have ih := len_total l fun f hf => h f (by simp [hf])
    have hx : 0 < x.ids.length := List.length_pos_iff.2 (h x (by simp))
    have h3 : total (x :: l) = x.ids.length + total l := by simp [total]
    rw [h3, List.length_cons]
    omega
theorem row_len (l : List Free) (i : Nat) : (rowN l i).length ≤ 20 := Nat.le_trans (len_total _ (rowI_ne _)) (row_total l i)
theorem GoodL.rng {l : List Free} (h : GoodL l) (i : Nat) (nx : Int) : Rng (frPg (rowN l i) nx) := by
  refine ⟨fun f hf => ?_, by show (0 : Int) ≤ 0; omega, by show (0 : Int) < _; omega⟩
  have hf : f ∈ rowN l i := hf
  have hne := rowI_ne _ f hf
  obtain ⟨y, hy⟩ := List.exists_mem_of_ne_nil _ hne
  exact (h.row i).tr (f.txn, y) (List.mem_flatMap.2 ⟨f, hf, List.mem_map.2 ⟨y, hy, rfl⟩⟩)
/-- What is read of what is packed. -/
theorem GoodL.back {l : List Free} (h : GoodL l) (k : Nat) (h1 : 1 ≤ k) (h18 : k ≤ 18) (ht : total l ≤ 20 * k) :
    ∃ m, freesI (backV (rowN l) k k) 400 500 2 [] [] = ((m, (List.range k).map fun i : Nat => 2 + (i : Int)), none) ∧ prs m = prs l ∧ ∀ f ∈ m, f.ids ≠ [] := by
  refine ⟨_, reads_rows (rowN l) k h1 h18 fun i _ => ⟨free_of_prs (rowI_ne _) (h.row i) (row_total l i) (nxB_ok h18), h.rng i _⟩, ?_, fun f hf => ?_⟩
  · rw [rows_prs, List.take_of_length_le (by rw [prs_len]; exact ht)]
  · obtain ⟨i, _, hf⟩ := List.mem_flatMap.1 hf
    exact rowI_ne _ f hf
theorem GoodL.use {l : List Free} (h : GoodL l) (o : Int) : usableI l o = ((prs l).filter fun x => decide (x.1 < o)).map (·.2) := by
  have hu : (l.flatMap (·.ids)).Pairwise (· < ·) := by rw [← prs_ids]; exact h.up
  rw [usable_lt (hu.sublist (flat_sub _ l)), prs_use]
/-- The law's list. -/
def aB (cn : List Nat) (n : Nat) : Nat := 20 + ((cn.take n).map fun c => c % 30 + 1).sum
def tB (tx : List Nat) (n : Nat) : Nat := 1 + ((tx.take n).map fun c => c % 3).sum
def backF (tx cn : List Nat) (n : Nat) : Free := ⟨tB tx n, (List.range (cn.getD n 0 % 30 + 1)).map fun k : Nat => (aB cn n : Int) + (k : Int)⟩
def backL (tx cn : List Nat) (n : Nat) : List Free := (List.range n).map (backF tx cn)
theorem aB_succ {cn : List Nat} {n : Nat} (h : n < cn.length) : aB cn (n + 1) = aB cn n + (cn.getD n 0 % 30 + 1) := by
  unfold aB
  rw [List.take_succ_eq_append_getElem h, List.map_append, List.sum_append]
  simp [List.getD, h]
  omega
theorem aB_le (cn : List Nat) (n : Nat) : aB cn n ≤ 20 + 30 * n ∧ 20 ≤ aB cn n := by
  have : ∀ m : List Nat, (m.map fun c => c % 30 + 1).sum ≤ 30 * m.length := by
    intro m
    induction m with
    | nil => simp
    | cons c m ih => simp only [List.map_cons, List.sum_cons, List.length_cons]; omega
  have h := this (cn.take n)
  rw [List.length_take] at h
  unfold aB
  omega
theorem tB_succ (tx : List Nat) (n : Nat) : tB tx (n + 1) = tB tx n + if n < tx.length then tx.getD n 0 % 3 else 0 := by
  unfold tB
  by_cases h : n < tx.length
  · rw [if_pos h, List.take_succ_eq_append_getElem h, List.map_append, List.sum_append]
    simp [List.getD, h]
    omega
  · rw [if_neg h, List.take_of_length_le (by omega), List.take_of_length_le (by omega)]
    omega
theorem tB_le (tx : List Nat) (n : Nat) : tB tx n ≤ 1 + 2 * n := by
  induction n with
  | zero => simp [tB]
  | succ n ih =>
    rw [tB_succ]
    split <;> omega
theorem backL_succ (tx cn : List Nat) (n : Nat) : backL tx cn (n + 1) = backL tx cn n ++ [backF tx cn n] := by
  unfold backL
  rw [List.range_succ, List.map_append]
  rfl
theorem backL_len (tx cn : List Nat) (n : Nat) : (backL tx cn n).length = n := by simp [backL]
theorem back_ids (tx cn : List Nat) (n : Nat) : ∀ f ∈ backL tx cn n, 1 ≤ f.ids.length ∧ f.ids.length ≤ 1000 := by
  intro f hf
  obtain ⟨k, _, rfl⟩ := List.mem_map.1 hf
  simp only [backF, List.length_map, List.length_range]
  omega
theorem back_good (tx cn : List Nat) : ∀ n, n ≤ cn.length → n ≤ 12 → GoodL (backL tx cn n) ∧ (∀ x ∈ prs (backL tx cn n), x.1 ≤ tB tx n ∧ x.2 < aB cn n) ∧ total (backL tx cn n) = aB cn n - 20
  | 0, _, _ => by
    refine ⟨⟨?_, ?_, ?_, ?_⟩, ?_, ?_⟩ <;> simp [backL, prs, total, aB]
  | n + 1, hn, h12 => by
    obtain ⟨hg, hx, ht⟩ := back_good tx cn n (by omega) (by omega)
    have ha := aB_succ (cn := cn) (n := n) (by omega)
    have hb := aB_le cn n
    have hb1 := aB_le cn (n + 1)
    have htl := tB_le tx n
    have hts := tB_succ tx n
    have hnew : prs [backF tx cn n] = (backF tx cn n).ids.map fun i => ((tB tx n : Int), i) := prs_one _
    have hin : ∀ x ∈ prs [backF tx cn n], x.1 = tB tx n ∧ (aB cn n : Int) ≤ x.2 ∧ x.2 < aB cn (n + 1) := fun x hx => by
      rw [hnew] at hx
      obtain ⟨i, hi, rfl⟩ := List.mem_map.1 hx
      obtain ⟨k, hk, rfl⟩ := List.mem_map.1 hi
      have := List.mem_range.1 hk
      refine ⟨rfl, by show (aB cn n : Int) ≤ _; omega, by show (aB cn n : Int) + _ < _; omega⟩
    have hup : ((prs [backF tx cn n]).map (·.2)).Pairwise (· < ·) := by
      rw [prs_ids]
      simp only [List.flatMap_cons, List.flatMap_nil, List.append_nil, backF]
      exact List.pairwise_map.2 (List.Pairwise.imp (fun h => by omega) List.pairwise_lt_range)
    rw [backL_succ]
    refine ⟨⟨?_, ?_, ?_, ?_⟩, ?_, ?_⟩
    · rw [prs_app, List.map_append]
      refine List.pairwise_append.2 ⟨hg.up, hup, fun a ha' b hb' => ?_⟩
      obtain ⟨x, hx', rfl⟩ := List.mem_map.1 ha'
      obtain ⟨y, hy', rfl⟩ := List.mem_map.1 hb'
      have := (hx x hx').2
      have := (hin y hy').2.1
      omega
    · rw [prs_app, List.map_append]
      refine List.pairwise_append.2 ⟨hg.tx, ?_, fun a ha' b hb' => ?_⟩
      · refine List.pairwise_iff_getElem.2 fun i j hi hj _ => ?_
        have e : ∀ i (hi : i < ((prs [backF tx cn n]).map (·.1)).length), ((prs [backF tx cn n]).map (·.1))[i] = (tB tx n : Int) := fun i hi => by
          obtain ⟨x, hx', e⟩ := List.mem_map.1 (List.getElem_mem hi)
          rw [← e]
          exact (hin x hx').1
        rw [e i hi, e j hj]
        exact Int.le_refl _
      · obtain ⟨x, hx', rfl⟩ := List.mem_map.1 ha'
        obtain ⟨y, hy', rfl⟩ := List.mem_map.1 hb'
        rw [(hin y hy').1]
        exact (hx x hx').1
    · intro x hx'
      rw [prs_app] at hx'
      rcases List.mem_append.1 hx' with hx' | hx'
      · exact hg.rg x hx'
      · have := hin x hx'
        omega
    · intro x hx'
      rw [prs_app] at hx'
      rcases List.mem_append.1 hx' with hx' | hx'
      · exact hg.tr x hx'
      · have := (hin x hx').1
        omega
    · intro x hx'
      rw [prs_app] at hx'
      rcases List.mem_append.1 hx' with hx' | hx'
      · have := hx x hx'
        have : (tB tx n : Int) ≤ tB tx (n + 1) := by rw [hts]; omega
        omega
      · have := hin x hx'
        have : (tB tx n : Int) ≤ tB tx (n + 1) := by rw [hts]; omega
        omega
    · have : total (backL tx cn n ++ [backF tx cn n]) = total (backL tx cn n) + (backF tx cn n).ids.length := by simp [total]
      rw [this, ht, ha]
      simp only [backF, List.length_map, List.length_range]
      omega
end Sp
end Go.Proofs.YtkcfmjlcijhieaaGreat
