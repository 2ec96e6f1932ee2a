/- Copies of rows: texts, items, free pages. Printed by gen_cl.py. Rows of numbers: a copy, a search, one more put in: the library's functions by the shelf's contracts. Rows of numbers: one more put in at its place; the package's ids: With, Has. -/
import Derived.Test.YtkcfmjlcijhieaaGreatQB01
import Derived.Test.YtkcfmjlcijhieaaGreatQB03
import Derived.Test.YtkcfmjlcijhieaaGreatQB04
import Derived.Shelf.Slices.Clone
import Derived.Shelf.Slices.SearchI
import Derived.Shelf.Slices.Empties
import Derived.Shelf.Spec.SlicesInsertGrow
set_option linter.unusedSimpArgs false
set_option linter.unusedVariables false
namespace Go.Proofs.YtkcfmjlcijhieaaGreat
open Go.RowKit
attribute [local go_sem low] mk_extract
attribute [local go_sem] After.cell After.frozen mk_extract_end ByteArray.mk_append_mk
theorem cell_blk {w : World} {a : Addr} {u : Value} (h : w.cell? a = some u) : a.block < w.heap.size := by
  unfold World.cell? at h
  cases hq : w.heap[a.block]? with
  | none => simp [hq] at h
  | some o => exact (Array.getElem?_eq_some_iff.1 hq).1
theorem add_block (a : Addr) (j : Nat) : (a.add j).block = a.block := by unfold Addr.add; split <;> rfl
set_option maxRecDepth 100000 in
set_option maxHeartbeats 1600000 in
theorem cloneS_any (A : Option Addr) (n c : Nat) (xs : List Value) (w : World) (hl : xs.length = n * 1) (hA : A = none → n = 0) (hc : ∀ a, A = some a → ∀ j u, xs[j]? = some u → w.cell? (a.add j) = some u) (h1 : ∀ u ∈ xs, u.oneCell' = true) (hn : n ≤ 1000000) :
    Calls Tryz.prog 66 #[.slice A n c] w fun e w' => ∃ u', e = .returned u' ∧ w'.ownsRow w.heap.size StrT 1 u' n xs ∧ Below w.heap.size w w' := by
  obtain ⟨i0, hi0, hz0, hz1, hz2⟩ := info_parts info_str
  have hnl := fun W => Lib.run_eql_slice_nil (P := Tryz.prog) W 32 _ A n c 0 0 Tryz.underlying32
  rcases A with _ | a
  · obtain rfl := hA rfl
    obtain rfl : xs = [] := List.eq_nil_of_length_eq_zero (by omega)
    clear hA hc h1 hl hn
    go_enter Tryz.func66, Tryz.ntmps66
    go_wp2_with fail
    go_ret
    exact ⟨_, rfl, ⟨rfl, .inl ⟨rfl, rfl⟩⟩, Below.refl _ _⟩
  · have HC := Lib.hid (fun j u hu => hc a rfl j u hu)
    have HL := Lib.hid hl
    have H1 := Lib.hid h1
    have HN := Lib.hid hn
    clear hA hc h1 hl hn
    go_enter Tryz.func66, Tryz.ntmps66
    go_wp2_with (at_builtin; refine wpList_append_own _ rfl _ _ 32 rfl w.heap.size StrT i0 _ 1 16 Tryz.underlying32 hi0 hz0 hz1 hz2 rfl (by decide) _ 0 [] rfl ?c0 a n c xs rfl ?c6 ?c1 ?c2 ?c3 ?c4 ?c5 ?_)
    case c0 => exact ⟨rfl, .inr ⟨w.heap.size, 0, #[], rfl, Nat.le_refl _, heap_alloc_new _ _, Nat.le_refl _, by simp [maxLen], rfl, rfl⟩⟩
    case c6 => exact HL.out
    case c1 =>
      intro j u hu
      have h := HC.out j u hu
      have hal : Below w.heap.size w (w.alloc (.cells #[] StrT)) := (Below.refl _ _).alloc (Nat.le_refl _) _
      exact (hal.cell (p := a.add j) (cell_blk h)).trans h
    case c2 => exact H1.out
    case c3 => have := HN.out; simp only [maxLen]; omega
    case c4 => have := HN.out; omega
    case c5 => simp
    intro v' w' hown' hgr' hnil
    have hb2 : Below w.heap.size w w' := by
      have h1 : Below w.heap.size w (w.alloc (.cells #[] StrT)) := (Below.refl _ _).alloc (Nat.le_refl _) _
      exact h1.trans (Chg.below (S := fun k => some w.heap.size = some k) (Chg.of_grown hgr' (fun k hk => .inl (by simpa [Value.ownBlock] using hk))) (by simp) (fun k hk e => by simp at e; omega))
    have HB := Lib.hid hb2
    have HO := Lib.hid (show w'.ownsRow w.heap.size StrT 1 v' n xs by simpa using hown')
    clear hown' hgr' hb2 hnil
    go_wp2_with fail
    go_ret
    exact ⟨v', rfl, HO.out, HB.out⟩
set_option maxRecDepth 100000 in
set_option maxHeartbeats 1600000 in
theorem cloneM_any (A : Option Addr) (n c : Nat) (xs : List Value) (w : World) (hl : xs.length = n * 10) (hA : A = none → n = 0) (hc : ∀ a, A = some a → ∀ j u, xs[j]? = some u → w.cell? (a.add j) = some u) (h1 : ∀ u ∈ xs, u.oneCell' = true) (hn : n ≤ 1000000) :
    Calls Tryz.prog 109 #[.slice A n c] w fun e w' => ∃ u', e = .returned u' ∧ w'.ownsRow w.heap.size ItemT 10 u' n xs ∧ Below w.heap.size w w' := by
  obtain ⟨i0, hi0, hz0, hz1, hz2⟩ := info_parts info_item
  have hnl := fun W => Lib.run_eql_slice_nil (P := Tryz.prog) W 33 _ A n c 0 0 Tryz.underlying33
  rcases A with _ | a
  · obtain rfl := hA rfl
    obtain rfl : xs = [] := List.eq_nil_of_length_eq_zero (by omega)
    clear hA hc h1 hl hn
    go_enter Tryz.func109, Tryz.ntmps109
    go_wp2_with fail
    go_ret
    exact ⟨_, rfl, ⟨rfl, .inl ⟨rfl, rfl⟩⟩, Below.refl _ _⟩
  · have HC := Lib.hid (fun j u hu => hc a rfl j u hu)
    have HL := Lib.hid hl
    have H1 := Lib.hid h1
    have HN := Lib.hid hn
    clear hA hc h1 hl hn
    go_enter Tryz.func109, Tryz.ntmps109
    go_wp2_with (at_builtin; refine wpList_append_own _ rfl _ _ 33 rfl w.heap.size ItemT i0 _ 10 112 Tryz.underlying33 hi0 hz0 hz1 hz2 rfl (by decide) _ 0 [] rfl ?c0 a n c xs rfl ?c6 ?c1 ?c2 ?c3 ?c4 ?c5 ?_)
    case c0 => exact ⟨rfl, .inr ⟨w.heap.size, 0, #[], rfl, Nat.le_refl _, heap_alloc_new _ _, Nat.le_refl _, by simp [maxLen], rfl, rfl⟩⟩
    case c6 => exact HL.out
    case c1 =>
      intro j u hu
      have h := HC.out j u hu
      have hal : Below w.heap.size w (w.alloc (.cells #[] ItemT)) := (Below.refl _ _).alloc (Nat.le_refl _) _
      exact (hal.cell (p := a.add j) (cell_blk h)).trans h
    case c2 => exact H1.out
    case c3 => have := HN.out; simp only [maxLen]; omega
    case c4 => have := HN.out; omega
    case c5 => simp
    intro v' w' hown' hgr' hnil
    have hb2 : Below w.heap.size w w' := by
      have h1 : Below w.heap.size w (w.alloc (.cells #[] ItemT)) := (Below.refl _ _).alloc (Nat.le_refl _) _
      exact h1.trans (Chg.below (S := fun k => some w.heap.size = some k) (Chg.of_grown hgr' (fun k hk => .inl (by simpa [Value.ownBlock] using hk))) (by simp) (fun k hk e => by simp at e; omega))
    have HB := Lib.hid hb2
    have HO := Lib.hid (show w'.ownsRow w.heap.size ItemT 10 v' n xs by simpa using hown')
    clear hown' hgr' hb2 hnil
    go_wp2_with fail
    go_ret
    exact ⟨v', rfl, HO.out, HB.out⟩
set_option maxRecDepth 100000 in
set_option maxHeartbeats 1600000 in
theorem cloneF_any (A : Option Addr) (n c : Nat) (xs : List Value) (w : World) (hl : xs.length = n * 2) (hA : A = none → n = 0) (hc : ∀ a, A = some a → ∀ j u, xs[j]? = some u → w.cell? (a.add j) = some u) (h1 : ∀ u ∈ xs, u.oneCell' = true) (hn : n ≤ 1000000) :
    Calls Tryz.prog 110 #[.slice A n c] w fun e w' => ∃ u', e = .returned u' ∧ w'.ownsRow w.heap.size FreeT 2 u' n xs ∧ Below w.heap.size w w' := by
  obtain ⟨i0, hi0, hz0, hz1, hz2⟩ := info_parts info_free
  have hnl := fun W => Lib.run_eql_slice_nil (P := Tryz.prog) W 24 _ A n c 0 0 Tryz.underlying24
  rcases A with _ | a
  · obtain rfl := hA rfl
    obtain rfl : xs = [] := List.eq_nil_of_length_eq_zero (by omega)
    clear hA hc h1 hl hn
    go_enter Tryz.func110, Tryz.ntmps110
    go_wp2_with fail
    go_ret
    exact ⟨_, rfl, ⟨rfl, .inl ⟨rfl, rfl⟩⟩, Below.refl _ _⟩
  · have HC := Lib.hid (fun j u hu => hc a rfl j u hu)
    have HL := Lib.hid hl
    have H1 := Lib.hid h1
    have HN := Lib.hid hn
    clear hA hc h1 hl hn
    go_enter Tryz.func110, Tryz.ntmps110
    go_wp2_with (at_builtin; refine wpList_append_own _ rfl _ _ 24 rfl w.heap.size FreeT i0 _ 2 32 Tryz.underlying24 hi0 hz0 hz1 hz2 rfl (by decide) _ 0 [] rfl ?c0 a n c xs rfl ?c6 ?c1 ?c2 ?c3 ?c4 ?c5 ?_)
    case c0 => exact ⟨rfl, .inr ⟨w.heap.size, 0, #[], rfl, Nat.le_refl _, heap_alloc_new _ _, Nat.le_refl _, by simp [maxLen], rfl, rfl⟩⟩
    case c6 => exact HL.out
    case c1 =>
      intro j u hu
      have h := HC.out j u hu
      have hal : Below w.heap.size w (w.alloc (.cells #[] FreeT)) := (Below.refl _ _).alloc (Nat.le_refl _) _
      exact (hal.cell (p := a.add j) (cell_blk h)).trans h
    case c2 => exact H1.out
    case c3 => have := HN.out; simp only [maxLen]; omega
    case c4 => have := HN.out; omega
    case c5 => simp
    intro v' w' hown' hgr' hnil
    have hb2 : Below w.heap.size w w' := by
      have h1 : Below w.heap.size w (w.alloc (.cells #[] FreeT)) := (Below.refl _ _).alloc (Nat.le_refl _) _
      exact h1.trans (Chg.below (S := fun k => some w.heap.size = some k) (Chg.of_grown hgr' (fun k hk => .inl (by simpa [Value.ownBlock] using hk))) (by simp) (fun k hk e => by simp at e; omega))
    have HB := Lib.hid hb2
    have HO := Lib.hid (show w'.ownsRow w.heap.size FreeT 2 v' n xs by simpa using hown')
    clear hown' hgr' hb2 hnil
    go_wp2_with fail
    go_ret
    exact ⟨v', rfl, HO.out, HB.out⟩
end Go.Proofs.YtkcfmjlcijhieaaGreat
namespace Go.Proofs.YtkcfmjlcijhieaaGreat
open Go.RowKit
attribute [local go_sem low] mk_extract
attribute [local go_sem] After.cell After.frozen mk_extract_end ByteArray.mk_append_mk
def renClone : Go.Shelf.Ren := ⟨fun | 15 => 74 | n => n, fun | 22 => 26 | 3 => 3 | 4 => 4 | n => n, fun | n => n⟩
theorem layClone : Lays2.n15 Tryz.prog renClone := {
  mixed := by kernel_rfl
  f15 := Tryz.func74.trans (congrArg some (by kernel_rfl))
  t3 := Tryz.underlying3
  a3 := Tryz.isAgg3
  z3 := Tryz.sizeOf3
  v3 := Tryz.zeroValue3
  t4 := Tryz.underlying4
  a4 := Tryz.isAgg4
  z4 := Tryz.sizeOf4
  v4 := Tryz.zeroValue4
  t22 := Tryz.underlying26
  a22 := Tryz.isAgg26
  z22 := Tryz.sizeOf26
  v22 := Tryz.zeroValue26
  i3 := by kernel_rfl }
def renSearch : Go.Shelf.Ren := ⟨fun | 25 => 95 | 31 => 131 | 32 => 132 | 37 => 153 | n => n, fun | 22 => 26 | 3 => 3 | 4 => 4 | 0 => 0 | 40 => 58 | n => n, fun | n => n⟩
theorem laySearch : Lays2.n25 Tryz.prog renSearch := {
  mixed := by kernel_rfl
  f25 := Tryz.func95.trans (congrArg some (by kernel_rfl))
  f31 := Tryz.func131.trans (congrArg some (by kernel_rfl))
  f32 := Tryz.func132.trans (congrArg some (by kernel_rfl))
  f37 := Tryz.func153.trans (congrArg some (by kernel_rfl))
  t0 := Tryz.underlying0
  a0 := Tryz.isAgg0
  z0 := Tryz.sizeOf0
  v0 := Tryz.zeroValue0
  t3 := Tryz.underlying3
  a3 := Tryz.isAgg3
  z3 := Tryz.sizeOf3
  v3 := Tryz.zeroValue3
  t4 := Tryz.underlying4
  a4 := Tryz.isAgg4
  z4 := Tryz.sizeOf4
  v4 := Tryz.zeroValue4
  t22 := Tryz.underlying26
  a22 := Tryz.isAgg26
  z22 := Tryz.sizeOf26
  v22 := Tryz.zeroValue26
  t40 := Tryz.underlying58
  a40 := Tryz.isAgg58
  z40 := Tryz.sizeOf58
  v40 := Tryz.zeroValue58 }
def renInsert : Go.Shelf.Ren := ⟨fun | 21 => 96 | 27 => 133 | 28 => 134 | 35 => 154 | 39 => 169 | n => n, fun | 22 => 26 | 3 => 3 | 4 => 4 | 0 => 0 | n => n, fun | n => n⟩
theorem layInsert : Lays2.n21 Tryz.prog renInsert := {
  mixed := by kernel_rfl
  f21 := Tryz.func96.trans (congrArg some (by kernel_rfl))
  f27 := Tryz.func133.trans (congrArg some (by kernel_rfl))
  f28 := Tryz.func134.trans (congrArg some (by kernel_rfl))
  f35 := Tryz.func154.trans (congrArg some (by kernel_rfl))
  f39 := Tryz.func169.trans (congrArg some (by kernel_rfl))
  t0 := Tryz.underlying0
  a0 := Tryz.isAgg0
  z0 := Tryz.sizeOf0
  v0 := Tryz.zeroValue0
  t3 := Tryz.underlying3
  a3 := Tryz.isAgg3
  z3 := Tryz.sizeOf3
  v3 := Tryz.zeroValue3
  t4 := Tryz.underlying4
  a4 := Tryz.isAgg4
  z4 := Tryz.sizeOf4
  v4 := Tryz.zeroValue4
  t22 := Tryz.underlying26
  a22 := Tryz.isAgg26
  z22 := Tryz.sizeOf26
  v22 := Tryz.zeroValue26
  i3 := by kernel_rfl }
/-- A slice that reads as a list of numbers. -/
structure IV (w : World) (u : Value) (L : List Int) : Prop where
  form : ∃ A c, u = .slice A L.length c ∧ ((A = none ∧ L = []) ∨ ∃ b off, A = some ⟨b, off, none⟩ ∧ ∀ j, j < L.length → w.cell? ⟨b, off + j, none⟩ = some (.int .i64 (L.getD j 0)))
  len : L.length ≤ 100000
theorem own_iv {w : World} {base : Nat} {u : Value} {L : List Int} (h : w.ownsRow base IntT 1 u L.length (L.map iv)) (hn : L.length ≤ 100000) : IV w u L := by
  refine ⟨?_, hn⟩
  rcases h.2 with ⟨rfl, h0⟩ | ⟨g, cap, cur, rfl, _, hh, hnc, _, hcs, ht⟩
  · exact ⟨none, 0, by rw [h0], .inl ⟨rfl, List.eq_nil_of_length_eq_zero h0⟩⟩
  · refine ⟨_, cap, rfl, .inr ⟨g, 0, rfl, fun j hj => ?_⟩⟩
    rw [Nat.zero_add]
    have hb : Blk w g IntT cur := hh
    refine (hb.cell j).trans ?_
    have : (cur.toList.take (L.length * 1))[j]? = (L.map iv)[j]? := by rw [ht]
    rw [List.getElem?_take, if_pos (by omega), List.getElem?_map, List.getElem?_eq_getElem hj] at this
    rw [← Array.getElem?_toList, this]
    simp [iv, List.getD, hj]
theorem cloneI_any {w : World} {u : Value} {L : List Int} (h : IV w u L) :
    Calls Tryz.prog 74 #[u] w fun e w' => ∃ u', e = .returned u' ∧ w'.ownsRow w.heap.size IntT 1 u' L.length (L.map iv) ∧ Below w.heap.size w w' := by
  obtain ⟨A, c, rfl, h1⟩ := h.form
  have hl := h.len
  rcases h1 with ⟨rfl, rfl⟩ | ⟨b, off, rfl, hc⟩
  · exact (Any.slices_Clone_int_nil layClone 0 c w).mono fun e w' ⟨h1, h2⟩ => ⟨_, h1, ⟨rfl, .inl ⟨rfl, rfl⟩⟩, h2 ▸ Below.refl _ _⟩
  · refine (Any.slices_Clone_int layClone b off L.length c L w (Nat.le_refl _) (by omega) hc).mono fun e w' ⟨u', h1, h2, _, h3⟩ => ⟨u', h1, ?_, h3⟩
    rw [List.take_length] at h2
    exact h2
/-- Where a number is, or would be. -/
def Sp.posI (x : Int) (L : List Int) : Nat := L.countP (· < x)
theorem searchI_any {w : World} {u : Value} {L : List Int} (x : Int) (h : IV w u L) (hs : L.Pairwise (· < ·)) :
    Calls Tryz.prog 95 #[u, .int .i64 x] w fun e w' => e = .returned (.tuple #[.int .i64 (Sp.posI x L : Nat), .bool (L.contains x)]) ∧ Below w.heap.size w w' := by
  obtain ⟨A, c, rfl, h1⟩ := h.form
  have hl := h.len
  rcases h1 with ⟨rfl, rfl⟩ | ⟨b, off, rfl, hc⟩
  · exact (Any.slices_BinarySearch_int_empty laySearch none c x w).mono fun e w' ⟨h1, h2⟩ => ⟨h1, h2 ▸ Below.refl _ _⟩
  · refine (Any.slices_BinarySearch_int laySearch b off L.length c L x w (Nat.le_refl _) (by omega) hc (by rw [List.take_length]; exact hs.imp fun h => Int.le_of_lt h)).mono fun e w' ⟨h1, q, h2⟩ => ⟨?_, ?_⟩
    · rw [List.take_length] at h1
      exact h1
    · rw [h2]
      exact below_drewN (Below.refl _ _) q
/-- The cells of a block, some of them others. -/
def spl (cur : List Value) (o : Nat) (vs : List Value) : List Value := cur.take o ++ vs ++ cur.drop (o + vs.length)
theorem blk_setCells {g : Nat} {t : TypeId} : ∀ (vs : List Value) (o : Nat) {w : World} {cur : List Value}, Blk w g t cur.toArray → o + vs.length ≤ cur.length → Blk (w.setCells g o vs) g t (spl cur o vs).toArray
  | [], o, w, cur, h, _ => by
    show Blk w g t _
    unfold spl
    rw [List.append_nil, List.length_nil, Nat.add_zero, List.take_append_drop]
    exact h
  | v :: r, o, w, cur, h, hl => by
    rw [List.length_cons] at hl
    have h1 := h.set_ o v
    rw [List.setIfInBounds_toArray] at h1
    have h2 := blk_setCells r (o + 1) h1 (by rw [List.length_set]; omega)
    have e : spl (cur.set o v) (o + 1) r = spl cur o (v :: r) := by
      unfold spl
      have hlt : o < cur.length := by omega
      rw [List.take_set, List.take_succ_eq_append_getElem hlt, List.set_append, List.length_take, Nat.min_eq_left (Nat.le_of_lt hlt), if_neg (Nat.lt_irrefl _), Nat.sub_self, List.set_cons_zero, List.drop_set, if_pos (by omega), List.length_cons, show o + 1 + r.length = o + (r.length + 1) by omega]
      simp
    rw [e] at h2
    exact h2
theorem chg_setCells {g : Nat} : ∀ (vs : List Value) (o : Nat) (w : World), Chg (OneM g) w (w.setCells g o vs)
  | [], _, _ => Chg.refl _ _
  | v :: r, o, w => (Chg.set1 w g o v).trans (chg_setCells r (o + 1) _)
end Go.Proofs.YtkcfmjlcijhieaaGreat
namespace Go.Proofs.YtkcfmjlcijhieaaGreat
open Go.RowKit
attribute [local go_sem low] mk_extract
attribute [local go_sem] After.cell After.frozen mk_extract_end ByteArray.mk_append_mk
theorem own_base {w : World} {base base' : Nat} {e : TypeId} {size n : Nat} {v : Value} {xs : List Value} (h : w.ownsRow base e size v n xs) (hb : base' ≤ base) : w.ownsRow base' e size v n xs := by
  rcases h with ⟨h1, h2⟩
  refine ⟨h1, ?_⟩
  rcases h2 with h2 | ⟨g, cap, cur, a, b, c⟩
  · exact .inl h2
  · exact .inr ⟨g, cap, cur, a, Nat.le_trans hb b, c⟩
theorem IV.go {w w' : World} {u : Value} {L : List Int} (h : IV w u L) (hb : Below w.heap.size w w') : IV w' u L := by
  obtain ⟨A, c, rfl, h1⟩ := h.form
  refine ⟨⟨A, c, rfl, ?_⟩, h.len⟩
  rcases h1 with h1 | ⟨b, off, rfl, hc⟩
  · exact .inl h1
  · refine .inr ⟨b, off, rfl, fun j hj => ?_⟩
    have := hc j hj
    have hlt : b < w.heap.size := by
      unfold World.cell? at this
      cases hq : w.heap[b]? with
      | none => simp [hq] at this
      | some o => exact (Array.getElem?_eq_some_iff.1 hq).1
    exact (hb.cell (p := ⟨b, off + j, none⟩) hlt).trans this
theorem own_of_blk {w : World} {base g cap n : Nat} {cur xs : List Value} (hb : Blk w g IntT cur.toArray) (hg : base ≤ g) (hn : n ≤ cap) (hc : cap ≤ maxLen) (hl : cur.length = cap) (ht : cur.take n = xs) : w.ownsRow base IntT 1 (.slice (some ⟨g, 0, none⟩) n cap) n xs := by
  refine ⟨?_, .inr ⟨g, cap, cur.toArray, rfl, hg, hb, hn, hc, by simp [hl], by simpa using ht⟩⟩
  rw [← ht, List.length_take]
  omega
theorem spl_len {cur vs : List Value} {o : Nat} (h : o + vs.length ≤ cur.length) : (spl cur o vs).length = cur.length := by
  unfold spl
  simp only [List.length_append, List.length_take, List.length_drop]
  omega
theorem spl_app {a b c vs : List Value} (h : vs.length = b.length) : spl (a ++ b ++ c) a.length vs = a ++ vs ++ c := by
  unfold spl
  rw [List.append_assoc a b c, List.take_left, h, ← List.append_assoc a b c, ← List.length_append, List.drop_left]
theorem iv_one (l : List Int) : ∀ v ∈ l.map iv, v.oneCell' = true := fun v hv => by
  obtain ⟨s, _, rfl⟩ := List.mem_map.1 hv
  rfl
theorem own_of_app {w : World} {base g n : Nat} {xs rest : List Value} (hb : Blk w g IntT (xs ++ rest).toArray) (hg : base ≤ g) (hn : xs.length = n) (hc : (xs ++ rest).length ≤ maxLen) : w.ownsRow base IntT 1 (.slice (some ⟨g, 0, none⟩) n (xs ++ rest).length) n xs :=
  own_of_blk hb hg (by rw [List.length_append]; omega) hc rfl (by rw [← hn]; exact List.take_left)
theorem zero_row (n : Nat) : ∃ zs : List Value, Builtin.zeroCells (Value.int .i64 0).cells n = zs.toArray ∧ zs.length = n :=
  ⟨(Builtin.zeroCells (Value.int .i64 0).cells n).toList, by simp, by rw [Array.length_toList, size_zeroCells]; simp [Value.cells]⟩
theorem spl_at {a b c vs : List Value} {k : Nat} (hk : a.length = k) (h : vs.length = b.length) : spl (a ++ b ++ c) k vs = a ++ vs ++ c := by
  subst hk
  exact spl_app h
theorem insI_any {w : World} {B : Nat} {u : Value} {L : List Int} (x : Int) (k : Nat) (hk : k ≤ L.length) (h : w.ownsRow B IntT 1 u L.length (L.map iv)) (hB : B ≤ w.heap.size) (vb : Nat) (hv : Blk w vb IntT #[.int .i64 x]) (hvb : ∀ j, u.ownBlock = some j → vb ≠ j) (hn : L.length ≤ 100000) :
    Calls Tryz.prog 96 #[u, .int .i64 (k : Int), .slice (some ⟨vb, 0, none⟩) 1 1] w fun e w' => ∃ u', e = .returned u' ∧ w'.ownsRow B IntT 1 u' (L.length + 1) ((L.take k ++ x :: L.drop k).map iv) ∧ Below B w w' := by
  have hvs : ∀ j v, ([iv x] : List Value)[j]? = some v → w.cell? ⟨vb, 0 + j, none⟩ = some v := fun j v hj => by
    rw [Nat.zero_add]
    refine (hv.cell j).trans ?_
    rw [← hj]
    cases j <;> rfl
  have h1v : ∀ v ∈ ([iv x] : List Value), v.oneCell' = true := fun v hv => by rw [List.mem_singleton.1 hv]; rfl
  have hlm : (L.map iv).length = L.length := List.length_map ..
  have hmx : (maxLen : Nat) = 9223372036854775807 := rfl
  have hG : ∀ n c, L.length + 1 ≤ grownCap w (L.length + 1) c n ∧ grownCap w (L.length + 1) c n ≤ maxLen := fun n c => ⟨grownCap_ge _ _ _ _, grownCap_le_maxLen _ _ _ _ (by rw [hmx]; omega)⟩
  rcases h.2 with ⟨rfl, h0⟩ | ⟨g, cap, cur, rfl, hg, hh, hnc, hcm, hcs, ht⟩
  · have hL : L = [] := List.eq_nil_of_length_eq_zero h0
    subst hL
    obtain rfl : k = 0 := by simpa using hk
    refine (Any2.slices_Insert_int_end_grow layInsert none 0 0 vb 0 1 1 [] [iv x] w (by omega) (by omega) (by omega) (by omega) rfl rfl (fun _ => rfl) (fun a ha => by cases ha) hvs h1v).mono fun e w' ⟨h1, h2⟩ => ⟨_, h1, ?_, ?_⟩
    · obtain ⟨q1, q2⟩ := hG 3 0
      simp only [List.length_nil] at q1 q2
      obtain ⟨zs, hz, hzl⟩ := zero_row (grownCap w (0 + 1) 0 3 - (0 + 1))
      have hb : Blk w' w.heap.size IntT ([iv x] ++ zs).toArray := by
        rw [h2]
        have := Blk.new w.drew IntT (([] ++ [iv x]).toArray ++ zs.toArray)
        rw [← hz, List.nil_append] at this
        rw [show ([iv x] ++ zs).toArray = [iv x].toArray ++ zs.toArray by simp, ← hz]
        exact this
      have hl : ([iv x] ++ zs).length = grownCap w (0 + 1) 0 3 := by rw [List.length_append, hzl]; simp only [List.length_cons, List.length_nil]; omega
      have ho := own_of_app (base := B) hb hB (n := 1) rfl (by rw [hl]; exact q2)
      rw [hl] at ho
      exact ho
    · rw [h2]
      exact (Below.refl B w).drew.alloc hB _
  · have hb : Blk w g IntT cur := hh
    have hgw := hb.lt
    have hsz : cur.size = cap := by omega
    have htk : cur.toList.take L.length = L.map iv := by simpa using ht
    have hcs' : ∀ j v, (L.map iv)[j]? = some v → w.cell? ⟨g, 0 + j, none⟩ = some v := fun j v hj => by
      rw [Nat.zero_add]
      refine (hb.cell j).trans ?_
      rw [← htk, List.getElem?_take] at hj
      split at hj
      · rw [← hj, Array.getElem?_toList]
      · cases hj
    have hne : vb ≠ g := hvb g rfl
    have hsp : ∀ j, j < cap → (w.cell? ⟨g, 0 + j, none⟩).isSome = true := fun j hj => by
      rw [Nat.zero_add, hb.cell j, Array.getElem?_eq_getElem (by omega)]
      rfl
    have hfz : ∀ j, j < cap → w.frozen? ⟨g, 0 + j, none⟩ = false := fun j _ => hb.frozen (0 + j)
    have hcl : cur.toList = L.map iv ++ cur.toList.drop L.length := by rw [← htk, List.take_append_drop]
    have hbl : Blk w g IntT (L.map iv ++ cur.toList.drop L.length).toArray := by rw [← hcl]; simpa using hb
    have hdl : (cur.toList.drop L.length).length = cap - L.length := by rw [List.length_drop, Array.length_toList, hsz]
    by_cases hroom : L.length + 1 ≤ cap
    · obtain ⟨z, rs, hz⟩ : ∃ z rs, cur.toList.drop L.length = z :: rs := by
        cases hq : cur.toList.drop L.length with
        | nil => rw [hq] at hdl; simp at hdl; omega
        | cons z rs => exact ⟨z, rs, rfl⟩
      rw [hz] at hbl hdl
      have hrs : rs.length = cap - L.length - 1 := by rw [List.length_cons] at hdl; omega
      by_cases hkl : k < L.length
      · have sa : w.shape? vb = some (IntT, 1) := by
          unfold World.shape?
          rw [show w.heap[vb]? = some (.cells #[.int .i64 x] IntT (0, 0)) from hv]
          rfl
        have sb : w.shape? g = some (IntT, cap) := by
          unfold World.shape?
          rw [hh]
          simp [hsz]
        refine (Any2.slices_Insert_int_shift layInsert g 0 L.length cap k vb 0 1 1 (L.map iv) [iv x] w hkl (by omega) hroom (by omega) hne hlm rfl hcs' (fun j hj => hsp j (by omega)) (fun j hj => hfz j (by omega)) hvs (iv_one L) h1v IntT IntT 1 cap sa sb (by omega) (hv.frozen 0) (hv.frozen 1)).mono fun e w' ⟨h1, h2⟩ => ⟨_, h1, ?_, ?_⟩
        · have hd : ((L.map iv).drop k).length = L.length - k := by rw [List.length_drop, hlm]
          have b1 := blk_setCells ((L.map iv).drop k) (k + 1) (Blk.drew hbl) (by rw [hd, List.length_append, hlm, List.length_cons]; omega)
          have b2 := blk_setCells [iv x] k b1 (by rw [spl_len (by rw [hd, List.length_append, hlm, List.length_cons]; omega), List.length_append, hlm]; simp only [List.length_cons, List.length_nil]; omega)
          have e : spl (spl (L.map iv ++ z :: rs) (k + 1) ((L.map iv).drop k)) k [iv x] = (L.take k ++ x :: L.drop k).map iv ++ rs := by
            obtain ⟨y, ys, hy⟩ : ∃ y ys, L.drop k = y :: ys := by
              cases hq : L.drop k with
              | nil => have := congrArg List.length hq; rw [List.length_drop] at this; simp at this; omega
              | cons y ys => exact ⟨y, ys, rfl⟩
            have hLk : L = L.take k ++ y :: ys := by rw [← hy, List.take_append_drop]
            have hkk : (L.take k).length = k := by rw [List.length_take]; omega
            have hys : ys.length + 1 = L.length - k := by have := congrArg List.length hy; rw [List.length_drop, List.length_cons] at this; omega
            have e1 : L.map iv ++ z :: rs = ((L.take k).map iv ++ [iv y]) ++ (ys.map iv ++ [z]) ++ rs := by
              conv => lhs; rw [hLk]
              simp
            have e2 : (L.map iv).drop k = iv y :: ys.map iv := by rw [← List.map_drop, hy]; rfl
            have l1 : ((L.take k).map iv ++ [iv y]).length = k + 1 := by rw [List.length_append, List.length_map, hkk]; rfl
            have s1 : spl (L.map iv ++ z :: rs) (k + 1) ((L.map iv).drop k) = ((L.take k).map iv ++ [iv y]) ++ (iv y :: ys.map iv) ++ rs := by
              rw [e1, e2]
              exact spl_at l1 (by simp)
            have l2 : ((L.take k).map iv).length = k := by rw [List.length_map, hkk]
            rw [s1, hy, show ((L.take k).map iv ++ [iv y]) ++ (iv y :: ys.map iv) ++ rs = (L.take k).map iv ++ [iv y] ++ (iv y :: ys.map iv ++ rs) by simp, spl_at l2 (by rfl)]
            simp
          have hgo : Blk w' g IntT ((L.take k ++ x :: L.drop k).map iv ++ rs).toArray := by
            rw [h2, ← e, Nat.zero_add, Nat.zero_add]
            exact b2
          have hlen : ((L.take k ++ x :: L.drop k).map iv).length = L.length + 1 := by simp only [List.length_map, List.length_append, List.length_take, List.length_cons, List.length_drop]; omega
          have ho := own_of_app (base := B) hgo hg (n := L.length + 1) hlen (by rw [List.length_append, hlen, hrs]; omega)
          rw [show ((L.take k ++ x :: L.drop k).map iv ++ rs).length = cap by rw [List.length_append, hlen, hrs]; omega] at ho
          exact ho
        · rw [h2]
          exact ((Below.refl B w).drew).trans (((chg_setCells _ _ _).trans (chg_setCells _ _ _)).below (by show B ≤ w.heap.size; exact hB) (fun j hj e => by have : j = g := e; omega))
      · obtain rfl : k = L.length := by omega
        refine (Any2.slices_Insert_int_end_room layInsert g 0 L.length cap vb 0 1 1 [iv x] w (by omega) hroom (by omega) rfl (fun j hj => by have := hsp (L.length + j) (by omega); rwa [← Nat.add_assoc] at this) (fun j hj => by have := hfz (L.length + j) (by omega); rwa [← Nat.add_assoc] at this) hvs h1v).mono fun e w' ⟨h1, h2⟩ => ⟨_, h1, ?_, ?_⟩
        · have b1 := blk_setCells [iv x] L.length hbl (by rw [List.length_append, hlm, List.length_cons]; simp only [List.length_cons, List.length_nil]; omega)
          have e : spl (L.map iv ++ z :: rs) L.length [iv x] = (L.take L.length ++ x :: L.drop L.length).map iv ++ rs := by
            rw [show L.map iv ++ z :: rs = L.map iv ++ [z] ++ rs by simp]
            rw [spl_at hlm (by rfl)]
            simp
          have hgo : Blk w' g IntT ((L.take L.length ++ x :: L.drop L.length).map iv ++ rs).toArray := by
            rw [h2, ← e, Nat.zero_add]
            exact b1
          have hlen : ((L.take L.length ++ x :: L.drop L.length).map iv).length = L.length + 1 := by simp
          have ho := own_of_app (base := B) hgo hg (n := L.length + 1) hlen (by rw [List.length_append, hlen, hrs]; omega)
          rw [show ((L.take L.length ++ x :: L.drop L.length).map iv ++ rs).length = cap by rw [List.length_append, hlen, hrs]; omega] at ho
          exact ho
        · rw [h2]
          exact (chg_setCells _ _ _).below hB (fun j hj e => by have : j = g := e; omega)
    · obtain ⟨q1, q2⟩ := hG 3 cap
      have hcap : L.length = cap := by omega
      by_cases hkl : k < L.length
      · refine (Any2.slices_Insert_int_grow layInsert g 0 L.length cap k vb 0 1 1 (L.map iv) [iv x] w hkl (by omega) (by omega) (by omega) (by omega) hlm rfl hcs' hvs (iv_one L) h1v).mono fun e w' ⟨h1, h2⟩ => ⟨_, h1, ?_, ?_⟩
        · obtain ⟨z1, hz1, hzl1⟩ := zero_row (L.length + 1 - k)
          obtain ⟨z2, hz2, hzl2⟩ := zero_row (grownCap w (L.length + 1) cap 3 - (L.length + 1))
          obtain ⟨z0, zr, hzz⟩ : ∃ z rs, z1 = z :: rs := by
            cases z1 with
            | nil => simp at hzl1; omega
            | cons z rs => exact ⟨z, rs, rfl⟩
          subst hzz
          rw [List.length_cons] at hzl1
          have ltk : ((L.map iv).take k).length = k := by rw [List.length_take, hlm]; omega
          have ldk : ((L.map iv).drop k).length = L.length - k := by rw [List.length_drop, hlm]
          have b0 : Blk (w.alloc (.cells (((L.map iv).take k).toArray ++ (z0 :: zr).toArray ++ z2.toArray) IntT)) w.heap.size IntT ((L.map iv).take k ++ (z0 :: zr) ++ z2).toArray := by
            have := Blk.new w IntT (((L.map iv).take k).toArray ++ (z0 :: zr).toArray ++ z2.toArray)
            simpa using this
          have b1 := blk_setCells [iv x] k (Blk.drew b0) (by simp only [List.length_append, ltk, List.length_cons, List.length_nil]; omega)
          rw [show (L.map iv).take k ++ (z0 :: zr) ++ z2 = (L.map iv).take k ++ [z0] ++ (zr ++ z2) by simp, spl_at ltk (by rfl)] at b1
          have b2 := blk_setCells ((L.map iv).drop k) (k + 1) (Blk.drew b1) (by simp only [List.length_append, ltk, ldk, List.length_cons, List.length_nil]; omega)
          rw [show (L.map iv).take k ++ [iv x] ++ (zr ++ z2) = ((L.map iv).take k ++ [iv x]) ++ zr ++ z2 by simp, spl_at (by rw [List.length_append, ltk]; rfl) (by rw [ldk]; omega)] at b2
          have hgo : Blk w' w.heap.size IntT ((L.take k ++ x :: L.drop k).map iv ++ z2).toArray := by
            rw [h2]
            have e : (L.take k ++ x :: L.drop k).map iv ++ z2 = (L.map iv).take k ++ [iv x] ++ (L.map iv).drop k ++ z2 := by simp
            rw [e]
            rw [hz1, show Builtin.zeroCells (Value.int .i64 0).cells (grownCap w (L.length + 1) cap (renInsert.t 3) - (L.length + 1)) = z2.toArray from hz2]
            exact b2
          have hlen : ((L.take k ++ x :: L.drop k).map iv).length = L.length + 1 := by simp only [List.length_map, List.length_append, List.length_take, List.length_cons, List.length_drop]; omega
          have hl : ((L.take k ++ x :: L.drop k).map iv ++ z2).length = grownCap w (L.length + 1) cap 3 := by rw [List.length_append, hlen, hzl2]; omega
          have ho := own_of_app (base := B) hgo hB (n := L.length + 1) hlen (by rw [hl]; exact q2)
          rw [hl] at ho
          exact ho
        · rw [h2]
          have k1 : ∀ (W : World) (vs : List Value) (o : Nat), w.heap.size ≤ W.heap.size → Below B W (W.setCells w.heap.size o vs) := fun W vs o hW => (chg_setCells vs o W).below (by omega) (fun j hj e => by have : j = w.heap.size := e; omega)
          have k0 : ∀ (W : World) (vs : List Value) (o : Nat), (W.setCells w.heap.size o vs).heap.size = W.heap.size := fun W vs o => by
            have h1 : ∀ (vs : List Value) (o : Nat) (W : World), (W.setCells w.heap.size o vs).heap.size = W.heap.size := by
              intro vs
              induction vs with
              | nil => intro o W; rfl
              | cons v r ih => intro o W; show ((W.setCell _ v).setCells _ (o + 1) r).heap.size = _; rw [ih]; simp
            exact h1 vs o W
          refine (((((Below.refl B w).alloc hB _).drew.trans (k1 _ _ _ ?_)).drew).trans (k1 _ _ _ ?_))
          · simp
          · show w.heap.size ≤ (World.setCells _ _ _ _).heap.size
            rw [k0]
            simp
      · obtain rfl : k = L.length := by omega
        refine (Any2.slices_Insert_int_end_grow layInsert (some ⟨g, 0, none⟩) L.length cap vb 0 1 1 (L.map iv) [iv x] w (by omega) (by omega) (by omega) (by omega) hlm rfl (fun e => by cases e) (fun a ha j v hj => by injection ha with ha; subst ha; rw [Go.WideShapes.add_plain]; exact hcs' j v hj) hvs h1v).mono fun e w' ⟨h1, h2⟩ => ⟨_, h1, ?_, ?_⟩
        · obtain ⟨zs, hz, hzl⟩ := zero_row (grownCap w (L.length + 1) cap 3 - (L.length + 1))
          have hlen : ((L.take L.length ++ x :: L.drop L.length).map iv).length = L.length + 1 := by simp
          have hgo : Blk w' w.heap.size IntT ((L.take L.length ++ x :: L.drop L.length).map iv ++ zs).toArray := by
            rw [h2, show Builtin.zeroCells (Value.int .i64 0).cells (grownCap w (L.length + 1) cap (renInsert.t 3) - (L.length + 1)) = zs.toArray from hz]
            have := Blk.new w.drew IntT ((L.map iv ++ [iv x]).toArray ++ zs.toArray)
            show Blk (w.drew.alloc (.cells ((L.map iv ++ [iv x]).toArray ++ zs.toArray) IntT)) w.drew.heap.size IntT _
            rw [show (L.take L.length ++ x :: L.drop L.length).map iv ++ zs = L.map iv ++ [iv x] ++ zs by simp]
            simpa using this
          have hl : ((L.take L.length ++ x :: L.drop L.length).map iv ++ zs).length = grownCap w (L.length + 1) cap 3 := by rw [List.length_append, hlen, hzl]; omega
          have ho := own_of_app (base := B) hgo hB (n := L.length + 1) hlen (by rw [hl]; exact q2)
          rw [hl] at ho
          exact ho
        · rw [h2]
          exact (Below.refl B w).drew.alloc hB _
namespace Sp
/-- A row of rising numbers, with one more. -/
def insI (n : Int) (L : List Int) : List Int := if n ∈ L then L else L.take (posI n L) ++ n :: L.drop (posI n L)
theorem posI_le (n : Int) (L : List Int) : posI n L ≤ L.length := List.countP_le_length
theorem insI_len (n : Int) (L : List Int) : (insI n L).length ≤ L.length + 1 := by
  have := posI_le n L
  unfold insI
  split
  · omega
  · simp only [List.length_append, List.length_take, List.length_cons, List.length_drop]; omega
end Sp
set_option maxRecDepth 100000 in
set_option maxHeartbeats 1600000 in
theorem idsWith_any (u : Value) (L : List Int) (n : Int) (w : World) (h : IV w u L) (hs : L.Pairwise (· < ·)) :
    Calls Tryz.prog 65 #[u, .int .i64 n] w fun e w' => ∃ u', e = .returned u' ∧ w'.ownsRow w.heap.size IntT 1 u' (Sp.insI n L).length ((Sp.insI n L).map iv) ∧ Below w.heap.size w w' := by
  have H := Lib.hid h
  have HS := Lib.hid (searchI_any n h hs)
  have hpl := Sp.posI_le n L
  have hln := h.len
  by_cases hc : n ∈ L
  · have hcc : L.contains n = true := by simpa using hc
    have HI := Lib.hid (show Sp.insI n L = L from if_pos hc)
    clear h hs hc
    go_enter Tryz.func65, Tryz.ntmps65
    go_wp2_with (first
      | (go_at_call 95; refine HS.out.mono ?_; rintro e w1 ⟨rfl, hb1⟩; rw [hcc]; have HB1 := Lib.hid hb1; clear hb1)
      | (go_at_call 74; refine (cloneI_any (H.out.go HB1.out)).mono ?_; rintro e w2 ⟨u', rfl, ho, hb2⟩; have HO := Lib.hid ho; have HB2 := Lib.hid hb2; clear ho hb2))
    go_ret
    refine ⟨u', rfl, ?_, HB1.out.trans (HB2.out.mono HB1.out.size)⟩
    rw [HI.out]
    exact own_base HO.out HB1.out.size
  · have hcc : L.contains n = false := by simpa using hc
    have HI := Lib.hid (show Sp.insI n L = L.take (Sp.posI n L) ++ n :: L.drop (Sp.posI n L) from if_neg hc)
    clear h hs hc
    go_enter Tryz.func65, Tryz.ntmps65
    go_wp2_with (first
      | (go_at_call 95; refine HS.out.mono ?_; rintro e w1 ⟨rfl, hb1⟩; rw [hcc]; have HB1 := Lib.hid hb1; clear hb1)
      | (go_at_call 74; refine (cloneI_any (H.out.go HB1.out)).mono ?_; rintro e w2 ⟨u', rfl, ho, hb2⟩; have HO := Lib.hid ho; have HB2 := Lib.hid hb2; clear ho hb2)
      | (go_at_call 96; refine (insI_any (B := w1.heap.size) n (Sp.posI n L) hpl (own_chg2 (S := NoM) HO.out (Chg.of_below ((Below.refl w2.heap.size w2).alloc (Nat.le_refl _) (.cells #[.int .i64 n] IntT))) (fun _ _ h => h)) (by rw [World.size_alloc]; have := HB2.out.size; omega) w2.heap.size (Blk.new w2 IntT #[.int .i64 n]) (fun j hj e => by have := own_lt HO.out j hj; omega) hln).mono ?_; rintro e w3 ⟨u3, rfl, ho, hb3⟩; have HO3 := Lib.hid ho; have HB3 := Lib.hid hb3; clear ho hb3))
    go_ret
    have hlen : (Sp.insI n L).length = L.length + 1 := by rw [HI.out]; simp only [List.length_append, List.length_take, List.length_cons, List.length_drop]; omega
    refine ⟨u3, rfl, ?_, ?_⟩
    · rw [hlen, HI.out]
      exact own_base HO3.out HB1.out.size
    · exact (HB1.out.trans (HB2.out.mono HB1.out.size)).trans ((((Below.refl w2.heap.size w2).alloc (Nat.le_refl _) (.cells #[.int .i64 n] IntT)).mono (by have := HB1.out.size; have := HB2.out.size; omega)).trans (HB3.out.mono HB1.out.size))
end Go.Proofs.YtkcfmjlcijhieaaGreat
