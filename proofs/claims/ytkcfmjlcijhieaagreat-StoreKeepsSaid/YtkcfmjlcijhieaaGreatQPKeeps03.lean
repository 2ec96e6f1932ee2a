/- Rows of numbers: two put side by side; what is in one of two rows. -/
import Derived.Test.YtkcfmjlcijhieaaGreatQB17
import Derived.Test.YtkcfmjlcijhieaaGreatQB18
import Derived.Test.YtkcfmjlcijhieaaGreatQB21
import Derived.Test.YtkcfmjlcijhieaaGreatQB24
import Derived.Shelf.Slices.Cells
import Derived.Shelf.Spec.SlicesGrow
import Derived.Laws.AppendOwnNone
set_option linter.unusedSimpArgs false
set_option linter.unusedVariables false
namespace Go.Proofs.YtkcfmjlcijhieaaGreat
open Go.RowKit
attribute [local go_sem low] mk_extract
attribute [local go_sem] After.cell After.frozen mk_extract_end ByteArray.mk_append_mk
open Go.Sort
theorem own_nil0 (w : World) (base : Nat) (e : TypeId) (size : Nat) : w.ownsRow base e size (.slice none 0 0) 0 [] := ⟨by simp, .inl ⟨rfl, rfl⟩⟩
theorem grown_own0 {W w' : World} {base n : Nat} {e : TypeId} {size : Nat} {v : Value} {xs : List Value} (own : W.ownsRow base e size v n xs) (hb : base ≤ W.heap.size) (hgr : W.grownBy w' v.ownBlock) : Below base W w' :=
  (Chg.of_grown (S := fun k => v.ownBlock = some k) hgr (fun k hk => .inl hk)).below hb fun k hk e => by have := (own.lt k e).1; omega
abbrev IntsT : TypeId := 26
def renCompact : Go.Shelf.Ren := ⟨fun | 20 => 99 | n => n, fun | 22 => 26 | 3 => 3 | 4 => 4 | 0 => 0 | n => n, fun | n => n⟩
theorem layCompact : Lays2.n20 Tryz.prog renCompact := {
  mixed := by kernel_rfl
  f20 := Tryz.func99.trans (congrArg some (by kernel_rfl))
  t0 := Tryz.underlying0
  a0 := Tryz.isAgg0
  z0 := Tryz.sizeOf0
  v0 := Tryz.zeroValue0
  t3 := Tryz.underlying3
  a3 := Tryz.isAgg3
  z3 := Tryz.sizeOf3
  v3 := Tryz.zeroValue3
  t4 := Tryz.underlying4
  a4 := Tryz.isAgg4
  z4 := Tryz.sizeOf4
  v4 := Tryz.zeroValue4
  t22 := Tryz.underlying26
  a22 := Tryz.isAgg26
  z22 := Tryz.sizeOf26
  v22 := Tryz.zeroValue26
  i3 := by kernel_rfl }
set_option maxRecDepth 100000 in
set_option maxHeartbeats 1600000 in
theorem grow0_any (n : Nat) (w : World) (hn : n ≤ 100000) :
    Calls Tryz.prog 135 #[.slice none 0 0, .int .i64 n] w fun e w' => ∃ u, e = .returned u ∧ w'.ownsRow w.heap.size IntT 1 u 0 [] ∧ Below w.heap.size w w' := by
  rcases Nat.eq_zero_or_pos n with rfl | h0
  · go_enter Tryz.func135, Tryz.ntmps135
    go_wp2_with fail
    go_ret
    exact ⟨_, rfl, own_nil0 _ _ _ _, Below.refl _ _⟩
  · obtain ⟨i0, hi0, hz0, hz1, hz2⟩ := info_parts info_int
    have h1 : ¬ ((n : Int) < 0) := by omega
    have h4 : (n : Int) > 0 := by omega
    have hrz : ∀ ty, (Builtin.append_ #[IntsT, IntT] ty #[.slice none 0 0, .int .i64 n]).run Tryz.prog w =
        .ok (.slice (some ⟨w.heap.size, 0, none⟩) n (grownCap w n 0 IntT)) (w.drew.alloc (.cells (([] : List Value).toArray ++ Builtin.zeroCells (Value.int .i64 0).cells n ++ Builtin.zeroCells (Value.int .i64 0).cells (grownCap w n 0 IntT - n)) IntT)) := fun ty => by
      have h := Lib.run_append_grow_zeros w IntsT IntT ty IntT i0 (.int .i64 0) .i64 .i64 Tryz.underlying26 Tryz.underlying3 hi0 hz0 none 0 0 [] (by rw [hz1]; exact run_firstCells_none w.drew 1 0 0 0) n h0 (by rw [hz1]; omega) (by omega) (by omega)
        (by rw [hz2]; omega) (by rw [hz2]; exact growslice_fits (by omega) (by omega))
      simpa only [Nat.zero_add] using h
    have hGn : n ≤ grownCap w n 0 IntT := grownCap_ge w _ _ _
    have hG63 : grownCap w n 0 IntT ≤ maxLen := grownCap_le_maxLen w n 0 IntT (by unfold maxLen; omega)
    generalize grownCap w n 0 IntT = G at *
    have hG : G ≤ 9223372036854775807 := hG63
    go_enter Tryz.func135, Tryz.ntmps135
    go_wp2_with (at_builtin; refine Lib.wpList_append_run _ rfl _ _ _ _ rfl _ _ rfl rfl _ _ (hrz _) ?_)
    go_ret
    refine ⟨_, rfl, ⟨rfl, .inr ⟨w.heap.size, G, _, rfl, Nat.le_refl _, heap_alloc_new _ _, Nat.zero_le _, hG63, ?_, by simp⟩⟩, (Below.refl _ w).drew.alloc (Nat.le_refl _) _⟩
    simp only [Array.size_append, size_zeroCells, List.size_toArray, List.length_nil]
    simp [Value.cells]
    omega
/-- What Concat holds between its rounds. -/
def catL (a b : List Int) (j : Nat) : List Int := if j = 0 then [] else if j = 1 then a else a ++ b
theorem own_cells {w : World} {base g c n : Nat} {xs : List Value} (h : w.ownsRow base IntT 1 (.slice (some ⟨g, 0, none⟩) n c) n xs) : ∀ j u, xs[j]? = some u → w.cell? ((⟨g, 0, none⟩ : Addr).add j) = some u := by
  rcases own_none h with ⟨h0, _⟩ | ⟨g', cur, hv, _, _, hc⟩
  · cases h0
  · injection hv with hv
    injection hv with hv
    subst hv
    intro j u hj
    rw [Go.WideShapes.add_plain]
    exact hc j u hj
set_option maxRecDepth 100000 in
set_option maxHeartbeats 1600000 in
theorem concatI_any {B1 B2 : Nat} {u v : Value} {a b : List Int} {g : Nat} {w : World} (hu : w.ownsRow B1 IntT 1 u a.length (a.map iv)) (hv : w.ownsRow B2 IntT 1 v b.length (b.map iv)) (hg : Blk w g IntsT #[u, v]) (hn : a.length + b.length ≤ 10000) :
    Calls Tryz.prog 97 #[.slice (some ⟨g, 0, none⟩) 2 2] w fun e w' => ∃ r, e = .returned r ∧ w'.ownsRow w.heap.size IntT 1 r (a ++ b).length ((a ++ b).map iv) ∧ Below w.heap.size w w' := by
  obtain ⟨i0, hi0, hz0, hz1, hz2⟩ := info_parts info_int
  obtain ⟨A1, c1, rfl⟩ := own_slice hu
  obtain ⟨A2, c2, rfl⟩ := own_slice hv
  have la : A1 = none → a = [] ∧ c1 = 0 := fun h => by
    subst h
    rcases own_none hu with ⟨_, h0, hc⟩ | ⟨_, _, hv, _⟩
    · exact ⟨List.eq_nil_of_length_eq_zero h0, hc⟩
    · cases hv
  have lb : A2 = none → b = [] ∧ c2 = 0 := fun h => by
    subst h
    rcases own_none hv with ⟨_, h0, hc⟩ | ⟨_, _, hv, _⟩
    · exact ⟨List.eq_nil_of_length_eq_zero h0, hc⟩
    · cases hv
  have g0 : w.cell? ⟨g, 0, none⟩ = some (.slice A1 a.length c1) := hg.cell 0
  have g1 : w.cell? ⟨g, 1, none⟩ = some (.slice A2 b.length c2) := hg.cell 1
  have hgl := hg.lt
  have HG := Lib.hid (grow0_any (a.length + b.length) w (by omega))
  have HU := Lib.hid hu
  have HV := Lib.hid hv
  have HG0 := Lib.hid g0
  have HG1 := Lib.hid g1
  have LA := Lib.hid la
  have LB := Lib.hid lb
  clear hu hv hg g0 g1 la lb
  go_enter Tryz.func97, Tryz.ntmps97
  go_wp2_with fail
  go_loopw [3, 11] (fun z i wr => ∃ j : Nat, j ≤ 2 ∧ i = .int .i64 j ∧ z = .int .i64 ((catL a b j).length : Nat) ∧ wr = w) (fun _ i _ => 2 - (intOf i).toNat)
  case atStart => exact ⟨0, by omega, rfl, rfl, rfl⟩
  case round =>
    obtain ⟨j, hj, rfl, rfl, rfl⟩ := hrel
    by_cases h2 : j < 2
    · by_cases h0 : j = 0
      · subst h0
        have g0 := HG0.out
        have e0 : ((catL a b 0).length : Int) = 0 := rfl
        have hla : (a.length : Int) ≤ 10000 := by omega
        have hneg : ¬ (a.length : Int) < 0 := by omega
        go_wp2_with fail
        go_roundw
        case rel => exact ⟨1, by omega, by go_num, by simp [catL], by first | exact trivial | rfl⟩
        case measure => simp [intOf]
      · obtain rfl : j = 1 := by omega
        have g1 := HG1.out
        have e0 : ((catL a b 1).length : Int) = a.length := rfl
        have hla : (a.length : Int) + b.length ≤ 10000 := by omega
        have hneg : ¬ (a.length : Int) + b.length < 0 := by omega
        go_wp2_with fail
        go_roundw
        case rel => exact ⟨2, by omega, by go_num, by simp [catL], by first | exact trivial | rfl⟩
        case measure => simp [intOf]
    · obtain rfl : j = 2 := by omega
      have e0 : ((catL a b 2).length : Int) = ((a.length + b.length : Nat) : Int) := by simp [catL]
      rw [e0]
      obtain ⟨n, hnn⟩ : ∃ n, n = a.length + b.length := ⟨_, rfl⟩
      rw [← hnn] at HG hn ⊢
      have HNN := Lib.hid (show n = a.length + b.length from hnn)
      clear hnn e0
      go_upto_region 10 with (go_at_call 135; refine HG.out.mono ?_; rintro e w2 ⟨r, rfl, ho, hb⟩; have HO := Lib.hid ho; have HB := Lib.hid hb; clear ho hb)
      have hn2 : a.length + b.length ≤ 10000 := by have := HNN.out; omega
      clear HG
      have hB2 : wr.heap.size ≤ w2.heap.size := HB.out.size
      obtain ⟨w0, rfl⟩ : ∃ W, W = wr := ⟨_, rfl⟩
      go_wp2_with fail
      go_loopw [6, 27] (fun z i wr => ∃ j : Nat, j ≤ 2 ∧ i = .int .i64 j ∧ wr.ownsRow w0.heap.size IntT 1 z (catL a b j).length ((catL a b j).map iv) ∧ Below w0.heap.size w0 wr) (fun _ i _ => 2 - (intOf i).toNat)
      case atStart => exact ⟨0, by omega, rfl, HO.out, HB.out⟩
      case round =>
        obtain ⟨j, hj, rfl, ho, hb⟩ := hrel
        by_cases h2 : j < 2
        · by_cases h0 : j = 0
          · subst h0
            have hx := (hb.cell (p := ⟨g, 0, none⟩) hgl).trans HG0.out
            have hO := own_chg2 (S := NoM) HU.out (Chg.of_below hb) (fun _ _ h => h)
            have HR := Lib.hid ho
            have HBB := Lib.hid hb
            have hsz := hb.size
            have hgr : g < wr.heap.size := by omega
            clear hb
            rcases A1 with _ | ad
            · obtain ⟨rfl, rfl⟩ := LA.out rfl
              have hx' : wr.cell? ⟨g, 0, none⟩ = some (.slice none 0 0) := hx
              clear hx hO
              go_wp2_with (refine wpList_append_own_none rfl _ _ 26 rfl w0.heap.size IntT i0 1 Tryz.underlying26 hi0 _ (catL [] b 0).length ((catL [] b 0).map iv) rfl ho rfl ?_)
              go_roundw
              case rel => exact ⟨1, by omega, by go_num, by simpa [catL] using ho, HBB.out⟩
              case measure => simp [intOf]
            · obtain ⟨cb, cur, hc⟩ : ∃ cb cur, ad = ⟨cb, 0, none⟩ ∧ cur = 0 := by
                rcases own_none hO with ⟨h0, _⟩ | ⟨g', cur, hv, _⟩
                · cases h0
                · exact ⟨g', 0, by injection hv, rfl⟩
              obtain ⟨rfl, _⟩ := hc
              have HC := Lib.hid (own_cells hO)
              clear hO ho
              go_wp2_with (at_builtin; refine wpList_append_own _ rfl _ _ 26 rfl w0.heap.size IntT i0 _ 1 8 Tryz.underlying26 hi0 hz0 hz1 hz2 rfl (by decide) _ (catL a b 0).length ((catL a b 0).map iv) rfl HR.out ⟨cb, 0, none⟩ a.length c1 (a.map iv) rfl ?q1 HC.out (iv_one _) ?q2 ?q3 ?q4 ?_)
              case q1 => simp
              case q2 => simp [catL, maxLen]; omega
              case q3 => simp [catL]; omega
              case q4 => omega
              rintro v' w3 ho3 hgr3 _
              go_wp2_with fail
              go_roundw
              case rel => exact ⟨1, by omega, by go_num, by simpa [catL] using ho3, HBB.out.trans (grown_own0 HR.out (by omega) hgr3)⟩
              case measure => simp [intOf]
          · obtain rfl : j = 1 := by omega
            have hx := (hb.cell (p := ⟨g, 1, none⟩) hgl).trans HG1.out
            have hO := own_chg2 (S := NoM) HV.out (Chg.of_below hb) (fun _ _ h => h)
            have HR := Lib.hid ho
            have HBB := Lib.hid hb
            have hsz := hb.size
            have hgr : g < wr.heap.size := by omega
            clear hb
            rcases A2 with _ | ad
            · obtain ⟨rfl, rfl⟩ := LB.out rfl
              have hx' : wr.cell? ⟨g, 1, none⟩ = some (.slice none 0 0) := hx
              clear hx hO
              go_wp2_with (refine wpList_append_own_none rfl _ _ 26 rfl w0.heap.size IntT i0 1 Tryz.underlying26 hi0 _ (catL a [] 1).length ((catL a [] 1).map iv) rfl ho rfl ?_)
              go_roundw
              case rel => exact ⟨2, by omega, by go_num, by simpa [catL] using ho, HBB.out⟩
              case measure => simp [intOf]
            · obtain ⟨cb, cur, hc⟩ : ∃ cb cur, ad = ⟨cb, 0, none⟩ ∧ cur = 0 := by
                rcases own_none hO with ⟨h0, _⟩ | ⟨g', cur, hv, _⟩
                · cases h0
                · exact ⟨g', 0, by injection hv, rfl⟩
              obtain ⟨rfl, _⟩ := hc
              have HC := Lib.hid (own_cells hO)
              clear hO ho
              go_wp2_with (at_builtin; refine wpList_append_own _ rfl _ _ 26 rfl w0.heap.size IntT i0 _ 1 8 Tryz.underlying26 hi0 hz0 hz1 hz2 rfl (by decide) _ (catL a b 1).length ((catL a b 1).map iv) rfl HR.out ⟨cb, 0, none⟩ b.length c2 (b.map iv) rfl ?q1 HC.out (iv_one _) ?q2 ?q3 ?q4 ?_)
              case q1 => simp
              case q2 => simp [catL, maxLen]; omega
              case q3 => simp [catL]; omega
              case q4 => omega
              rintro v' w3 ho3 hgr3 _
              go_wp2_with fail
              go_roundw
              case rel => exact ⟨2, by omega, by go_num, by simpa [catL] using ho3, HBB.out.trans (grown_own0 HR.out (by omega) hgr3)⟩
              case measure => simp [intOf]
        · obtain rfl : j = 2 := by omega
          go_wp2_with fail
          go_ret
          exact ⟨_, rfl, ho, hb⟩
theorem own_take {w : World} {base n c k : Nat} {e : TypeId} {A : Option Addr} {xs : List Value} (h : w.ownsRow base e 1 (.slice A n c) n xs) (hk : k ≤ n) (hA : A ≠ none) : w.ownsRow base e 1 (.slice A k c) k (xs.take k) := by
  rcases h.2 with ⟨h0, _⟩ | ⟨g, cap, cur, hv, hg, hh, h1, h2, h3, h4⟩
  · injection h0 with h0
    exact absurd h0 hA
  · injection hv with hv _ hc
    subst hv; subst hc
    have hl := h.1
    refine ⟨by rw [List.length_take]; omega, .inr ⟨g, c, cur, rfl, hg, hh, by omega, h2, h3, ?_⟩⟩
    have := congrArg (List.take k) h4
    rw [List.take_take] at this
    rw [← this]
    congr 1
    omega
theorem grow_none (w : World) : grow w #[] = w := by simp [grow]
theorem compact_le (zs : List Int) : (Lib.compact zs).length ≤ zs.length := by
  unfold Lib.compact Lib.compactUpTo
  rw [List.length_map]
  refine Nat.le_trans (List.length_filter_le _ _) ?_
  simp
namespace Sp
/-- What is in one of two rows. -/
def bothI (a b : List Int) : List Int := Lib.compact ((a ++ b).mergeSort fun x y => decide (x ≤ y))
end Sp
set_option maxRecDepth 100000 in
set_option maxHeartbeats 1600000 in
theorem idsBoth_any {B1 B2 : Nat} {u v : Value} {a b : List Int} {w : World} (hu : w.ownsRow B1 IntT 1 u a.length (a.map iv)) (hv : w.ownsRow B2 IntT 1 v b.length (b.map iv)) (hn : a.length + b.length ≤ 10000) :
    Calls Tryz.prog 68 #[u, v] w fun e w' => ∃ r, e = .returned r ∧ w'.ownsRow w.heap.size IntT 1 r (Sp.bothI a b).length ((Sp.bothI a b).map iv) ∧ Below w.heap.size w w' := by
  have hal : Below w.heap.size w (w.alloc (.cells #[u, v] IntsT)) := (Below.refl _ _).alloc (Nat.le_refl _) _
  have HC := Lib.hid (concatI_any (own_chg2 (S := NoM) hu (Chg.of_below hal) (fun _ _ h => h)) (own_chg2 (S := NoM) hv (Chg.of_below hal) (fun _ _ h => h)) (Blk.new w IntsT #[u, v]) hn)
  have hln : (a ++ b).length ≤ 10000 := by rw [List.length_append]; exact hn
  have HB0 := Lib.hid (show Sp.bothI a b = Lib.compact ((a ++ b).mergeSort fun x y => decide (x ≤ y)) from rfl)
  have hz0 : w.heap.size ≤ (w.alloc (.cells #[u, v] IntsT)).heap.size := by rw [World.size_alloc]; omega
  clear hn
  generalize a ++ b = L at *
  have hml : (L.mergeSort fun x y => decide (x ≤ y)).length = L.length := List.length_mergeSort _
  have HAL := Lib.hid hal
  obtain ⟨A1, c1, hu'⟩ := own_slice hu
  obtain ⟨A2, c2, hv'⟩ := own_slice hv
  subst hu'; subst hv'
  clear hu hv hal
  go_enter Tryz.func68, Tryz.ntmps68
  go_upto_region 2 with (go_at_call 97; refine HC.out.mono ?_; rintro e w1 ⟨r, rfl, ho, hb⟩; have HO := Lib.hid ho; have HB := Lib.hid hb; clear ho hb)
  have HB1 := Lib.hid (HAL.out.trans (HB.out.mono hz0))
  have HO1 := Lib.hid (own_base HO.out hz0)
  clear HC HAL HO HB
  obtain ⟨A, c, hr⟩ := own_slice HO1.out
  subst hr
  rcases HO1.out.2 with ⟨h0, hl0⟩ | ⟨g, cap, cur, hv, hg, hh, h1, h2, h3, h4⟩
  · have hL : L = [] := List.eq_nil_of_length_eq_zero hl0
    subst hL
    injection h0 with hA _ hc
    subst hA; subst hc
    go_wp2_with (first
      | (go_at_call 98; refine (Any.slices_Sort_int_none laySort none 0 _).mono ?_; rintro e w2 ⟨rfl, rfl⟩)
      | (go_at_call 99; refine (Any.slices_Compact_int_empty layCompact none 0 _).mono ?_; rintro e w3 ⟨rfl, rfl⟩))
    go_ret
    have e0 : Sp.bothI a b = [] := by rw [HB0.out, List.mergeSort_nil]; rfl
    rw [e0]
    exact ⟨_, rfl, own_nil0 _ _ _ _, HB1.out⟩
  · injection hv with hA _ hc
    subst hA; subst hc
    have hgl : g < w1.heap.size := (Array.getElem?_eq_some_iff.1 hh).1
    have h4' : cur.toList.take L.length = L.map (Value.int .i64) := by rw [Nat.mul_one] at h4; exact h4
    have HS := Lib.hid (sortI_any g 0 c L w1 (holds_of_block_i hh h4') hgl (by omega))
    have HNX := Lib.hid (fun (n : Nat) (os : Array Obj) => ownsRow_sorted_i (n := n) (os := os) (ts := L.mergeSort fun x y => decide (x ≤ y)) (ss := L) hml hg hh h1 h2 h3)
    clear h4 h4' HO1
    go_upto_region 3 with (go_at_call 98; refine HS.out.mono ?_; rintro e w2 ⟨rfl, q, os, hw⟩; have HW := Lib.hid (show w2 = _ from hw); clear hw)
    have HO2 := Lib.hid (show w2.ownsRow w.heap.size IntT 1 (.slice (some ⟨g, 0, none⟩) L.length c) L.length ((L.mergeSort fun x y => decide (x ≤ y)).map iv) from HW.out ▸ HNX.out q os)
    have HB2 := Lib.hid (show Below w.heap.size w w2 from HW.out ▸ HB1.out.grown (grownBy_sorted_i _) HB1.out.size (fun j hj => by cases hj; exact hg))
    clear HW HNX HB1 HS
    generalize hM : (L.mergeSort fun x y => decide (x ≤ y)) = M at *
    rw [← hml] at HO2 hln ⊢
    clear hml hM h1 h3
    rcases HO2.out.2 with ⟨h0, _⟩ | ⟨g', cap', cur', hv', hg', hh', h1', h2', h3', h4'⟩
    · injection h0 with h0
      cases h0
    · injection hv' with hA _ hc
      injection hA with hA
      injection hA with hA
      subst hA; subst hc
      have h5 : cur'.toList.take M.length = M.map (Value.int .i64) := by rw [Nat.mul_one] at h4'; exact h4'
      have HK := Lib.hid (Any.slices_Compact_int layCompact g 0 c M w2 (holds_of_block_i hh' h5) (by omega) (by omega))
      have HNY := Lib.hid (fun (n : Nat) => ownsRow_sorted_i (n := n) (os := #[]) (ts := Lib.compact M ++ List.replicate (M.length - (Lib.compact M).length) 0) (ss := M) (by rw [List.length_append, List.length_replicate]; have := compact_le M; omega) hg hh' h1' h2' h3')
      have hcl := compact_le M
      clear h5 h4' HO2
      go_upto_region 4 with (go_at_call 99; refine HK.out.mono ?_; rintro e w3 ⟨rfl, q3, hw⟩; have HW := Lib.hid (show w3 = _ from hw); clear hw)
      go_wp2_with fail
      go_ret
      have hw3 : w3 = grow (putRow (Value.int .i64) (Sort.ahead w2 q3) g 0 (Lib.compact M ++ List.replicate (M.length - (Lib.compact M).length) 0).toArray) #[] := by rw [grow_none]; exact HW.out
      refine ⟨_, rfl, ?_, ?_⟩
      · rw [HB0.out]
        have h6 := own_take (HNY.out q3) hcl (by simp)
        rw [← List.map_take, List.take_left] at h6
        rw [hw3]
        exact h6
      · rw [hw3]
        exact HB2.out.grown (grownBy_sorted_i _) HB2.out.size (fun j hj => by cases hj; exact hg)
end Go.Proofs.YtkcfmjlcijhieaaGreat
