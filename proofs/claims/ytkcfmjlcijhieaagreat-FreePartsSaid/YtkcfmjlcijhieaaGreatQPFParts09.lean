/- Free pages parted by an age: the plain law. Free pages parted by an age: the law's walk. FreeParts: whatever the input: true; the input reads as it did. -/
import Derived.Test.YtkcfmjlcijhieaaGreatQB00
import Derived.Test.YtkcfmjlcijhieaaGreatQPFParts07
import Derived.Test.YtkcfmjlcijhieaaGreatQPFParts08
import Derived.SizedLaws
set_option linter.unusedSimpArgs false
set_option linter.unusedVariables false
namespace Go.Proofs.YtkcfmjlcijhieaaGreat
open Go.RowKit
attribute [local go_sem low] mk_extract
attribute [local go_sem] After.cell After.frozen mk_extract_end ByteArray.mk_append_mk
namespace Sp
/-- Where the numbers of the n-th begin. -/
def atP (l : List Nat) (n : Nat) : Nat := 2 + ((l.take n).map fun c => c % 5 + 1).sum
def partF (l : List Nat) (n : Nat) : Free := ⟨n, (List.range (l.getD n 0 % 5 + 1)).map fun k : Nat => (atP l n : Int) + (k : Int)⟩
def partsL (l : List Nat) (n : Nat) : List Free := (List.range n).map (partF l)
theorem atP_succ {l : List Nat} {n : Nat} (h : n < l.length) : atP l (n + 1) = atP l n + (l.getD n 0 % 5 + 1) := by
  unfold atP
  rw [List.take_succ_eq_append_getElem h, List.map_append, List.sum_append]
  simp [List.getD, h]
  omega
theorem partsL_succ (l : List Nat) (n : Nat) : partsL l (n + 1) = partsL l n ++ [partF l n] := by
  unfold partsL
  rw [List.range_succ, List.map_append]
  rfl
theorem partsL_len (l : List Nat) (n : Nat) : (partsL l n).length = n := by simp [partsL]
theorem parts_ids (l : List Nat) : ∀ n, n ≤ l.length → 2 ≤ atP l n ∧ (partsL l n).flatMap (·.ids) = (List.range (atP l n - 2)).map fun k : Nat => 2 + (k : Int)
  | 0, _ => by simp [atP, partsL]
  | n + 1, hn => by
    obtain ⟨h2, ih⟩ := parts_ids l n (by omega)
    have ha := atP_succ (l := l) (n := n) (by omega)
    refine ⟨by omega, ?_⟩
    rw [partsL_succ, List.flatMap_append, ih, ha, show atP l n + (l.getD n 0 % 5 + 1) - 2 = (atP l n - 2) + (l.getD n 0 % 5 + 1) by omega, List.range_add, List.map_append, List.map_map]
    congr 1
    simp only [List.flatMap_cons, List.flatMap_nil, List.append_nil, partF]
    refine List.map_congr_left fun k _ => ?_
    show (atP l n : Int) + (k : Int) = 2 + ((atP l n - 2 + k : Nat) : Int)
    omega
theorem parts_up (l : List Nat) (n : Nat) (hn : n ≤ l.length) : ((partsL l n).flatMap (·.ids)).Pairwise (· < ·) := by
  rw [(parts_ids l n hn).2]
  exact List.pairwise_map.2 (List.Pairwise.imp (fun h => by omega) List.pairwise_lt_range)
theorem flat_len : ∀ l : List Free, (l.flatMap (·.ids)).length = total l
  | [] => rfl
  | x :: l => by
    have := flat_len l
    simp only [List.flatMap_cons, List.length_append, total, List.map_cons, List.sum_cons] at *
    omega
theorem parts_total (l : List Nat) (n : Nat) (hn : n ≤ l.length) : total (partsL l n) = atP l n - 2 := by
  rw [← flat_len, (parts_ids l n hn).2]
  simp
theorem total_part (p : Free → Bool) : ∀ l : List Free, total (l.filter p) + total (l.filter fun f => !p f) = total l
  | [] => rfl
  | x :: l => by
    have ih := total_part p l
    have h3 : ∀ m : List Free, total (x :: m) = x.ids.length + total m := fun m => by simp [total]
    rw [List.filter_cons, List.filter_cons, h3]
    cases hp : p x
    · rw [if_neg (by simp), if_pos (by simp), h3]; omega
    · rw [if_pos rfl, if_neg (by simp), h3]; omega
theorem flat_sub (p : Free → Bool) : ∀ l : List Free, ((l.filter p).flatMap (·.ids)).Sublist (l.flatMap (·.ids))
  | [] => List.Sublist.refl _
  | x :: l => by
    rw [List.filter_cons, List.flatMap_cons]
    split
    · rw [List.flatMap_cons]
      exact (List.Sublist.refl _).append (flat_sub p l)
    · exact (flat_sub p l).trans (List.sublist_append_right _ _)
theorem part_ids (l : List Nat) (n : Nat) : ∀ f ∈ partsL l n, 1 ≤ f.ids.length ∧ f.ids.length ≤ 1000 := by
  intro f hf
  obtain ⟨k, _, rfl⟩ := List.mem_map.1 hf
  simp only [partF, List.length_map, List.length_range]
  omega
theorem atP_le (l : List Nat) (n : Nat) : atP l n ≤ 2 + 5 * n := by
  have : ∀ m : List Nat, (m.map fun c => c % 5 + 1).sum ≤ 5 * m.length := by
    intro m
    induction m with
    | nil => simp
    | cons c m ih => simp only [List.map_cons, List.sum_cons, List.length_cons]; omega
  have h := this (l.take n)
  rw [List.length_take] at h
  unfold atP
  omega
/-- What is told of what may be taken. -/
theorem parts_use (l : List Nat) (n : Nat) (hn : n ≤ l.length) (o : Int) : (usableI (partsL l n) o).Pairwise (· < ·) ∧ (usableI (partsL l n) o).length = total ((partsL l n).filter fun f => decide (f.txn < o)) := by
  have h1 := (parts_up l n hn).sublist (flat_sub (fun f => decide (f.txn < o)) (partsL l n))
  have h2 := usable_lt h1
  exact ⟨by rw [h2]; exact h1, by rw [h2, flat_len]⟩
end Sp
set_option maxRecDepth 100000 in
set_option maxHeartbeats 1600000 in
theorem dIsRow_up (L : List Int) (A : Option Addr) (c : Nat) {M : Nat → Prop} (w : World) (h : Ints w M A L) (hp : L.Pairwise (· < ·)) (hn : L.length ≤ 100000) :
    Calls Tryz.prog 25 #[.slice A L.length c] w fun e w' => e = .returned (.bool true) ∧ Below w.heap.size w w' := by
  have H := Lib.hid h
  have HP := Lib.hid hp
  clear h hp
  go_enter Tryz.func25, Tryz.ntmps25
  go_upto_region 2 with fail
  go_loopw [3] (fun i wr => ∃ j : Nat, 1 ≤ j ∧ i = .int .i64 j ∧ (j ≤ L.length ∨ j = 1) ∧ Below w.heap.size w wr) (fun i _ => L.length + 1 - (intOf i).toNat)
  case atStart => exact ⟨1, by omega, rfl, .inr rfl, Below.refl _ _⟩
  case round =>
    obtain ⟨j, hj1, rfl, hj, hb⟩ := hrel
    have HB := Lib.hid hb
    clear hb
    by_cases hjl : j < L.length
    · obtain ⟨b, off, rfl, hbl, hcl⟩ := H.out.at_ hjl
      have x1 := (HB.out.cell (p := ⟨b, off + j, none⟩) hbl).trans (hcl j hjl)
      have x0 := (HB.out.cell (p := ⟨b, off + (j - 1), none⟩) hbl).trans (hcl (j - 1) (by omega))
      have hlt : L.getD (j - 1) 0 < L.getD j 0 := by
        have h1 : j - 1 < L.length := by omega
        have := List.pairwise_iff_getElem.1 HP.out (j - 1) j h1 hjl (by omega)
        simpa [List.getD, h1, hjl] using this
      obtain ⟨r, hr⟩ : ∃ r, r = j - 1 := ⟨_, rfl⟩
      rw [← hr] at x0 hlt
      generalize L.getD j 0 = y at *
      generalize L.getD r 0 = x at *
      have hyx : ¬ y ≤ x := by omega
      have b2 : (j : Int) - 1 = (r : Int) := by omega
      have b3 : r < L.length := by omega
      clear hr hcl
      go_upto_region 4 with fail
      go_quiet (fail)
      have B2 := Lib.hid (HB.out.trans ((below_drewN (Below.refl wr.heap.size wr) nq).mono HB.out.size))
      go_wp2_with fail
      go_roundw
      case rel => exact ⟨j + 1, by omega, by go_num, by omega, B2.out⟩
      case measure => simp [intOf]; omega
    · go_wp2_with fail
      go_ret
      exact ⟨rfl, HB.out⟩
end Go.Proofs.YtkcfmjlcijhieaaGreat
namespace Go.Proofs.YtkcfmjlcijhieaaGreat
open Go.RowKit
attribute [local go_sem low] mk_extract
attribute [local go_sem] After.cell After.frozen mk_extract_end ByteArray.mk_append_mk
/-- An entry in the making. -/
structure PxS (w W0 : World) (b8 : Nat) (t : Int) (ids : List Int) (W : World) : Prop where
  hb : Below W0.heap.size W0 W
  bx : ∃ V c, Blk W b8 FreeT #[.int .u64 t, .slice V ids.length c] ∧ W.ownsRow W0.heap.size IntT 1 (.slice V ids.length c) ids.length (ids.map iv)
  ge : W0.heap.size ≤ b8
  ww : w.heap.size ≤ W0.heap.size
theorem PxS.start {w W0 : World} (t : Int) (hw : w.heap.size ≤ W0.heap.size) : PxS w W0 W0.heap.size t [] (W0.alloc (.cells #[.int .u64 t, .slice none 0 0] FreeT)) :=
  ⟨(Below.refl _ _).alloc (Nat.le_refl _) _, ⟨none, 0, Blk.new _ _ _, own_nil0 _ _ _ _⟩, Nat.le_refl _, hw⟩
theorem PxS.more {w W0 W W' : World} {b8 : Nat} {t id : Int} {ids : List Int} {V : Option Addr} {c : Nat} {v' : Value} (h : PxS w W0 b8 t ids W) (hbx : Blk W b8 FreeT #[.int .u64 t, .slice V ids.length c]) (hV : W.ownsRow W0.heap.size IntT 1 (.slice V ids.length c) ids.length (ids.map iv))
    {W1 : World} (h1 : Below W.heap.size W W1) (ho : W'.ownsRow W0.heap.size IntT 1 v' (ids.length + 1) (ids.map iv ++ [iv id])) (hgr : W1.grownBy W' (Value.slice V ids.length c).ownBlock) :
    ∃ V' c', v' = .slice V' (ids.length + 1) c' ∧ (W'.cell? ⟨b8, 1, none⟩ = some (.slice V ids.length c) ∧ W'.frozen? ⟨b8, 1, none⟩ = false ∧ b8 < W'.heap.size) ∧ PxS w W0 b8 t (ids ++ [id]) (W'.setCell ⟨b8, 1, none⟩ (.slice V' (ids.length + 1) c')) := by
  obtain ⟨V', c', rfl⟩ := own_slice ho
  have hV1 := own_chg2 (S := NoM) hV (Chg.of_below h1) (fun _ _ h => h)
  have hb1 := hbx.below h1 hbx.lt
  have hk := Chg.of_grown (S := fun k => (Value.slice V ids.length c).ownBlock = some k) hgr (fun k hk => .inl hk)
  have hne : ¬ ((Value.slice V ids.length c).ownBlock = some b8) := fun e => by
    obtain ⟨ds, hd⟩ := own_ty2 hV1 e
    exact hd.not_ (by decide) _ hb1
  have hb2 := hb1.chg hk hne
  have hs := Chg.set1 W' b8 1 (.slice V' (ids.length + 1) c')
  have hsz := h.hb.size
  have hsz1 := h1.size
  have hB2 : Below W0.heap.size W0 W' := (h.hb.trans (h1.mono hsz)).trans (hk.below (by omega) fun k _ e => by have := (hV1.lt k e).1; omega)
  refine ⟨V', c', rfl, ⟨hb2.cell 1, hb2.frozen 1, hb2.lt⟩, hB2.trans (hs.below hB2.size fun k _ e => by have e : k = b8 := e; have := h.ge; omega), ⟨V', c', ?_, ?_⟩, h.ge, h.ww⟩
  · have := hb2.set_ 1 (.slice V' (ids.length + 1) c')
    simpa using this
  · have := own_chg2 ho hs (fun k hk e => by
      obtain ⟨ds, hd⟩ := own_ty2 ho hk
      have e : k = b8 := e
      subst e
      exact hd.not_ (by decide) _ hb2)
    simpa using this
set_option maxRecDepth 100000 in
set_option maxHeartbeats 1600000 in
theorem parts_walk (l : List Nat) (A : Option Addr) (cA : Nat) (w : World) (hU : U8s w A l) (hlb : ∀ k ∈ l, k < 256) (o0 : Int) (ho0 : 0 ≤ o0) (ho1 : o0 ≤ 255) :
    Calls Tryz.prog 4 #[.slice A l.length cA, .int .u8 o0] w fun e w' => e = .returned (.bool true) ∧ Below w.heap.size w w' := by
  have HKN := Lib.hid (known18_any w)
  by_cases hl20 : 20 < l.length
  · have hlen : l.length ≤ 9223372036854775807 := by have := hU.1; simpa using this
    go_enter Tryz.func4, Tryz.ntmps4
    go_wp2_with (go_at_call 15; refine HKN.out.mono ?_; rintro e w1 ⟨rfl, hb1⟩; have HB1 := Lib.hid hb1; clear hb1)
    go_ret
    exact ⟨by simp, HB1.out⟩
  obtain ⟨i0, hi0, hz0, hz1, hz2⟩ := info_parts info_free2
  obtain ⟨i2, hi2, hy0, hy1, hy2⟩ := info_parts info_int
  go_enter Tryz.func4, Tryz.ntmps4
  go_upto_region 8 with (go_at_call 15; refine HKN.out.mono ?_; rintro e w1 ⟨rfl, hb1⟩; have HB1 := Lib.hid hb1; clear hb1)
  clear HKN
  go_loopw [5, 6, 7] (fun u at_ i wr => ∃ n : Nat, n ≤ l.length ∧ i = .int .i64 n ∧ at_ = .int .i64 (Sp.atP l n) ∧ FrsO wr w.heap.size u (Sp.partsL l n) ∧ Below w.heap.size w wr) (fun _ _ i _ => l.length - (intOf i).toNat)
  case atStart => exact ⟨0, Nat.zero_le _, rfl, rfl, FrsO.nil, HB1.out⟩
  case round =>
    obtain ⟨n, hn, rfl, rfl, hf, hb⟩ := hrel
    have F := Lib.hid hf
    have HB := Lib.hid hb
    have hat := Sp.atP_le l n
    clear hf hb HB1
    by_cases hnl : n < l.length
    · have hwn : IntKind.u64.wrap (n : Int) = (n : Int) := by simp [IntKind.wrap, IntKind.bits, IntKind.signed]; omega
      go_upto_region 11 with (refine wpList_new FreeT _ _ rfl rfl rfl rfl rfl rfl _ rfl (of_decide_eq_true (by kernel_rfl)) (by kernel_rfl) (by kernel_rfl) (by kernel_rfl) ?_)
      obtain ⟨W0, rfl⟩ : ∃ W, W = wr := ⟨_, rfl⟩
      have hzw := HB.out.size
      have P0 := Lib.hid (PxS.start (w := w) (n : Int) hzw)
      refine wp_gen (fun W => PxS w W0 W0.heap.size (n : Int) [] W) P0.out ?_
      clear P0
      obtain ⟨b8, hb8⟩ : ∃ b, b = W0.heap.size := ⟨_, rfl⟩
      rw [← hb8]
      have HB8 := Lib.hid (show b8 = W0.heap.size from hb8)
      clear hb8
      intro W1 hp
      have P1 := Lib.hid hp
      clear hp
      go_upto_region 12 with fail
      obtain ⟨ab, ao, rfl, hab, hac⟩ := hU.at_ hnl
      have hcx := hac n hnl
      have HCX := Lib.hid hcx
      have hx : l.getD n 0 < 256 := hlb _ (by rw [List.getD_eq_getElem?_getD, List.getElem?_eq_getElem hnl]; exact List.getElem_mem hnl)
      have hpf : Sp.partF l n = ⟨(n : Int), (List.range (l.getD n 0 % 5 + 1)).map fun k : Nat => (Sp.atP l n : Int) + (k : Int)⟩ := rfl
      have has := Sp.atP_succ hnl
      have HPF := Lib.hid hpf
      have HAS := Lib.hid has
      clear hpf has hcx
      generalize l.getD n 0 = x at *
      obtain ⟨c, hc⟩ : ∃ c, c = x % 5 := ⟨_, rfl⟩
      have hxc : (x : Int) % 5 = (c : Int) := by omega
      have hc5 : c < 5 := by omega
      have HC := Lib.hid (show x % 5 = c from hc.symm)
      have HXC := Lib.hid hxc
      clear hc hxc
      go_loopw [6, 9] (fun at_ i wr => ∃ q : Nat, q ≤ c + 1 ∧ i = .int .i64 q ∧ at_ = .int .i64 ((Sp.atP l n : Int) + q) ∧ PxS w W0 b8 (n : Int) ((List.range q).map fun k : Nat => (Sp.atP l n : Int) + (k : Int)) wr) (fun _ i _ => c + 1 - (intOf i).toNat)
      case atStart => exact ⟨0, Nat.zero_le _, rfl, by simp, P1.out⟩
      case round =>
        obtain ⟨q, hq, rfl, rfl, hs⟩ := hrel
        have S := Lib.hid hs
        clear hs P1
        have hcell := ((HB.out.trans (S.out.hb.mono hzw)).cell (p := ⟨ab, ao + n, none⟩) hab).trans HCX.out
        have hxc := HXC.out
        by_cases hqc : q ≤ c
        · have hids : ((List.range q).map fun k : Nat => (Sp.atP l n : Int) + (k : Int)).length = q := by simp
          have hnx : (List.range (q + 1)).map (fun k : Nat => (Sp.atP l n : Int) + (k : Int)) = ((List.range q).map fun k : Nat => (Sp.atP l n : Int) + (k : Int)) ++ [(Sp.atP l n : Int) + (q : Int)] := by rw [List.range_succ, List.map_append]; rfl
          have HNX := Lib.hid hnx
          have HIL := Lib.hid hids
          obtain ⟨V, cl, hbx, hV⟩ := S.out.bx
          have HMO := Lib.hid (fun (W1 W' : World) (v' : Value) (h1 : Below wr.heap.size wr W1) ho hgr => S.out.more (W' := W') (v' := v') (id := (Sp.atP l n : Int) + (q : Int)) hbx hV h1 ho hgr)
          rw [hids] at hbx hV
          have c1 : wr.cell? ⟨b8, 1, none⟩ = some (.slice V q cl) := hbx.cell 1
          have HBX := Lib.hid hbx
          have HV := Lib.hid hV
          have hsz := S.out.hb.size
          have hwq : IntKind.i64.wrap ((Sp.atP l n : Int) + (q : Int) + 1) = (Sp.atP l n : Int) + ((q + 1 : Nat) : Int) := by rw [IntKind.wrap_i64]; omega
          clear hnx hids hbx hV
          generalize ((List.range q).map fun k : Nat => (Sp.atP l n : Int) + (k : Int)) = ids at *
          have hal := (Below.refl wr.heap.size wr).alloc (Nat.le_refl _) (.cells #[.int .i64 ((Sp.atP l n : Int) + (q : Int))] IntT)
          have HAL := Lib.hid hal
          go_wp2_with (at_builtin; refine wpList_append_own _ rfl _ _ 26 rfl W0.heap.size IntT i2 _ 1 8 Tryz.underlying26 hi2 hy0 hy1 hy2 rfl (by decide) (.slice V q cl) q (ids.map iv) rfl (own_chg2 (S := NoM) HV.out (Chg.of_below HAL.out) (fun _ _ h => h)) ⟨wr.heap.size, 0, none⟩ 1 1 [iv ((Sp.atP l n : Int) + (q : Int))] rfl rfl (cell_one_new _ _ _) (fun u hu => by rw [List.mem_singleton.1 hu]; rfl) ?c3 ?c4 ?c5 ?_)
          case c3 => simp only [maxLen]; omega
          case c4 => omega
          case c5 => rw [World.size_alloc]; omega
          intro v6 w6 ho6 hgr6 _
          obtain ⟨V7, c7, hv7, ⟨hc7, hf7, hl7⟩, hp7⟩ := HMO.out _ w6 v6 HAL.out (by rw [HIL.out]; exact ho6) (by rw [HIL.out]; exact hgr6)
          rw [HIL.out] at hv7 hc7 hp7
          subst hv7
          have P7 := Lib.hid hp7
          clear hp7 ho6 hgr6 HMO hal
          go_wp2_with fail
          go_roundw
          case rel => exact ⟨q + 1, by omega, by go_num, rfl, by rw [HNX.out]; exact P7.out⟩
          case measure => simp [intOf]; omega
        · have hqe : q = c + 1 := by omega
          subst hqe
          obtain ⟨V, cl, hbx, hV⟩ := S.out.bx
          rw [← HC.out] at hbx hV
          have hpf := HPF.out
          have hbx2 : Blk wr b8 FreeT #[.int .u64 (Sp.partF l n).txn, .slice V (Sp.partF l n).ids.length cl] := by rw [hpf]; exact hbx
          have hV2 : wr.ownsRow W0.heap.size IntT 1 (.slice V (Sp.partF l n).ids.length cl) (Sp.partF l n).ids.length ((Sp.partF l n).ids.map iv) := by rw [hpf]; exact hV
          have hpb := Sp.part_ids l (n + 1) (Sp.partF l n) (by rw [Sp.partsL_succ]; simp)
          have hpt : 0 ≤ (Sp.partF l n).txn ∧ (Sp.partF l n).txn < 18446744073709551616 := ⟨by show (0 : Int) ≤ (n : Int); omega, by show (n : Int) < _; omega⟩
          have HNP := Lib.hid (Sp.partsL_succ l n)
          have hln := Sp.partsL_len l n
          have F2 := Lib.hid (F.out.go S.out.hb)
          have hatx : (Sp.atP l n : Int) + ((c + 1 : Nat) : Int) = (Sp.atP l (n + 1) : Int) := by rw [HAS.out, HC.out]; omega
          rw [hatx]
          have HBw := Lib.hid (HB.out.trans (S.out.hb.mono hzw))
          clear hbx hV hpf S hatx F HPF
          generalize Sp.partF l n = pf at *
          generalize Sp.partsL l n = pl at *
          have hal := (Below.refl wr.heap.size wr).alloc (Nat.le_refl _) (.cells (freeV pf V cl).toArray FreeT)
          obtain ⟨xs, h1, h2⟩ := (F2.out.go hal).ex
          have H1 := Lib.hid h1
          have H2 := Lib.hid h2
          have HBX := Lib.hid hbx2
          have HOV := Lib.hid (own_base (base' := w.heap.size) (own_chg2 (S := NoM) hV2 (Chg.of_below hal) (fun _ _ h => h)) hzw)
          have HCE := Lib.hid (cells_free (x := pf) (V := V) (c := cl) wr)
          have hz3 : w.heap.size ≤ (wr.alloc (.cells (freeV pf V cl).toArray FreeT)).heap.size := by have := HBw.out.size; rw [World.size_alloc]; omega
          have HAL := Lib.hid hal
          clear h1 h2 hbx2 hV2 hal
          go_wp2_with (first
            | (refine wpList_row FreeT _ rfl b8 rfl rfl FreeT _ (0, 0) _ HBX.out Tryz.underlying28 rfl (by kernel_rfl) ?_)
            | (at_builtin; refine wpList_append_own _ rfl _ _ 24 rfl w.heap.size FreeT i0 _ 2 32 Tryz.underlying24 hi0 hz0 hz1 hz2 rfl (by decide) _ pl.length xs rfl H1.out ⟨wr.heap.size, 0, none⟩ 1 1 (freeV pf V cl) rfl rfl HCE.out (freeV_ones pf V cl) ?c3 ?c4 hz3 ?_))
          case c3 => simp only [maxLen]; omega
          case c4 => omega
          intro v6 w6 ho6 hgr6 _
          obtain ⟨hf6, hk6⟩ := FrsO.more H1.out H2.out hz3 HOV.out ⟨hpb.2, hpt⟩ (by rw [hln]; exact ho6) hgr6
          have hb6 : Below w.heap.size w w6 := (HBw.out.trans (HAL.out.mono HBw.out.size)).trans (hk6.below hz3 fun k _ e => by have := (H1.out.lt k e).1; omega)
          have F6 := Lib.hid hf6
          have B6 := Lib.hid hb6
          clear ho6 hgr6 hf6 hk6 hb6
          go_wp2_with fail
          go_roundw
          case rel => exact ⟨n + 1, by omega, by go_num, rfl, by rw [HNP.out]; exact F6.out, B6.out⟩
          case measure => simp [intOf]; omega
    · have hnn : n = l.length := by omega
      subst hnn
      obtain ⟨Au, cu, hu⟩ := F.out.form
      subst hu
      have hln := Sp.partsL_len l l.length
      have hpi := Sp.part_ids l l.length
      have htt := Sp.parts_total l l.length (Nat.le_refl _)
      have hat2 := (Sp.parts_ids l l.length (Nat.le_refl _)).1
      obtain ⟨o, ho⟩ : ∃ o, o = o0 % 25 := ⟨_, rfl⟩
      have hob : 0 ≤ o ∧ o < 25 := by omega
      have how : IntKind.u64.wrap o = o := by simp [IntKind.wrap, IntKind.bits, IntKind.signed]; omega
      obtain ⟨hup, hul⟩ := Sp.parts_use l l.length (Nat.le_refl _) o
      have htp := Sp.total_part (fun f : Sp.Free => decide (f.txn < o)) (Sp.partsL l l.length)
      rw [← hul] at htp
      clear hul
      have HFR := Lib.hid (F.out.frees (M := fun k => k < w.heap.size) (fun k hk h => by omega) (by omega))
      rw [hln]
      have HPI := Lib.hid hpi
      have htb : Sp.total (Sp.partsL l l.length) ≤ 8000 := by omega
      generalize Sp.partsL l l.length = pl at *
      generalize Sp.atP l l.length = at_ at *
      have HRS := Lib.hid (show ∀ f ∈ pl.filter fun f => !decide (f.txn < o), (1 ≤ f.ids.length ∧ f.ids.length ≤ 1000) ∧ ¬ f.txn < o from fun f hf => by
        have h := List.mem_filter.1 hf
        exact ⟨hpi f h.1, by simpa using h.2⟩)
      have hrl : (pl.filter fun f => !decide (f.txn < o)).length ≤ 20 := Nat.le_trans (List.length_filter_le _ _) (by omega)
      have hpl20 : pl.length ≤ 20 := by omega
      have HUS := Lib.hid (fun (W : World) (h : Frees W (fun k => k < w.heap.size) Au pl) => usable_any pl Au cu o W h (by omega) hpi htb ⟨hob.1, by omega⟩)
      have HRE := Lib.hid (fun (W : World) (h : Frees W (fun k => k < w.heap.size) Au pl) => frest_any pl Au cu o W h (by omega) hpi ⟨hob.1, by omega⟩)
      have HCO := Lib.hid (fun (W : World) (h : Frees W (fun k => k < w.heap.size) Au pl) => fcount_any pl Au cu W h (by omega) (fun f hf => (hpi f hf).2))
      rw [hln] at HUS HRE HCO
      clear hpi
      generalize Sp.usableI pl o = us at *
      generalize (pl.filter fun f => !decide (f.txn < o)) = rs at *
      have HO := Lib.hid (show o0 % 25 = o from ho.symm)
      have hoo := HO.out
      clear ho
      go_upto_region 19 with (first
        | (go_at_call 23; refine (HUS.out _ HFR.out).mono ?_; rintro e w2 ⟨ru, rfl, ho2, hb2⟩; obtain ⟨A2, c2, rfl⟩ := own_slice ho2; have HU2 := Lib.hid (own_intsB (M := NoM) ho2 rfl (by omega) (fun _ _ h => h)); have HB2 := Lib.hid hb2; clear ho2 hb2)
        | (go_at_call 24; refine (HRE.out _ (HFR.out.go HB2.out)).mono ?_; rintro e w3 ⟨rr, rfl, hf3, hb3⟩; obtain ⟨A3, c3, rfl⟩ := hf3.form; have HF3 := Lib.hid hf3; have HB3 := Lib.hid hb3; clear hf3 hb3))
      have HU3 := Lib.hid (HU2.out.go HB3.out)
      have HFR3 := Lib.hid (HFR.out.go (HB2.out.trans (HB3.out.mono HB2.out.size)))
      have HBW := Lib.hid (HB.out.trans ((HB2.out.trans (HB3.out.mono HB2.out.size)).mono HB.out.size))
      have hz2 : w.heap.size ≤ w2.heap.size := Nat.le_trans HB.out.size HB2.out.size
      clear hoo HU2 HFR HB2 HB3 HB F HUS HRE
      have hz3 : w.heap.size ≤ w3.heap.size := HBW.out.size
      go_loopw [12] (fun i wr => ∃ k : Nat, k ≤ rs.length ∧ i = .int .i64 k ∧ Below w3.heap.size w3 wr) (fun i _ => rs.length - (intOf i).toNat)
      case atStart => exact ⟨0, Nat.zero_le _, rfl, Below.refl _ _⟩
      case round =>
        obtain ⟨k, hk, rfl, hb⟩ := hrel
        have HBB := Lib.hid hb
        clear hb
        by_cases hkr : k < rs.length
        · obtain ⟨g, c, V, c2, hA, hg, _, hcell⟩ := (HF3.out.go HBB.out).at_ hkr
          injection hA with hA _ hc
          subst hA; subst hc
          have hx := (HRS.out (rs.getD k Sp.free0) (by rw [show rs.getD k Sp.free0 = rs[k] by simp [List.getD, hkr]]; exact List.getElem_mem hkr)).2
          have cx : wr.cell? ⟨g, k * 2, none⟩ = some (.int .u64 (rs.getD k Sp.free0).txn) := hcell 0 _ rfl
          have hoo := HO.out
          clear hcell
          generalize (rs.getD k Sp.free0).txn = tx at *
          go_wp2_with fail
          go_roundw
          case rel => exact ⟨k + 1, by omega, by go_num, HBB.out⟩
          case measure => simp [intOf]; omega
        · have HCR := Lib.hid (fcount_any rs A3 c3 wr ((HF3.out.go HBB.out).frees (M := fun k => k < w.heap.size) (fun k hk h => by omega) (by omega)) (by omega) (fun f hf => ((HRS.out f hf).1).2))
          have HCL := Lib.hid (fun (W : World) (hb : Below wr.heap.size wr W) => HCO.out W (HFR3.out.go (HBB.out.trans (hb.mono HBB.out.size))))
          have HIR := Lib.hid (fun (W : World) (hb : Below wr.heap.size wr W) => dIsRow_up us A2 c2 W (HU3.out.go (HBB.out.trans (hb.mono HBB.out.size))) hup (by omega))
          have hsum : (us.length : Int) + (Sp.total rs : Int) = (Sp.total pl : Int) := by omega
          have hat3 : (at_ : Int) - 2 = (Sp.total pl : Int) := by omega
          have hw1 : IntKind.i64.wrap ((us.length : Int) + (Sp.total rs : Int)) = (Sp.total pl : Int) := by rw [IntKind.wrap_i64]; omega
          have hw2 : IntKind.i64.wrap ((at_ : Int) - 2) = (Sp.total pl : Int) := by rw [IntKind.wrap_i64]; omega
          go_wp2_with (first
            | (go_at_call_of 16 (Value.slice A3 rs.length c3); refine HCR.out.mono ?_; rintro e w4 ⟨rfl, hb4⟩; have HB4 := Lib.hid hb4; clear hb4)
            | (go_at_call 16; refine (HCL.out _ HB4.out).mono ?_; rintro e w5 ⟨rfl, hb5⟩; have HB5 := Lib.hid (HB4.out.trans (hb5.mono HB4.out.size)); clear hb5 HB4)
            | (go_at_call 16; refine (HCL.out _ HB5.out).mono ?_; rintro e w6 ⟨rfl, hb6⟩; have HB6 := Lib.hid (HB5.out.trans (hb6.mono HB5.out.size)); clear hb6 HB5)
            | (go_at_call 25; refine (HIR.out _ HB6.out).mono ?_; rintro e w7 ⟨rfl, hb7⟩; have HB7 := Lib.hid (HB6.out.trans (hb7.mono HB6.out.size)); clear hb7))
          go_ret
          exact ⟨by simp, HBW.out.trans ((HBB.out.trans (HB7.out.mono HBB.out.size)).mono hz3)⟩
end Go.Proofs.YtkcfmjlcijhieaaGreat
namespace Go.Proofs.YtkcfmjlcijhieaaGreat.freeParts
open Go.ChangeShapes Go.WideShapes Go.ChangeAt Go.RowKit
set_option maxRecDepth 100000 in
theorem lifted (os : Os) (started : os.Started) (H : Type) (enc : TypeId × Value → H) :
    ReturnsInHanded {} Tryz.checked os 4 .any (Rows.freePartsSpec.pre6 enc Tryz.prog Tryz.f4 Rows.freePartsRow.domain false) (Rows.freePartsSpec.post enc Tryz.prog Tryz.f4 false true false false) := by
  refine returnsInHanded_of_change_sized (C := Tryz.checked) ownKn started (by kernel_rfl) Tryz.func4
    (ChangeSpec.witness6 (enc := enc) (C := Tryz.checked) false ⟨#[], #[.slice none 0 0, .int .u8 0], []⟩ 8 (by kernel_rfl) (by kernel_rfl) (by kernel_rfl) (by kernel_rfl)) ?_
  intro W base args ds gs before hval0 hW hcnd hsz0 _
  have hval : ∀ (j : Nat) t v, Tryz.f4.params[j]? = some t → args[j]? = some v → Value.okWide Tryz.prog W .any base t v := hval0
  have hW' := hW
  obtain ⟨p, q, hA0, hV, rfl, hfz, hnd⟩ := hW
  have hA : DataW.TrodAll enc Tryz.prog W 0 (fun _ => true) true Tryz.f4.params.toList args.toList ds p := hA0
  have hsz : (DataW.weightsEach Tryz.prog (Tryz.f4.params.toList ++ Rows.freePartsSpec.plain.varTypes Tryz.prog) (ds ++ gs)).all (· ≤ reachBytes) = true := hsz0
  rw [Tryz.params4] at hA hval hsz
  obtain ⟨v0, vs0, d0, ds0, p0, q0, hargs, rfl, rfl, h0, rr0⟩ := trodAll_cons hA
  obtain ⟨v1, vs1, d1, ds1, p1, q1, rfl, rfl, rfl, h1, rr1⟩ := trodAll_cons rr0
  obtain ⟨rfl, rfl, rfl⟩ := trodAll_nil rr1
  obtain rfl : args = #[v0, v1] := by cases args; simp_all
  obtain ⟨rfl, rfl⟩ := trodVars_none hV
  have k0 := h0
  obtain ⟨a0, r0, c0, hv0, b0, g0⟩ := open_u8s (hval 0 22 v0 rfl rfl) h0
  obtain ⟨a1, rfl, rfl, rfl, w1⟩ := open_int Tryz.underlying5 (hval 1 5 v1 rfl rfl) h1
  clear hA0 hval0
  simp only [List.append_nil] at hW'
  rw [hv0]
  refine (parts_walk a0 r0 c0 W b0 g0 a1 (bounds_u8 w1).1 (bounds_u8 w1).2).mono fun e W' ⟨he, hg⟩ => ?_
  subst he
  rw [← hv0]
  exact ⟨_, rfl, post_of_below (pa := (p0 ++ ([] ++ []))) (pv := []) hW' (fun _ _ _ => (trodAll_cons_mk (shut_bool Tryz.underlying4 _) trodAll_mk0)) (fun sp hsp => (trodAll_cons_mk (WideElems.Trod_stays laidKn (by kernel_rfl) (of_decide_eq_true (by kernel_rfl)) k0 (fun x hx => hg.same (hW'.lt x (by simp [hx]))) (fun x hx => hsp x (by simp [hx]))) (trodAll_cons_mk (shut_int Tryz.underlying5 w1) trodAll_mk0))) (fun _ _ => rfl) (by simp)
    hg (ok_one (by kernel_rfl) rfl (okWide_bool_mk Tryz.underlying4 _))⟩
theorem over : Rows.freePartsRow.holds Tryz.pinned (OpenSpec.ofChange Rows.freePartsSpec) :=
  OpenClaim.holds_of_wide 4 Tryz.f4 rfl rfl rfl rfl rfl rfl rfl ⟨rfl, rfl, rfl, rfl, rfl⟩ rfl rfl rfl rfl rfl (by kernel_rfl) Tryz.func4 (by kernel_rfl)
    (of_decide_eq_true (by kernel_rfl)) (by unfold Func.isWrapper; first | (rw [if_pos (by decide +kernel)]; kernel_rfl) | (rw [if_neg (by decide +kernel)]; exact ⟨rfl, rfl⟩))
    (fun os started H enc _ => lifted os started H enc)
theorem proved : Rows.FreePartsSaid :=
  over
#print axioms proved
end Go.Proofs.YtkcfmjlcijhieaaGreat.freeParts
