/- Free pages parted by an age: the law's walk. A list that is packed, and read again: the law's walk. -/
import Derived.Test.YtkcfmjlcijhieaaGreatQPFBack09
set_option linter.unusedSimpArgs false
set_option linter.unusedVariables false
namespace Go.Proofs.YtkcfmjlcijhieaaGreat
open Go.RowKit
attribute [local go_sem low] mk_extract
attribute [local go_sem] After.cell After.frozen mk_extract_end ByteArray.mk_append_mk
/-- An entry in the making. -/
structure PxS (w W0 : World) (b8 : Nat) (t : Int) (ids : List Int) (W : World) : Prop where
  hb : Below W0.heap.size W0 W
  bx : ∃ V c, Blk W b8 FreeT #[.int .u64 t, .slice V ids.length c] ∧ W.ownsRow W0.heap.size IntT 1 (.slice V ids.length c) ids.length (ids.map iv)
  ge : W0.heap.size ≤ b8
  ww : w.heap.size ≤ W0.heap.size
theorem PxS.start {w W0 : World} (t : Int) (hw : w.heap.size ≤ W0.heap.size) : PxS w W0 W0.heap.size t [] (W0.alloc (.cells #[.int .u64 t, .slice none 0 0] FreeT)) :=
  ⟨(Below.refl _ _).alloc (Nat.le_refl _) _, ⟨none, 0, Blk.new _ _ _, own_nil0 _ _ _ _⟩, Nat.le_refl _, hw⟩
theorem PxS.more {w W0 W W' : World} {b8 : Nat} {t id : Int} {ids : List Int} {V : Option Addr} {c : Nat} {v' : Value} (h : PxS w W0 b8 t ids W) (hbx : Blk W b8 FreeT #[.int .u64 t, .slice V ids.length c]) (hV : W.ownsRow W0.heap.size IntT 1 (.slice V ids.length c) ids.length (ids.map iv))
    {W1 : World} (h1 : Below W.heap.size W W1) (ho : W'.ownsRow W0.heap.size IntT 1 v' (ids.length + 1) (ids.map iv ++ [iv id])) (hgr : W1.grownBy W' (Value.slice V ids.length c).ownBlock) :
    ∃ V' c', v' = .slice V' (ids.length + 1) c' ∧ (W'.cell? ⟨b8, 1, none⟩ = some (.slice V ids.length c) ∧ W'.frozen? ⟨b8, 1, none⟩ = false ∧ b8 < W'.heap.size) ∧ PxS w W0 b8 t (ids ++ [id]) (W'.setCell ⟨b8, 1, none⟩ (.slice V' (ids.length + 1) c')) := by
  obtain ⟨V', c', rfl⟩ := own_slice ho
  have hV1 := own_chg2 (S := NoM) hV (Chg.of_below h1) (fun _ _ h => h)
  have hb1 := hbx.below h1 hbx.lt
  have hk := Chg.of_grown (S := fun k => (Value.slice V ids.length c).ownBlock = some k) hgr (fun k hk => .inl hk)
  have hne : ¬ ((Value.slice V ids.length c).ownBlock = some b8) := fun e => by
    obtain ⟨ds, hd⟩ := own_ty2 hV1 e
    exact hd.not_ (by decide) _ hb1
  have hb2 := hb1.chg hk hne
  have hs := Chg.set1 W' b8 1 (.slice V' (ids.length + 1) c')
  have hsz := h.hb.size
  have hsz1 := h1.size
  have hB2 : Below W0.heap.size W0 W' := (h.hb.trans (h1.mono hsz)).trans (hk.below (by omega) fun k _ e => by have := (hV1.lt k e).1; omega)
  refine ⟨V', c', rfl, ⟨hb2.cell 1, hb2.frozen 1, hb2.lt⟩, hB2.trans (hs.below hB2.size fun k _ e => by have e : k = b8 := e; have := h.ge; omega), ⟨V', c', ?_, ?_⟩, h.ge, h.ww⟩
  · have := hb2.set_ 1 (.slice V' (ids.length + 1) c')
    simpa using this
  · have := own_chg2 ho hs (fun k hk e => by
      obtain ⟨ds, hd⟩ := own_ty2 ho hk
      have e : k = b8 := e
      subst e
      exact hd.not_ (by decide) _ hb2)
    simpa using this
set_option maxRecDepth 100000 in
set_option maxHeartbeats 1600000 in
theorem parts_walk (l : List Nat) (A : Option Addr) (cA : Nat) (w : World) (hU : U8s w A l) (hlb : ∀ k ∈ l, k < 256) (o0 : Int) (ho0 : 0 ≤ o0) (ho1 : o0 ≤ 255) :
    Calls Tryz.prog 4 #[.slice A l.length cA, .int .u8 o0] w fun e w' => e = .returned (.bool true) ∧ Below w.heap.size w w' := by
  have HKN := Lib.hid (known18_any w)
  by_cases hl20 : 20 < l.length
  · have hlen : l.length ≤ 9223372036854775807 := by have := hU.1; simpa using this
    go_enter Tryz.func4, Tryz.ntmps4
    go_wp2_with (go_at_call 15; refine HKN.out.mono ?_; rintro e w1 ⟨rfl, hb1⟩; have HB1 := Lib.hid hb1; clear hb1)
    go_ret
    exact ⟨by simp, HB1.out⟩
  obtain ⟨i0, hi0, hz0, hz1, hz2⟩ := info_parts info_free2
  obtain ⟨i2, hi2, hy0, hy1, hy2⟩ := info_parts info_int
  go_enter Tryz.func4, Tryz.ntmps4
  go_upto_region 8 with (go_at_call 15; refine HKN.out.mono ?_; rintro e w1 ⟨rfl, hb1⟩; have HB1 := Lib.hid hb1; clear hb1)
  clear HKN
  go_loopw [5, 6, 7] (fun u at_ i wr => ∃ n : Nat, n ≤ l.length ∧ i = .int .i64 n ∧ at_ = .int .i64 (Sp.atP l n) ∧ FrsO wr w.heap.size u (Sp.partsL l n) ∧ Below w.heap.size w wr) (fun _ _ i _ => l.length - (intOf i).toNat)
  case atStart => exact ⟨0, Nat.zero_le _, rfl, rfl, FrsO.nil, HB1.out⟩
  case round =>
    obtain ⟨n, hn, rfl, rfl, hf, hb⟩ := hrel
    have F := Lib.hid hf
    have HB := Lib.hid hb
    have hat := Sp.atP_le l n
    clear hf hb HB1
    by_cases hnl : n < l.length
    · have hwn : IntKind.u64.wrap (n : Int) = (n : Int) := by simp [IntKind.wrap, IntKind.bits, IntKind.signed]; omega
      go_upto_region 11 with (refine wpList_new FreeT _ _ rfl rfl rfl rfl rfl rfl _ rfl (of_decide_eq_true (by kernel_rfl)) (by kernel_rfl) (by kernel_rfl) (by kernel_rfl) ?_)
      obtain ⟨W0, rfl⟩ : ∃ W, W = wr := ⟨_, rfl⟩
      have hzw := HB.out.size
      have P0 := Lib.hid (PxS.start (w := w) (n : Int) hzw)
      refine wp_gen (fun W => PxS w W0 W0.heap.size (n : Int) [] W) P0.out ?_
      clear P0
      obtain ⟨b8, hb8⟩ : ∃ b, b = W0.heap.size := ⟨_, rfl⟩
      rw [← hb8]
      have HB8 := Lib.hid (show b8 = W0.heap.size from hb8)
      clear hb8
      intro W1 hp
      have P1 := Lib.hid hp
      clear hp
      go_upto_region 12 with fail
      obtain ⟨ab, ao, rfl, hab, hac⟩ := hU.at_ hnl
      have hcx := hac n hnl
      have HCX := Lib.hid hcx
      have hx : l.getD n 0 < 256 := hlb _ (by rw [List.getD_eq_getElem?_getD, List.getElem?_eq_getElem hnl]; exact List.getElem_mem hnl)
      have hpf : Sp.partF l n = ⟨(n : Int), (List.range (l.getD n 0 % 5 + 1)).map fun k : Nat => (Sp.atP l n : Int) + (k : Int)⟩ := rfl
      have has := Sp.atP_succ hnl
      have HPF := Lib.hid hpf
      have HAS := Lib.hid has
      clear hpf has hcx
      generalize l.getD n 0 = x at *
      obtain ⟨c, hc⟩ : ∃ c, c = x % 5 := ⟨_, rfl⟩
      have hxc : (x : Int) % 5 = (c : Int) := by omega
      have hc5 : c < 5 := by omega
      have HC := Lib.hid (show x % 5 = c from hc.symm)
      have HXC := Lib.hid hxc
      clear hc hxc
      go_loopw [6, 9] (fun at_ i wr => ∃ q : Nat, q ≤ c + 1 ∧ i = .int .i64 q ∧ at_ = .int .i64 ((Sp.atP l n : Int) + q) ∧ PxS w W0 b8 (n : Int) ((List.range q).map fun k : Nat => (Sp.atP l n : Int) + (k : Int)) wr) (fun _ i _ => c + 1 - (intOf i).toNat)
      case atStart => exact ⟨0, Nat.zero_le _, rfl, by simp, P1.out⟩
      case round =>
        obtain ⟨q, hq, rfl, rfl, hs⟩ := hrel
        have S := Lib.hid hs
        clear hs P1
        have hcell := ((HB.out.trans (S.out.hb.mono hzw)).cell (p := ⟨ab, ao + n, none⟩) hab).trans HCX.out
        have hxc := HXC.out
        by_cases hqc : q ≤ c
        · have hids : ((List.range q).map fun k : Nat => (Sp.atP l n : Int) + (k : Int)).length = q := by simp
          have hnx : (List.range (q + 1)).map (fun k : Nat => (Sp.atP l n : Int) + (k : Int)) = ((List.range q).map fun k : Nat => (Sp.atP l n : Int) + (k : Int)) ++ [(Sp.atP l n : Int) + (q : Int)] := by rw [List.range_succ, List.map_append]; rfl
          have HNX := Lib.hid hnx
          have HIL := Lib.hid hids
          obtain ⟨V, cl, hbx, hV⟩ := S.out.bx
          have HMO := Lib.hid (fun (W1 W' : World) (v' : Value) (h1 : Below wr.heap.size wr W1) ho hgr => S.out.more (W' := W') (v' := v') (id := (Sp.atP l n : Int) + (q : Int)) hbx hV h1 ho hgr)
          rw [hids] at hbx hV
          have c1 : wr.cell? ⟨b8, 1, none⟩ = some (.slice V q cl) := hbx.cell 1
          have HBX := Lib.hid hbx
          have HV := Lib.hid hV
          have hsz := S.out.hb.size
          have hwq : IntKind.i64.wrap ((Sp.atP l n : Int) + (q : Int) + 1) = (Sp.atP l n : Int) + ((q + 1 : Nat) : Int) := by rw [IntKind.wrap_i64]; omega
          clear hnx hids hbx hV
          generalize ((List.range q).map fun k : Nat => (Sp.atP l n : Int) + (k : Int)) = ids at *
          have hal := (Below.refl wr.heap.size wr).alloc (Nat.le_refl _) (.cells #[.int .i64 ((Sp.atP l n : Int) + (q : Int))] IntT)
          have HAL := Lib.hid hal
          go_wp2_with (at_builtin; refine wpList_append_own _ rfl _ _ 26 rfl W0.heap.size IntT i2 _ 1 8 Tryz.underlying26 hi2 hy0 hy1 hy2 rfl (by decide) (.slice V q cl) q (ids.map iv) rfl (own_chg2 (S := NoM) HV.out (Chg.of_below HAL.out) (fun _ _ h => h)) ⟨wr.heap.size, 0, none⟩ 1 1 [iv ((Sp.atP l n : Int) + (q : Int))] rfl rfl (cell_one_new _ _ _) (fun u hu => by rw [List.mem_singleton.1 hu]; rfl) ?c3 ?c4 ?c5 ?_)
          case c3 => simp only [maxLen]; omega
          case c4 => omega
          case c5 => rw [World.size_alloc]; omega
          intro v6 w6 ho6 hgr6 _
          obtain ⟨V7, c7, hv7, ⟨hc7, hf7, hl7⟩, hp7⟩ := HMO.out _ w6 v6 HAL.out (by rw [HIL.out]; exact ho6) (by rw [HIL.out]; exact hgr6)
          rw [HIL.out] at hv7 hc7 hp7
          subst hv7
          have P7 := Lib.hid hp7
          clear hp7 ho6 hgr6 HMO hal
          go_wp2_with fail
          go_roundw
          case rel => exact ⟨q + 1, by omega, by go_num, rfl, by rw [HNX.out]; exact P7.out⟩
          case measure => simp [intOf]; omega
        · have hqe : q = c + 1 := by omega
          subst hqe
          obtain ⟨V, cl, hbx, hV⟩ := S.out.bx
          rw [← HC.out] at hbx hV
          have hpf := HPF.out
          have hbx2 : Blk wr b8 FreeT #[.int .u64 (Sp.partF l n).txn, .slice V (Sp.partF l n).ids.length cl] := by rw [hpf]; exact hbx
          have hV2 : wr.ownsRow W0.heap.size IntT 1 (.slice V (Sp.partF l n).ids.length cl) (Sp.partF l n).ids.length ((Sp.partF l n).ids.map iv) := by rw [hpf]; exact hV
          have hpb := Sp.part_ids l (n + 1) (Sp.partF l n) (by rw [Sp.partsL_succ]; simp)
          have hpt : 0 ≤ (Sp.partF l n).txn ∧ (Sp.partF l n).txn < 18446744073709551616 := ⟨by show (0 : Int) ≤ (n : Int); omega, by show (n : Int) < _; omega⟩
          have HNP := Lib.hid (Sp.partsL_succ l n)
          have hln := Sp.partsL_len l n
          have F2 := Lib.hid (F.out.go S.out.hb)
          have hatx : (Sp.atP l n : Int) + ((c + 1 : Nat) : Int) = (Sp.atP l (n + 1) : Int) := by rw [HAS.out, HC.out]; omega
          rw [hatx]
          have HBw := Lib.hid (HB.out.trans (S.out.hb.mono hzw))
          clear hbx hV hpf S hatx F HPF
          generalize Sp.partF l n = pf at *
          generalize Sp.partsL l n = pl at *
          have hal := (Below.refl wr.heap.size wr).alloc (Nat.le_refl _) (.cells (freeV pf V cl).toArray FreeT)
          obtain ⟨xs, h1, h2⟩ := (F2.out.go hal).ex
          have H1 := Lib.hid h1
          have H2 := Lib.hid h2
          have HBX := Lib.hid hbx2
          have HOV := Lib.hid (own_base (base' := w.heap.size) (own_chg2 (S := NoM) hV2 (Chg.of_below hal) (fun _ _ h => h)) hzw)
          have HCE := Lib.hid (cells_free (x := pf) (V := V) (c := cl) wr)
          have hz3 : w.heap.size ≤ (wr.alloc (.cells (freeV pf V cl).toArray FreeT)).heap.size := by have := HBw.out.size; rw [World.size_alloc]; omega
          have HAL := Lib.hid hal
          clear h1 h2 hbx2 hV2 hal
          go_wp2_with (first
            | (refine wpList_row FreeT _ rfl b8 rfl rfl FreeT _ (0, 0) _ HBX.out Tryz.underlying28 rfl (by kernel_rfl) ?_)
            | (at_builtin; refine wpList_append_own _ rfl _ _ 24 rfl w.heap.size FreeT i0 _ 2 32 Tryz.underlying24 hi0 hz0 hz1 hz2 rfl (by decide) _ pl.length xs rfl H1.out ⟨wr.heap.size, 0, none⟩ 1 1 (freeV pf V cl) rfl rfl HCE.out (freeV_ones pf V cl) ?c3 ?c4 hz3 ?_))
          case c3 => simp only [maxLen]; omega
          case c4 => omega
          intro v6 w6 ho6 hgr6 _
          obtain ⟨hf6, hk6⟩ := FrsO.more H1.out H2.out hz3 HOV.out ⟨hpb.2, hpt⟩ (by rw [hln]; exact ho6) hgr6
          have hb6 : Below w.heap.size w w6 := (HBw.out.trans (HAL.out.mono HBw.out.size)).trans (hk6.below hz3 fun k _ e => by have := (H1.out.lt k e).1; omega)
          have F6 := Lib.hid hf6
          have B6 := Lib.hid hb6
          clear ho6 hgr6 hf6 hk6 hb6
          go_wp2_with fail
          go_roundw
          case rel => exact ⟨n + 1, by omega, by go_num, rfl, by rw [HNP.out]; exact F6.out, B6.out⟩
          case measure => simp [intOf]; omega
    · have hnn : n = l.length := by omega
      subst hnn
      obtain ⟨Au, cu, hu⟩ := F.out.form
      subst hu
      have hln := Sp.partsL_len l l.length
      have hpi := Sp.part_ids l l.length
      have htt := Sp.parts_total l l.length (Nat.le_refl _)
      have hat2 := (Sp.parts_ids l l.length (Nat.le_refl _)).1
      obtain ⟨o, ho⟩ : ∃ o, o = o0 % 25 := ⟨_, rfl⟩
      have hob : 0 ≤ o ∧ o < 25 := by omega
      have how : IntKind.u64.wrap o = o := by simp [IntKind.wrap, IntKind.bits, IntKind.signed]; omega
      obtain ⟨hup, hul⟩ := Sp.parts_use l l.length (Nat.le_refl _) o
      have htp := Sp.total_part (fun f : Sp.Free => decide (f.txn < o)) (Sp.partsL l l.length)
      rw [← hul] at htp
      clear hul
      have HFR := Lib.hid (F.out.frees (M := fun k => k < w.heap.size) (fun k hk h => by omega) (by omega))
      rw [hln]
      have HPI := Lib.hid hpi
      have htb : Sp.total (Sp.partsL l l.length) ≤ 8000 := by omega
      generalize Sp.partsL l l.length = pl at *
      generalize Sp.atP l l.length = at_ at *
      have HRS := Lib.hid (show ∀ f ∈ pl.filter fun f => !decide (f.txn < o), (1 ≤ f.ids.length ∧ f.ids.length ≤ 1000) ∧ ¬ f.txn < o from fun f hf => by
        have h := List.mem_filter.1 hf
        exact ⟨hpi f h.1, by simpa using h.2⟩)
      have hrl : (pl.filter fun f => !decide (f.txn < o)).length ≤ 20 := Nat.le_trans (List.length_filter_le _ _) (by omega)
      have hpl20 : pl.length ≤ 20 := by omega
      have HUS := Lib.hid (fun (W : World) (h : Frees W (fun k => k < w.heap.size) Au pl) => usable_any pl Au cu o W h (by omega) hpi htb ⟨hob.1, by omega⟩)
      have HRE := Lib.hid (fun (W : World) (h : Frees W (fun k => k < w.heap.size) Au pl) => frest_any pl Au cu o W h (by omega) hpi ⟨hob.1, by omega⟩)
      have HCO := Lib.hid (fun (W : World) (h : Frees W (fun k => k < w.heap.size) Au pl) => fcount_any pl Au cu W h (by omega) (fun f hf => (hpi f hf).2))
      rw [hln] at HUS HRE HCO
      clear hpi
      generalize Sp.usableI pl o = us at *
      generalize (pl.filter fun f => !decide (f.txn < o)) = rs at *
      have HO := Lib.hid (show o0 % 25 = o from ho.symm)
      have hoo := HO.out
      clear ho
      go_upto_region 19 with (first
        | (go_at_call 23; refine (HUS.out _ HFR.out).mono ?_; rintro e w2 ⟨ru, rfl, ho2, hb2⟩; obtain ⟨A2, c2, rfl⟩ := own_slice ho2; have HU2 := Lib.hid (own_intsB (M := NoM) ho2 rfl (by omega) (fun _ _ h => h)); have HB2 := Lib.hid hb2; clear ho2 hb2)
        | (go_at_call 24; refine (HRE.out _ (HFR.out.go HB2.out)).mono ?_; rintro e w3 ⟨rr, rfl, hf3, hb3⟩; obtain ⟨A3, c3, rfl⟩ := hf3.form; have HF3 := Lib.hid hf3; have HB3 := Lib.hid hb3; clear hf3 hb3))
      have HU3 := Lib.hid (HU2.out.go HB3.out)
      have HFR3 := Lib.hid (HFR.out.go (HB2.out.trans (HB3.out.mono HB2.out.size)))
      have HBW := Lib.hid (HB.out.trans ((HB2.out.trans (HB3.out.mono HB2.out.size)).mono HB.out.size))
      have hz2 : w.heap.size ≤ w2.heap.size := Nat.le_trans HB.out.size HB2.out.size
      clear hoo HU2 HFR HB2 HB3 HB F HUS HRE
      have hz3 : w.heap.size ≤ w3.heap.size := HBW.out.size
      go_loopw [12] (fun i wr => ∃ k : Nat, k ≤ rs.length ∧ i = .int .i64 k ∧ Below w3.heap.size w3 wr) (fun i _ => rs.length - (intOf i).toNat)
      case atStart => exact ⟨0, Nat.zero_le _, rfl, Below.refl _ _⟩
      case round =>
        obtain ⟨k, hk, rfl, hb⟩ := hrel
        have HBB := Lib.hid hb
        clear hb
        by_cases hkr : k < rs.length
        · obtain ⟨g, c, V, c2, hA, hg, _, hcell⟩ := (HF3.out.go HBB.out).at_ hkr
          injection hA with hA _ hc
          subst hA; subst hc
          have hx := (HRS.out (rs.getD k Sp.free0) (by rw [show rs.getD k Sp.free0 = rs[k] by simp [List.getD, hkr]]; exact List.getElem_mem hkr)).2
          have cx : wr.cell? ⟨g, k * 2, none⟩ = some (.int .u64 (rs.getD k Sp.free0).txn) := hcell 0 _ rfl
          have hoo := HO.out
          clear hcell
          generalize (rs.getD k Sp.free0).txn = tx at *
          go_wp2_with fail
          go_roundw
          case rel => exact ⟨k + 1, by omega, by go_num, HBB.out⟩
          case measure => simp [intOf]; omega
        · have HCR := Lib.hid (fcount_any rs A3 c3 wr ((HF3.out.go HBB.out).frees (M := fun k => k < w.heap.size) (fun k hk h => by omega) (by omega)) (by omega) (fun f hf => ((HRS.out f hf).1).2))
          have HCL := Lib.hid (fun (W : World) (hb : Below wr.heap.size wr W) => HCO.out W (HFR3.out.go (HBB.out.trans (hb.mono HBB.out.size))))
          have HIR := Lib.hid (fun (W : World) (hb : Below wr.heap.size wr W) => dIsRow_up us A2 c2 W (HU3.out.go (HBB.out.trans (hb.mono HBB.out.size))) hup (by omega))
          have hsum : (us.length : Int) + (Sp.total rs : Int) = (Sp.total pl : Int) := by omega
          have hat3 : (at_ : Int) - 2 = (Sp.total pl : Int) := by omega
          have hw1 : IntKind.i64.wrap ((us.length : Int) + (Sp.total rs : Int)) = (Sp.total pl : Int) := by rw [IntKind.wrap_i64]; omega
          have hw2 : IntKind.i64.wrap ((at_ : Int) - 2) = (Sp.total pl : Int) := by rw [IntKind.wrap_i64]; omega
          go_wp2_with (first
            | (go_at_call_of 16 (Value.slice A3 rs.length c3); refine HCR.out.mono ?_; rintro e w4 ⟨rfl, hb4⟩; have HB4 := Lib.hid hb4; clear hb4)
            | (go_at_call 16; refine (HCL.out _ HB4.out).mono ?_; rintro e w5 ⟨rfl, hb5⟩; have HB5 := Lib.hid (HB4.out.trans (hb5.mono HB4.out.size)); clear hb5 HB4)
            | (go_at_call 16; refine (HCL.out _ HB5.out).mono ?_; rintro e w6 ⟨rfl, hb6⟩; have HB6 := Lib.hid (HB5.out.trans (hb6.mono HB5.out.size)); clear hb6 HB5)
            | (go_at_call 25; refine (HIR.out _ HB6.out).mono ?_; rintro e w7 ⟨rfl, hb7⟩; have HB7 := Lib.hid (HB6.out.trans (hb7.mono HB6.out.size)); clear hb7))
          go_ret
          exact ⟨by simp, HBW.out.trans ((HBB.out.trans (HB7.out.mono HBB.out.size)).mono hz3)⟩
end Go.Proofs.YtkcfmjlcijhieaaGreat
namespace Go.Proofs.YtkcfmjlcijhieaaGreat
open Go.RowKit
attribute [local go_sem low] mk_extract
attribute [local go_sem] After.cell After.frozen mk_extract_end ByteArray.mk_append_mk
set_option maxRecDepth 100000 in
set_option maxHeartbeats 1600000 in
theorem flat_any (l : List Sp.Free) (A : Option Addr) (cA : Nat) {M : Nat → Prop} (w : World) (h0 : Frees w M A l) (hn : l.length ≤ 1000) (hl : ∀ f ∈ l, 1 ≤ f.ids.length ∧ f.ids.length ≤ 1000) (ht : Sp.total l ≤ 8000) :
    Calls Tryz.prog 22 #[.slice A l.length cA] w fun e w' => ∃ u, e = .returned u ∧ w'.ownsRow w.heap.size IntT 1 u (l.flatMap (·.ids)).length ((l.flatMap (·.ids)).map iv) ∧ Below w.heap.size w w' := by
  have H := Lib.hid h0
  have HL := Lib.hid hl
  obtain ⟨i2, hi2, hy0, hy1, hy2⟩ := info_parts info_int
  clear h0 hl
  go_enter Tryz.func22, Tryz.ntmps22
  go_upto_region 3 with fail
  go_loopw [3, 4] (fun u i wr => ∃ j : Nat, j ≤ l.length ∧ i = .int .i64 j ∧ wr.ownsRow w.heap.size IntT 1 u ((l.take j).flatMap (·.ids)).length (((l.take j).flatMap (·.ids)).map iv) ∧ Below w.heap.size w wr) (fun _ i _ => l.length - (intOf i).toNat)
  case atStart => exact ⟨0, Nat.zero_le _, rfl, own_nil0 _ _ _ _, Below.refl _ _⟩
  case round =>
    obtain ⟨j, hj, rfl, ho, hb⟩ := hrel
    have HO := Lib.hid ho
    have HB := Lib.hid hb
    clear ho hb
    by_cases hjl : j < l.length
    · obtain ⟨fb, fo, rfl, hfb, hfc⟩ := H.out.at_ hjl
      obtain ⟨V, c, ⟨hc0, hc1⟩, hids, htx0, htx1⟩ := hfc j hjl
      have hx := HL.out (l.getD j Sp.free0) (by rw [show l.getD j Sp.free0 = l[j] by simp [List.getD, hjl]]; exact List.getElem_mem hjl)
      obtain ⟨ib, io, rfl, hib, _⟩ := hids.at_ (k := 0) (by omega)
      have hcc := (HB.out.cell (p := ⟨fb, fo + j * 2 + 1, none⟩) hfb).trans hc1
      have HNX := Lib.hid (show (l.take (j + 1)).flatMap (·.ids) = (l.take j).flatMap (·.ids) ++ (l.getD j Sp.free0).ids from by
        rw [List.take_succ_eq_append_getElem hjl, List.flatMap_append]
        simp [List.getD, hjl])
      have hfl := Sp.flat_len (l.take j)
      have htl := Sp.total_take_le (l := l) j
      have HIC := Lib.hid (show ∀ q u, ((l.getD j Sp.free0).ids.map iv)[q]? = some u → wr.cell? ((⟨ib, io, none⟩ : Addr).add q) = some u from fun q u hq => by
        have h := Row.open_ (hids.go HB.out) (by rw [List.length_map]; omega)
        obtain ⟨b', o', e, _, _, hcx⟩ := h
        injection e with e
        injection e with e1 e2
        subst e1; subst e2
        rw [Go.WideShapes.add_plain]
        exact hcx q u hq)
      have hLb : ((l.take j).flatMap (·.ids)).length ≤ 8000 := by rw [hfl]; omega
      clear hfc hc0 hc1 hids hfl htl
      generalize (l.take j).flatMap (·.ids) = L at *
      generalize l.getD j Sp.free0 = x at *
      go_wp2_with (at_builtin; refine wpList_append_own _ rfl _ _ 26 rfl w.heap.size IntT i2 _ 1 8 Tryz.underlying26 hi2 hy0 hy1 hy2 rfl (by decide) _ L.length (L.map iv) rfl HO.out ⟨ib, io, none⟩ x.ids.length c (x.ids.map iv) rfl ?c2 HIC.out (iv_one _) ?c3 ?c4 ?c5 ?_)
      case c2 => simp
      case c3 => simp only [maxLen]; omega
      case c4 => omega
      case c5 => exact HB.out.size
      intro v6 w6 ho6 hgr6 _
      have hb6 := HB.out.trans (grown_own0 HO.out HB.out.size hgr6)
      have B6 := Lib.hid hb6
      have O6 := Lib.hid (show w6.ownsRow w.heap.size IntT 1 v6 (L ++ x.ids).length ((L ++ x.ids).map iv) from by rw [List.length_append, List.map_append]; exact ho6)
      clear ho6 hgr6 hb6
      go_wp2_with fail
      go_roundw
      case rel => exact ⟨j + 1, by omega, by go_num, by rw [HNX.out]; exact O6.out, B6.out⟩
      case measure => simp [intOf]; omega
    · obtain rfl : j = l.length := by omega
      rw [List.take_length] at HO
      go_wp2_with fail
      go_ret
      exact ⟨u3, rfl, by simpa using HO.out, HB.out⟩
end Go.Proofs.YtkcfmjlcijhieaaGreat
