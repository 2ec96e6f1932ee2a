/- A list that is packed, and read again: the law's walk. FreeBack: whatever the input: true; the input reads as it did. -/
import Derived.Test.YtkcfmjlcijhieaaGreatQB00
import Derived.Test.YtkcfmjlcijhieaaGreatQPFBack10
import Derived.SizedLaws
set_option linter.unusedSimpArgs false
set_option linter.unusedVariables false
namespace Go.Proofs.YtkcfmjlcijhieaaGreat
open Go.RowKit
attribute [local go_sem low] mk_extract
attribute [local go_sem] After.cell After.frozen mk_extract_end ByteArray.mk_append_mk
set_option maxRecDepth 100000 in
set_option maxHeartbeats 1600000 in
theorem fback_walk (tx l : List Nat) (A1 A : Option Addr) (c1 cA : Nat) (w : World) (hU1 : U8s w A1 tx) (hU2 : U8s w A l) (hlb1 : ∀ k ∈ tx, k < 256) (hlb2 : ∀ k ∈ l, k < 256) :
    Calls Tryz.prog 3 #[.slice A1 tx.length c1, .slice A l.length cA] w fun e w' => e = .returned (.bool true) ∧ Below w.heap.size w w' := by
  have HKN := Lib.hid (known18_any w)
  have hlen1 : tx.length ≤ 9223372036854775807 := by have := hU1.1; simpa using this
  by_cases hl12 : 12 < l.length
  · have hlen : l.length ≤ 9223372036854775807 := by have := hU2.1; simpa using this
    go_enter Tryz.func3, Tryz.ntmps3
    go_wp2_with (go_at_call 15; refine HKN.out.mono ?_; rintro e w1 ⟨rfl, hb1⟩; have HB1 := Lib.hid hb1; clear hb1)
    go_ret
    exact ⟨by simp, HB1.out⟩
  obtain ⟨i0, hi0, hz0, hz1, hz2⟩ := info_parts info_free2
  obtain ⟨i2, hi2, hy0, hy1, hy2⟩ := info_parts info_int
  go_enter Tryz.func3, Tryz.ntmps3
  go_upto_region 8 with (go_at_call 15; refine HKN.out.mono ?_; rintro e w1 ⟨rfl, hb1⟩; have HB1 := Lib.hid hb1; clear hb1)
  clear HKN
  go_loopw [5, 6, 7, 8] (fun u at_ t i wr => ∃ n : Nat, n ≤ l.length ∧ i = .int .i64 n ∧ at_ = .int .i64 (Sp.aB l n) ∧ t = .int .u64 (Sp.tB tx n) ∧ FrsO wr w.heap.size u (Sp.backL tx l n) ∧ Below w.heap.size w wr) (fun _ _ _ i _ => l.length - (intOf i).toNat)
  case atStart => exact ⟨0, Nat.zero_le _, rfl, rfl, rfl, FrsO.nil, HB1.out⟩
  case round =>
    obtain ⟨n, hn, rfl, rfl, rfl, hf, hb⟩ := hrel
    have F := Lib.hid hf
    have HB := Lib.hid hb
    have hat := Sp.aB_le l n
    have htt := Sp.tB_le tx n
    clear hf hb HB1
    by_cases hnl : n < l.length
    · go_upto_region 11 with (refine wpList_new FreeT _ _ rfl rfl rfl rfl rfl rfl _ rfl (of_decide_eq_true (by kernel_rfl)) (by kernel_rfl) (by kernel_rfl) (by kernel_rfl) ?_)
      obtain ⟨W0, rfl⟩ : ∃ W, W = wr := ⟨_, rfl⟩
      have hzw := HB.out.size
      have P0 := Lib.hid (PxS.start (w := w) (Sp.tB tx n : Int) hzw)
      refine wp_gen (fun W => PxS w W0 W0.heap.size (Sp.tB tx n : Int) [] W) P0.out ?_
      clear P0
      obtain ⟨b8, hb8⟩ : ∃ b, b = W0.heap.size := ⟨_, rfl⟩
      rw [← hb8]
      have HB8 := Lib.hid (show b8 = W0.heap.size from hb8)
      clear hb8
      intro W1 hp
      have P1 := Lib.hid hp
      clear hp
      go_upto_region 12 with fail
      obtain ⟨ab, ao, rfl, hab, hac⟩ := hU2.at_ hnl
      have hcx := hac n hnl
      have HCX := Lib.hid hcx
      have hx : l.getD n 0 < 256 := hlb2 _ (by rw [List.getD_eq_getElem?_getD, List.getElem?_eq_getElem hnl]; exact List.getElem_mem hnl)
      have hpf : Sp.backF tx l n = ⟨(Sp.tB tx n : Int), (List.range (l.getD n 0 % 30 + 1)).map fun k : Nat => (Sp.aB l n : Int) + (k : Int)⟩ := rfl
      have has := Sp.aB_succ hnl
      have HPF := Lib.hid hpf
      have HAS := Lib.hid has
      clear hpf has hcx
      generalize l.getD n 0 = x at *
      obtain ⟨c, hc⟩ : ∃ c, c = x % 30 := ⟨_, rfl⟩
      have hxc : (x : Int) % 30 = (c : Int) := by omega
      have hc5 : c < 30 := by omega
      have HC := Lib.hid (show x % 30 = c from hc.symm)
      have HXC := Lib.hid hxc
      clear hc hxc
      go_loopw [6, 10] (fun at_ i wr => ∃ q : Nat, q ≤ c + 1 ∧ i = .int .i64 q ∧ at_ = .int .i64 ((Sp.aB l n : Int) + q) ∧ PxS w W0 b8 (Sp.tB tx n : Int) ((List.range q).map fun k : Nat => (Sp.aB l n : Int) + (k : Int)) wr) (fun _ i _ => c + 1 - (intOf i).toNat)
      case atStart => exact ⟨0, Nat.zero_le _, rfl, by simp, P1.out⟩
      case round =>
        obtain ⟨q, hq, rfl, rfl, hs⟩ := hrel
        have S := Lib.hid hs
        clear hs P1
        have hcell := ((HB.out.trans (S.out.hb.mono hzw)).cell (p := ⟨ab, ao + n, none⟩) hab).trans HCX.out
        have hxc := HXC.out
        have hwc : IntKind.i64.wrap ((c : Int) + 1) = (c : Int) + 1 := by rw [IntKind.wrap_i64]; omega
        by_cases hqc : q ≤ c
        · have hids : ((List.range q).map fun k : Nat => (Sp.aB l n : Int) + (k : Int)).length = q := by simp
          have hnx : (List.range (q + 1)).map (fun k : Nat => (Sp.aB l n : Int) + (k : Int)) = ((List.range q).map fun k : Nat => (Sp.aB l n : Int) + (k : Int)) ++ [(Sp.aB l n : Int) + (q : Int)] := by rw [List.range_succ, List.map_append]; rfl
          have HNX := Lib.hid hnx
          have HIL := Lib.hid hids
          obtain ⟨V, cl, hbx, hV⟩ := S.out.bx
          have HMO := Lib.hid (fun (W1 W' : World) (v' : Value) (h1 : Below wr.heap.size wr W1) ho hgr => S.out.more (W' := W') (v' := v') (id := (Sp.aB l n : Int) + (q : Int)) hbx hV h1 ho hgr)
          rw [hids] at hbx hV
          have c1 : wr.cell? ⟨b8, 1, none⟩ = some (.slice V q cl) := hbx.cell 1
          have HBX := Lib.hid hbx
          have HV := Lib.hid hV
          have hsz := S.out.hb.size
          have hwq : IntKind.i64.wrap ((Sp.aB l n : Int) + (q : Int) + 1) = (Sp.aB l n : Int) + ((q + 1 : Nat) : Int) := by rw [IntKind.wrap_i64]; omega
          have h400 : (Sp.aB l n : Int) + (q : Int) < 400 := by omega
          have hqc1 : (q : Int) < (c : Int) + 1 := by omega
          clear hnx hids hbx hV
          generalize ((List.range q).map fun k : Nat => (Sp.aB l n : Int) + (k : Int)) = ids at *
          have hal := (Below.refl wr.heap.size wr).alloc (Nat.le_refl _) (.cells #[.int .i64 ((Sp.aB l n : Int) + (q : Int))] IntT)
          have HAL := Lib.hid hal
          go_wp2_with (at_builtin; refine wpList_append_own _ rfl _ _ 26 rfl W0.heap.size IntT i2 _ 1 8 Tryz.underlying26 hi2 hy0 hy1 hy2 rfl (by decide) (.slice V q cl) q (ids.map iv) rfl (own_chg2 (S := NoM) HV.out (Chg.of_below HAL.out) (fun _ _ h => h)) ⟨wr.heap.size, 0, none⟩ 1 1 [iv ((Sp.aB l n : Int) + (q : Int))] rfl rfl (cell_one_new _ _ _) (fun u hu => by rw [List.mem_singleton.1 hu]; rfl) ?c3 ?c4 ?c5 ?_)
          case c3 => simp only [maxLen]; omega
          case c4 => omega
          case c5 => rw [World.size_alloc]; omega
          intro v6 w6 ho6 hgr6 _
          obtain ⟨V7, c7, hv7, ⟨hc7, hf7, hl7⟩, hp7⟩ := HMO.out _ w6 v6 HAL.out (by rw [HIL.out]; exact ho6) (by rw [HIL.out]; exact hgr6)
          rw [HIL.out] at hv7 hc7 hp7
          subst hv7
          have P7 := Lib.hid hp7
          clear hp7 ho6 hgr6 HMO hal
          go_wp2_with fail
          go_roundw
          case rel => exact ⟨q + 1, by omega, by go_num, rfl, by rw [HNX.out]; exact P7.out⟩
          case measure => simp [intOf]; omega
        · have hqe : q = c + 1 := by omega
          subst hqe
          obtain ⟨V, cl, hbx, hV⟩ := S.out.bx
          rw [← HC.out] at hbx hV
          have hpf := HPF.out
          have hbx2 : Blk wr b8 FreeT #[.int .u64 (Sp.backF tx l n).txn, .slice V (Sp.backF tx l n).ids.length cl] := by rw [hpf]; exact hbx
          have hV2 : wr.ownsRow W0.heap.size IntT 1 (.slice V (Sp.backF tx l n).ids.length cl) (Sp.backF tx l n).ids.length ((Sp.backF tx l n).ids.map iv) := by rw [hpf]; exact hV
          have hpb := Sp.back_ids tx l (n + 1) (Sp.backF tx l n) (by rw [Sp.backL_succ]; simp)
          have hpt : 0 ≤ (Sp.backF tx l n).txn ∧ (Sp.backF tx l n).txn < 18446744073709551616 := ⟨by show (0 : Int) ≤ (Sp.tB tx n : Int); omega, by show (Sp.tB tx n : Int) < _; omega⟩
          have HNP := Lib.hid (Sp.backL_succ tx l n)
          have hln := Sp.backL_len tx l n
          have F2 := Lib.hid (F.out.go S.out.hb)
          have hatx : (Sp.aB l n : Int) + ((c + 1 : Nat) : Int) = (Sp.aB l (n + 1) : Int) := by rw [HAS.out, HC.out]; omega
          rw [hatx]
          have HBw := Lib.hid (HB.out.trans (S.out.hb.mono hzw))
          clear hbx hV hpf S hatx F HPF
          generalize Sp.backF tx l n = pf at *
          generalize Sp.backL tx l n = pl at *
          have hal := (Below.refl wr.heap.size wr).alloc (Nat.le_refl _) (.cells (freeV pf V cl).toArray FreeT)
          obtain ⟨xs, h1, h2⟩ := (F2.out.go hal).ex
          have H1 := Lib.hid h1
          have H2 := Lib.hid h2
          have HBX := Lib.hid hbx2
          have c8 : wr.cell? ⟨b8, 1, none⟩ = some (.slice V pf.ids.length cl) := hbx2.cell 1
          have hpos : (0 : Int) < (pf.ids.length : Int) := by omega
          have HOV := Lib.hid (own_base (base' := w.heap.size) (own_chg2 (S := NoM) hV2 (Chg.of_below hal) (fun _ _ h => h)) hzw)
          have HCE := Lib.hid (cells_free (x := pf) (V := V) (c := cl) wr)
          have hz3 : w.heap.size ≤ (wr.alloc (.cells (freeV pf V cl).toArray FreeT)).heap.size := by have := HBw.out.size; rw [World.size_alloc]; omega
          have HAL := Lib.hid hal
          clear h1 h2 hbx2 hV2 hal
          go_wp2_with (first
            | (refine wpList_row FreeT _ rfl b8 rfl rfl FreeT _ (0, 0) _ HBX.out Tryz.underlying28 rfl (by kernel_rfl) ?_)
            | (at_builtin; refine wpList_append_own _ rfl _ _ 24 rfl w.heap.size FreeT i0 _ 2 32 Tryz.underlying24 hi0 hz0 hz1 hz2 rfl (by decide) _ pl.length xs rfl H1.out ⟨wr.heap.size, 0, none⟩ 1 1 (freeV pf V cl) rfl rfl HCE.out (freeV_ones pf V cl) ?c3 ?c4 hz3 ?_))
          case c3 => simp only [maxLen]; omega
          case c4 => omega
          intro v6 w6 ho6 hgr6 _
          obtain ⟨hf6, hk6⟩ := FrsO.more H1.out H2.out hz3 HOV.out ⟨hpb.2, hpt⟩ (by rw [hln]; exact ho6) hgr6
          have hb6 : Below w.heap.size w w6 := (HBw.out.trans (HAL.out.mono HBw.out.size)).trans (hk6.below hz3 fun k _ e => by have := (H1.out.lt k e).1; omega)
          have F6 := Lib.hid (show FrsO w6 w.heap.size v6 (Sp.backL tx l (n + 1)) from by rw [HNP.out]; exact hf6)
          have B6 := Lib.hid hb6
          clear ho6 hgr6 hf6 hk6 hb6
          have HTB := Lib.hid (Sp.tB_succ tx n)
          by_cases hnt : n < tx.length
          · obtain ⟨tb, tf, rfl, htb, htc⟩ := hU1.at_ hnt
            have hct := (B6.out.cell (p := ⟨tb, tf + n, none⟩) htb).trans (htc n hnt)
            have hy : tx.getD n 0 < 256 := hlb1 _ (by rw [List.getD_eq_getElem?_getD, List.getElem?_eq_getElem hnt]; exact List.getElem_mem hnt)
            have HTN := Lib.hid (show Sp.tB tx (n + 1) = Sp.tB tx n + tx.getD n 0 % 3 from by rw [HTB.out, if_pos hnt])
            generalize tx.getD n 0 = y at *
            have hwy : IntKind.u64.wrap ((y : Int) % 3) = (y : Int) % 3 := by simp [IntKind.wrap, IntKind.bits, IntKind.signed]; omega
            have hwt : IntKind.u64.wrap ((Sp.tB tx n : Int) + (y : Int) % 3) = (Sp.tB tx (n + 1) : Int) := by rw [HTN.out]; simp [IntKind.wrap, IntKind.bits, IntKind.signed]; omega
            clear htc
            go_wp2_with fail
            go_roundw
            case rel => exact ⟨n + 1, by omega, by go_num, rfl, rfl, F6.out, B6.out⟩
            case measure => simp [intOf]; omega
          · have HTN := Lib.hid (show Sp.tB tx (n + 1) = Sp.tB tx n from by rw [HTB.out, if_neg hnt]; rfl)
            go_wp2_with fail
            go_roundw
            case rel => exact ⟨n + 1, by omega, by go_num, rfl, by rw [HTN.out], F6.out, B6.out⟩
            case measure => simp [intOf]; omega
    · have hnn : n = l.length := by omega
      subst hnn
      obtain ⟨Au, cu, hu⟩ := F.out.form
      subst hu
      have hln := Sp.backL_len tx l l.length
      have hpi := Sp.back_ids tx l l.length
      obtain ⟨hgd, _, htot⟩ := Sp.back_good tx l l.length (Nat.le_refl _) (by omega)
      have HGD := Lib.hid hgd
      have HFR := Lib.hid (F.out.frees (M := fun k => k < w.heap.size) (fun k hk h => by omega) (by omega))
      rw [hln]
      have hL12 : (Sp.backL tx l l.length).length ≤ 12 := by omega
      have HPI := Lib.hid hpi
      have hT : Sp.total (Sp.backL tx l l.length) ≤ 360 := by omega
      clear hgd htot htt hat F
      generalize Sp.backL tx l l.length = L at *
      have HCO := Lib.hid (fun (W : World) (h : Frees W (fun k => k < w.heap.size) Au L) => fcount_any L Au cu W h (by omega) (fun f hf => (hpi f hf).2))
      obtain ⟨k, hk⟩ : ∃ k, k = (Sp.total L + 19) / 20 := ⟨_, rfl⟩
      have hk18 : k ≤ 18 := by omega
      have hk20 : Sp.total L ≤ 20 * k := by omega
      have HK0 := Lib.hid (show k = 0 → Sp.total L = 0 from fun h => by omega)
      have HPK := Lib.hid (fun (W : World) (h : Frees W (fun k => k < w.heap.size) Au L) => fpack_any L Au cu k W h (by omega) (fun f hf => (hpi f hf).2) (by omega) (by omega))
      have hw1 : IntKind.i64.wrap ((Sp.total L : Int) + 20) = (Sp.total L : Int) + 20 := by rw [IntKind.wrap_i64]; omega
      have hw2 : IntKind.i64.wrap ((Sp.total L : Int) + 20 - 1) = ((Sp.total L + 19 : Nat) : Int) := by rw [IntKind.wrap_i64]; omega
      have hq : Int.tdiv ((Sp.total L + 19 : Nat) : Int) 20 = (k : Int) := by rw [hk, Int.tdiv_eq_ediv_of_nonneg (by omega)]; omega
      have hq2 : ((Sp.total L : Int) + 19) / 20 = (k : Int) := by rw [hk]; omega
      rw [hln] at HCO HPK
      clear hpi hk
      go_upto_region 21 with (go_at_call 16; refine (HCO.out _ HFR.out).mono ?_; rintro e w2 ⟨rfl, hb2⟩; have HB2 := Lib.hid hb2; clear hb2)
      rw [hq2]
      have HFR2 := Lib.hid (HFR.out.go HB2.out)
      have HBW2 := Lib.hid (HB.out.trans (HB2.out.mono HB.out.size))
      clear hq hq2 hw1 hw2 HFR HB HB2
      go_upto_region 24 with (go_at_call 17; refine (HPK.out _ HFR2.out).mono ?_; rintro e w3 ⟨br, rfl, hp3, hb3⟩; have HP3 := Lib.hid hp3; have HB3 := Lib.hid hb3; clear hp3 hb3)
      have HFR3 := Lib.hid (HFR2.out.go HB3.out)
      have HBW3 := Lib.hid (HBW2.out.trans (HB3.out.mono HBW2.out.size))
      have hO0 := World.ownsRow_lit (base := w3.heap.size) (e := StrT) (size := 1) w3 #[.string ⟨#[]⟩, .string ⟨#[]⟩] 2 (Nat.le_refl _) (by decide) rfl
      have HO0 := Lib.hid hO0
      have HAL := Lib.hid ((Below.refl w3.heap.size w3).alloc (Nat.le_refl _) (.cells #[.string ⟨#[]⟩, .string ⟨#[]⟩] StrT))
      obtain ⟨i3, hi3, hx0, hx1, hx2⟩ := info_parts info_str
      have hz2 : w.heap.size ≤ w2.heap.size := HBW2.out.size
      clear hO0 HFR2 HBW2 HB3 HPK
      go_upto_region 26 with fail
      go_loopw [13, 14] (fun u i wr => ∃ n : Nat, n ≤ k ∧ i = .int .i64 n ∧ wr.ownsRow w3.heap.size StrT 1 u (n + 2) ((Sp.backV (Sp.rowN L) k n).map tv) ∧ Below w3.heap.size w3 wr) (fun _ i _ => k - (intOf i).toNat)
      case atStart => exact ⟨0, Nat.zero_le _, rfl, HO0.out, HAL.out⟩
      case round =>
        obtain ⟨n, hn, rfl, ho, hb⟩ := hrel
        have HO := Lib.hid ho
        have HB := Lib.hid hb
        clear ho hb HO0 HAL
        by_cases hnk : n < k
        · obtain ⟨cs, hcs, _, hrr⟩ := HP3.out.bk
          obtain ⟨AR, cR, hq0, hfr0⟩ := hrr n hnk
          have hrc : wr.cell? ⟨br, n, none⟩ = some (.slice AR (Sp.rowN L n).length cR) := (HB.out.cell (p := ⟨br, n, none⟩) hcs.lt).trans ((hcs.cell n).trans hq0)
          have hfr : Frees wr (fun k => k < w.heap.size) AR (Sp.rowN L n) := (show FrsO w3 w2.heap.size (.slice AR (Sp.rowN L n).length cR) (Sp.rowN L n) from hfr0).go HB.out |>.frees (fun k hk h => by omega) (by have := Sp.row_len L n; omega)
          have hbrw : br < wr.heap.size := Nat.lt_of_lt_of_le hcs.lt HB.out.size
          have HFQ := Lib.hid hfr
          clear hcs hrr hq0 hfr0 hfr
          go_upto_region 29 with (refine wpList_new PageT _ _ rfl rfl rfl rfl rfl rfl _ rfl (of_decide_eq_true (by kernel_rfl)) (by kernel_rfl) (by kernel_rfl) (by kernel_rfl) ?_)
          simp only [Act.put, List.setIfInBounds_toArray, List.set_cons_succ, List.set_cons_zero]
          have hal := (Below.refl wr.heap.size wr).alloc (Nat.le_refl _) (.cells #[.int .i64 5, .slice none 0 0, .slice none 0 0, .slice none 0 0, .string ⟨#[]⟩, .slice none 0 0, .slice AR (Sp.rowN L n).length cR, .int .i64 0, .int .u64 0, .int .i64 0, .int .i64 0, .int .i64 0, .int .i64 0, .int .i64 0] PageT)
          refine wp_gen (fun W => (Below w3.heap.size w3 W ∧ W.ownsRow w3.heap.size StrT 1 u13 (n + 2) ((Sp.backV (Sp.rowN L) k n).map tv) ∧ Below wr.heap.size wr W) ∧ Blk W wr.heap.size PageT #[.int .i64 5, .slice none 0 0, .slice none 0 0, .slice none 0 0, .string ⟨#[]⟩, .slice none 0 0, .slice AR (Sp.rowN L n).length cR, .int .i64 0, .int .u64 0, .int .i64 0, .int .i64 0, .int .i64 0, .int .i64 0, .int .i64 0]) ⟨⟨HB.out.trans (hal.mono HB.out.size), own_chg2 (S := NoM) HO.out (Chg.of_below hal) (fun _ _ h => h), hal⟩, Blk.new _ _ _⟩ ?_
          have hz10 : w3.heap.size ≤ wr.heap.size := HB.out.size
          have hz3 : w.heap.size ≤ w3.heap.size := HBW3.out.size
          clear HO HB hal hrc hbrw
          obtain ⟨b10, hb10⟩ : ∃ b, b = wr.heap.size := ⟨_, rfl⟩
          rw [← hb10] at hz10 ⊢
          have HBE := Lib.hid (show b10 = wr.heap.size from hb10)
          clear hb10
          rintro w6 ⟨hs4, hb4⟩
          have S4 := Lib.hid hs4
          have HB4 := Lib.hid hb4
          have c7 : w6.cell? ⟨b10, 7, none⟩ = some (.int .i64 0) := HB4.out.cell 7
          have f7 := HB4.out.frozen 7
          have l7 := HB4.out.lt
          clear hs4 hb4
          have hwn : IntKind.i64.wrap ((n : Int) + 1) = (n : Int) + 1 := by rw [IntKind.wrap_i64]; omega
          have hw3 : IntKind.i64.wrap (3 + (n : Int)) = 3 + (n : Int) := by rw [IntKind.wrap_i64]; omega
          by_cases hnl : n + 1 < k
          · have hnli : (n : Int) + 1 < (k : Int) := by omega
            have HNX := Lib.hid (show Sp.nxB k n = 3 + (n : Int) from if_pos hnl)
            clear hnl
            go_upto_region 31 with fail
            have HS5 := Lib.hid (HB4.out.set_ 7 (.int .i64 (3 + (n : Int))))
            have hs7 := Chg.set1 w6 b10 7 (.int .i64 (3 + (n : Int)))
            refine wp_gen (fun W => (Below w3.heap.size w3 W ∧ W.ownsRow w3.heap.size StrT 1 u13 (n + 2) ((Sp.backV (Sp.rowN L) k n).map tv) ∧ Below b10 wr W) ∧ Blk W b10 PageT #[.int .i64 5, .slice none 0 0, .slice none 0 0, .slice none 0 0, .string ⟨#[]⟩, .slice none 0 0, .slice AR (Sp.rowN L n).length cR, .int .i64 (3 + (n : Int)), .int .u64 0, .int .i64 0, .int .i64 0, .int .i64 0, .int .i64 0, .int .i64 0]) ⟨⟨S4.out.1.trans (hs7.below S4.out.1.size fun j _ e => by have e : j = b10 := e; omega), own_chg2 S4.out.2.1 hs7 (fun j hj e => by
              have e : j = b10 := e
              subst e
              obtain ⟨ds, hd⟩ := own_ty S4.out.2.1 hj
              exact hd.not_ (by decide) _ HB4.out), S4.out.2.2.trans (hs7.below (Nat.le_of_lt l7) fun j _ e => by have e : j = b10 := e; omega)⟩, HS5.out⟩ ?_
            clear S4 HB4 HS5 hs7 c7 f7 l7
            obtain ⟨w3', hw3'⟩ : ∃ W, W = w6 := ⟨_, rfl⟩
            clear hw3'
            rintro w6 ⟨hs4, hb4⟩
            have S4 := Lib.hid hs4
            have HBX := Lib.hid (show Blk w6 b10 PageT #[.int .i64 5, .slice none 0 0, .slice none 0 0, .slice none 0 0, .string ⟨#[]⟩, .slice none 0 0, .slice AR (Sp.rowN L n).length cR, .int .i64 (Sp.nxB k n), .int .u64 0, .int .i64 0, .int .i64 0, .int .i64 0, .int .i64 0, .int .i64 0] from HNX.out ▸ hb4)
            clear hs4 hb4
            have HDB := Lib.hid (fun (W : World) (h : Frees W (fun k => k < w.heap.size) AR (Sp.rowN L n)) => dBytes_any (frPg (Sp.rowN L n) (Sp.nxB k n)) (frRef AR cR) W (frRd cR (Sp.nxB k n) h))
            have HSC := Lib.hid (Sp.backV_succ (Sp.rowN L) k n)
            go_wp2_with (first
              | (refine wpList_row PageT _ rfl b10 rfl rfl PageT _ (0, 0) _ HBX.out Tryz.underlying39 rfl (by kernel_rfl) ?_)
              | (go_at_call 18; refine (HDB.out _ (HFQ.out.go (HBE.out ▸ S4.out.2.2))).mono ?_; rintro e w7 ⟨rfl, hb7⟩; have HB7 := Lib.hid hb7; clear hb7; have HAL7 := Lib.hid ((Below.refl w7.heap.size w7).alloc (Nat.le_refl _) (.cells #[.string ⟨(Sp.bytes (frPg (Sp.rowN L n) (Sp.nxB k n))).toArray⟩] StrT)); have HOW := Lib.hid (own_chg2 (S := NoM) S4.out.2.1 (Chg.of_below (HB7.out.trans (HAL7.out.mono HB7.out.size))) (fun _ _ h => h)))
              | (at_builtin; refine wpList_append_own _ rfl _ _ 32 rfl w3.heap.size StrT i3 _ 1 16 Tryz.underlying32 hi3 hx0 hx1 hx2 rfl (by decide) _ (n + 2) _ rfl HOW.out ⟨w7.heap.size, 0, none⟩ 1 1 [tv (Sp.bytes (frPg (Sp.rowN L n) (Sp.nxB k n)))] rfl rfl (cell_one_new _ _ _) (fun u hu => by rw [List.mem_singleton.1 hu]; rfl) ?c3 ?c4 ?c5 ?_))
            case c3 => simp only [maxLen]; omega
            case c4 => omega
            case c5 => rw [World.size_alloc]; have := S4.out.1.size; have := HB7.out.size; omega
            intro v8 w8 ho8 hgr8 _
            have hz4 : w3.heap.size ≤ w6.heap.size := S4.out.1.size
            have hb8' : Below w3.heap.size w3 w8 := (S4.out.1.trans (HB7.out.mono hz4)).trans (HAL7.out.mono (Nat.le_trans hz4 HB7.out.size)) |>.trans (grown_own0 HOW.out (by rw [World.size_alloc]; have := HB7.out.size; omega) hgr8)
            have HB8 := Lib.hid hb8'
            have HO8 := Lib.hid (show w8.ownsRow w3.heap.size StrT 1 v8 (n + 1 + 2) ((Sp.backV (Sp.rowN L) k (n + 1)).map tv) from by rw [HSC.out, List.map_append]; exact ho8)
            clear ho8 hgr8 hb8' HOW HB7 HAL7 S4
            go_wp2_with fail
            go_roundw
            case rel => exact ⟨n + 1, by omega, by go_num, HO8.out, HB8.out⟩
            case measure => simp [intOf]; omega
          · have hnli : ¬ (n : Int) + 1 < (k : Int) := by omega
            have HNX := Lib.hid (show Sp.nxB k n = 0 from if_neg hnl)
            clear hnl
            go_upto_region 31 with fail
            have HBX := Lib.hid (show Blk w6 b10 PageT #[.int .i64 5, .slice none 0 0, .slice none 0 0, .slice none 0 0, .string ⟨#[]⟩, .slice none 0 0, .slice AR (Sp.rowN L n).length cR, .int .i64 (Sp.nxB k n), .int .u64 0, .int .i64 0, .int .i64 0, .int .i64 0, .int .i64 0, .int .i64 0] from HNX.out ▸ HB4.out)
            have HDB := Lib.hid (fun (W : World) (h : Frees W (fun k => k < w.heap.size) AR (Sp.rowN L n)) => dBytes_any (frPg (Sp.rowN L n) (Sp.nxB k n)) (frRef AR cR) W (frRd cR (Sp.nxB k n) h))
            have HSC := Lib.hid (Sp.backV_succ (Sp.rowN L) k n)
            go_wp2_with (first
              | (refine wpList_row PageT _ rfl b10 rfl rfl PageT _ (0, 0) _ HBX.out Tryz.underlying39 rfl (by kernel_rfl) ?_)
              | (go_at_call 18; refine (HDB.out _ (HFQ.out.go (HBE.out ▸ S4.out.2.2))).mono ?_; rintro e w7 ⟨rfl, hb7⟩; have HB7 := Lib.hid hb7; clear hb7; have HAL7 := Lib.hid ((Below.refl w7.heap.size w7).alloc (Nat.le_refl _) (.cells #[.string ⟨(Sp.bytes (frPg (Sp.rowN L n) (Sp.nxB k n))).toArray⟩] StrT)); have HOW := Lib.hid (own_chg2 (S := NoM) S4.out.2.1 (Chg.of_below (HB7.out.trans (HAL7.out.mono HB7.out.size))) (fun _ _ h => h)))
              | (at_builtin; refine wpList_append_own _ rfl _ _ 32 rfl w3.heap.size StrT i3 _ 1 16 Tryz.underlying32 hi3 hx0 hx1 hx2 rfl (by decide) _ (n + 2) _ rfl HOW.out ⟨w7.heap.size, 0, none⟩ 1 1 [tv (Sp.bytes (frPg (Sp.rowN L n) (Sp.nxB k n)))] rfl rfl (cell_one_new _ _ _) (fun u hu => by rw [List.mem_singleton.1 hu]; rfl) ?c3 ?c4 ?c5 ?_))
            case c3 => simp only [maxLen]; omega
            case c4 => omega
            case c5 => rw [World.size_alloc]; have := S4.out.1.size; have := HB7.out.size; omega
            intro v8 w8 ho8 hgr8 _
            have hz4 : w3.heap.size ≤ w6.heap.size := S4.out.1.size
            have hb8' : Below w3.heap.size w3 w8 := (S4.out.1.trans (HB7.out.mono hz4)).trans (HAL7.out.mono (Nat.le_trans hz4 HB7.out.size)) |>.trans (grown_own0 HOW.out (by rw [World.size_alloc]; have := HB7.out.size; omega) hgr8)
            have HB8 := Lib.hid hb8'
            have HO8 := Lib.hid (show w8.ownsRow w3.heap.size StrT 1 v8 (n + 1 + 2) ((Sp.backV (Sp.rowN L) k (n + 1)).map tv) from by rw [HSC.out, List.map_append]; exact ho8)
            clear ho8 hgr8 hb8' HOW HB7 HAL7 S4
            go_wp2_with fail
            go_roundw
            case rel => exact ⟨n + 1, by omega, by go_num, HO8.out, HB8.out⟩
            case measure => simp [intOf]; omega
        · have hnk2 : n = k := by omega
          subst hnk2
          have hz3 : w.heap.size ≤ w3.heap.size := HBW3.out.size
          have hbf := HBW3.out.trans (HB.out.mono hz3)
          have HBF := Lib.hid hbf
          have HFRF := Lib.hid (HFR3.out.go HB.out)
          rcases Nat.eq_zero_or_pos n with h0 | h1
          · have hT0 := HK0.out h0
            have hl0 : L.length = 0 := by
              have := Sp.len_total L (fun f hf e => by have := (HPI.out f hf).1; rw [e] at this; simp at this)
              omega
            have hll : l.length = 0 := by omega
            have hlli : ((l.length : Nat) : Int) = 0 := by omega
            subst h0
            clear hln hbf hl0 hll
            go_wp2_with fail
            go_ret
            exact ⟨by simp, HBF.out⟩
          · obtain ⟨m, hrd, hpm, hmn⟩ := HGD.out.back n h1 hk18 hk20
            have hn0 : ¬ (n : Int) = 0 := by omega
            obtain ⟨Av, cv, hv⟩ := own_slice HO.out
            subst hv
            rcases own_none HO.out with ⟨_, h0, _⟩ | ⟨g, cur, hA, _, hbg, hcg⟩
            · omega
            · subst hA
              have hvl := Sp.backV_len (Sp.rowN L) n n
              have htx : Txts wr NoM (some ⟨g, 0, none⟩) (Sp.backV (Sp.rowN L) n n) := ⟨by rw [List.length_map, hvl]; omega, .inr ⟨g, 0, rfl, hbg.lt, fun h => h, hcg⟩⟩
              have hcap : n + 2 ≤ cv := by
                rcases HO.out.2 with ⟨h0, _⟩ | ⟨g', cap, cur, hv, _, _, h1, _⟩
                · cases h0
                · injection hv with _ _ hc
                  omega
              have HFN := Lib.hid (fileNew_any (Sp.backV (Sp.rowN L) n n) g 0 cv wr htx (by rw [hvl]; omega) (by rw [hvl]; exact hcap) (Sp.backV_sz _ n n))
              rw [hvl] at HFN
              have hl4 : (Sp.backV (Sp.rowN L) n n).length ≤ 400 := by rw [hvl]; omega
              have htm : Sp.total m = Sp.total L := by rw [← Sp.prs_len, hpm, Sp.prs_len]
              have hml : m.length ≤ 360 := by have := Sp.len_total m hmn; omega
              have hmi : ∀ f ∈ m, 1 ≤ f.ids.length ∧ f.ids.length ≤ 1000 := fun f hf => by
                have h1 : 0 < f.ids.length := List.length_pos_iff.2 (hmn f hf)
                have h2 : f.ids.length ≤ Sp.total m := by
                  rw [← Sp.flat_len]
                  have : f.ids.Sublist (m.flatMap (·.ids)) := by
                    rw [List.flatMap_def]
                    exact List.sublist_flatten_of_mem (List.mem_map.2 ⟨f, hf, rfl⟩)
                  exact this.length_le
                omega
              have hmg : Sp.GoodL m := HGD.out.sub (by rw [hpm]; exact List.Sublist.refl _)
              have hids : m.flatMap (·.ids) = L.flatMap (·.ids) := by rw [← Sp.prs_ids, hpm, Sp.prs_ids]
              have huse : Sp.usableI m 3 = Sp.usableI L 3 := by rw [hmg.use, HGD.out.use, hpm]
              have hil : (L.flatMap (·.ids)).length ≤ 360 := by rw [Sp.flat_len]; exact hT
              have hul : (Sp.usableI L 3).length ≤ 360 := by
                rw [HGD.out.use, List.length_map]
                refine Nat.le_trans (List.length_filter_le _ _) ?_
                rw [Sp.prs_len]; exact hT
              have HRD := Lib.hid hrd
              have HMI := Lib.hid hmi
              have HTM := Lib.hid htm
              have HIDS := Lib.hid hids
              have HUSE := Lib.hid huse
              have hzw : w.heap.size ≤ wr.heap.size := hbf.size
              clear htx hcg hbg HO hrd hpm hmn hmi hmg hids huse htm hvl hcap hbf
              have HUL := Lib.hid (fun (W : World) (h : Frees W (fun k => k < w.heap.size) Au L) => usable_any L Au cu 3 W h (by omega) HPI.out (by omega) (by decide))
              have HFL := Lib.hid (fun (W : World) (h : Frees W (fun k => k < w.heap.size) Au L) => flat_any L Au cu W h (by omega) HPI.out (by omega))
              rw [hln] at HUL HFL
              go_upto_region 35 with (first
                | (go_at_call 20; refine HFN.out.mono ?_; rintro e wa ⟨f, fv, fm, rfl, hf, _, _, _, hba⟩; have HF := Lib.hid hf; have HBa := Lib.hid hba; clear hf hba)
                | (go_at_call 19; refine (fread_any f fm fv (Sp.backV (Sp.rowN L) n n) 2 400 _ HF.out hl4).mono ?_; rintro e wb ⟨ra, va, rfl, hub, _, hvb, _, hbb⟩; rw [HRD.out] at hub hvb; rw [HRD.out]; dsimp only at hub hvb ⊢; rw [List.length_map, List.length_range] at hvb; obtain ⟨Am, cm, rfl⟩ := hub.form; obtain ⟨Ap, cp, rfl⟩ := own_slice hvb; have HUB := Lib.hid hub; have HBb := Lib.hid hbb; clear hub hvb hbb; simp only [erO]))
              have hzb : w.heap.size ≤ wa.heap.size := Nat.le_trans hzw HBa.out.size
              have HFM2 := Lib.hid (Frees.anti (HUB.out.frees (by omega)) (fun k (h : k < w.heap.size) => (by omega : k < wa.heap.size)))
              have HFL2 := Lib.hid (HFRF.out.go (HBa.out.trans (HBb.out.mono HBa.out.size)))
              have HB2 := Lib.hid (HBF.out.trans ((HBa.out.trans (HBb.out.mono HBa.out.size)).mono hzw))
              clear HUB HBa HBb HFRF HBF HF HFN HRD
              have HMF := Lib.hid (fun (W : World) (hb : Below wb.heap.size wb W) => flat_any m Am cm W (HFM2.out.go hb) (by omega) HMI.out (by have := HTM.out; omega))
              have HMU := Lib.hid (fun (W : World) (hb : Below wb.heap.size wb W) => usable_any m Am cm 3 W (HFM2.out.go hb) (by omega) HMI.out (by have := HTM.out; omega) (by decide))
              have HMC := Lib.hid (fun (W : World) (hb : Below wb.heap.size wb W) => fcount_any m Am cm W (HFM2.out.go hb) (by omega) (fun f hf => (HMI.out f hf).2))
              rw [HIDS.out] at HMF
              rw [HUSE.out] at HMU
              rw [HTM.out] at HMC
              have HCO2 := Lib.hid (fun (W : World) (hb : Below wb.heap.size wb W) => HCO.out W (HFL2.out.go hb))
              have HFL3 := Lib.hid (fun (W : World) (hb : Below wb.heap.size wb W) => HFL.out W (HFL2.out.go hb))
              have HUL3 := Lib.hid (fun (W : World) (hb : Below wb.heap.size wb W) => HUL.out W (HFL2.out.go hb))
              clear HFL HUL HCO HFM2 HFL2 HIDS HUSE
              generalize L.flatMap (·.ids) = fi at *
              generalize Sp.usableI L 3 = us at *
              go_wp2_with (first
                | (go_at_call_of 22 (Value.slice Am m.length cm); refine (HMF.out _ (Below.refl _ _)).mono ?_; rintro e wc ⟨rc, rfl, hoc, hbc⟩; obtain ⟨Ac, cc, rfl⟩ := own_slice hoc; have HIc := Lib.hid (own_intsB (M := NoM) hoc rfl (by omega) (fun _ _ h => h)); have HBc := Lib.hid hbc; clear hoc hbc HMF)
                | (go_at_call_of 22 (Value.slice Au l.length cu); refine (HFL3.out _ HBc.out).mono ?_; rintro e wd ⟨rd, rfl, hod, hbd⟩; obtain ⟨Ad, cd, rfl⟩ := own_slice hod; have HId := Lib.hid (own_intsB (M := NoM) hod rfl (by omega) (fun _ _ h => h)); have HIc2 := Lib.hid (HIc.out.go hbd); have HBd := Lib.hid (HBc.out.trans (hbd.mono HBc.out.size)); clear hod hbd HFL3 HIc HBc)
                | (go_at_call_of 21 (Value.slice Ac fi.length cc); refine (dSameInts fi fi Ac Ad cc cd _ HIc2.out HId.out).mono ?_; rintro e we ⟨rfl, hbe⟩; have HBe := Lib.hid (HBd.out.trans (hbe.mono HBd.out.size)); clear hbe HIc2 HId HBd; rw [decide_eq_true (rfl : fi = fi)])
                | (go_at_call_of 16 (Value.slice Am m.length cm); refine (HMC.out _ HBe.out).mono ?_; rintro e wf ⟨rfl, hbf⟩; have HBf := Lib.hid (HBe.out.trans (hbf.mono HBe.out.size)); clear hbf HMC HBe)
                | (go_at_call_of 16 (Value.slice Au l.length cu); refine (HCO2.out _ HBf.out).mono ?_; rintro e wg ⟨rfl, hbg⟩; have HBg := Lib.hid (HBf.out.trans (hbg.mono HBf.out.size)); clear hbg HCO2 HBf)
                | (go_at_call_of 23 (Value.slice Am m.length cm); refine (HMU.out _ HBg.out).mono ?_; rintro e wh ⟨rh, rfl, hoh, hbh⟩; obtain ⟨Ah, ch, rfl⟩ := own_slice hoh; have HIh := Lib.hid (own_intsB (M := NoM) hoh rfl (by omega) (fun _ _ h => h)); have HBh := Lib.hid (HBg.out.trans (hbh.mono HBg.out.size)); clear hoh hbh HMU HBg)
                | (go_at_call_of 23 (Value.slice Au l.length cu); refine (HUL3.out _ HBh.out).mono ?_; rintro e wi ⟨ri, rfl, hoi, hbi⟩; obtain ⟨Ai, ci, rfl⟩ := own_slice hoi; have HIi := Lib.hid (own_intsB (M := NoM) hoi rfl (by omega) (fun _ _ h => h)); have HIh2 := Lib.hid (HIh.out.go hbi); have HBi := Lib.hid (HBh.out.trans (hbi.mono HBh.out.size)); clear hoi hbi HUL3 HIh HBh)
                | (go_at_call_of 21 (Value.slice Ah us.length ch); refine (dSameInts us us Ah Ai ch ci _ HIh2.out HIi.out).mono ?_; rintro e wj ⟨rfl, hbj⟩; have HBj := Lib.hid (HBi.out.trans (hbj.mono HBi.out.size)); clear hbj HIh2 HIi HBi; rw [decide_eq_true (rfl : us = us)]))
              go_ret
              exact ⟨by simp, HB2.out.trans (HBj.out.mono HB2.out.size)⟩
end Go.Proofs.YtkcfmjlcijhieaaGreat
namespace Go.Proofs.YtkcfmjlcijhieaaGreat.freeBack
open Go.ChangeShapes Go.WideShapes Go.ChangeAt Go.RowKit
set_option maxRecDepth 100000 in
theorem lifted (os : Os) (started : os.Started) (H : Type) (enc : TypeId × Value → H) :
    ReturnsInHanded {} Tryz.checked os 3 .any (Rows.freeBackSpec.pre6 enc Tryz.prog Tryz.f3 Rows.freeBackRow.domain false) (Rows.freeBackSpec.post enc Tryz.prog Tryz.f3 false true false false) := by
  refine returnsInHanded_of_change_sized (C := Tryz.checked) ownKn started (by kernel_rfl) Tryz.func3
    (ChangeSpec.witness6 (enc := enc) (C := Tryz.checked) false ⟨#[], #[.slice none 0 0, .slice none 0 0], []⟩ 8 (by kernel_rfl) (by kernel_rfl) (by kernel_rfl) (by kernel_rfl)) ?_
  intro W base args ds gs before hval0 hW hcnd hsz0 _
  have hval : ∀ (j : Nat) t v, Tryz.f3.params[j]? = some t → args[j]? = some v → Value.okWide Tryz.prog W .any base t v := hval0
  have hW' := hW
  obtain ⟨p, q, hA0, hV, rfl, hfz, hnd⟩ := hW
  have hA : DataW.TrodAll enc Tryz.prog W 0 (fun _ => true) true Tryz.f3.params.toList args.toList ds p := hA0
  have hsz : (DataW.weightsEach Tryz.prog (Tryz.f3.params.toList ++ Rows.freeBackSpec.plain.varTypes Tryz.prog) (ds ++ gs)).all (· ≤ reachBytes) = true := hsz0
  rw [Tryz.params3] at hA hval hsz
  obtain ⟨v0, vs0, d0, ds0, p0, q0, hargs, rfl, rfl, h0, rr0⟩ := trodAll_cons hA
  obtain ⟨v1, vs1, d1, ds1, p1, q1, rfl, rfl, rfl, h1, rr1⟩ := trodAll_cons rr0
  obtain ⟨rfl, rfl, rfl⟩ := trodAll_nil rr1
  obtain rfl : args = #[v0, v1] := by cases args; simp_all
  obtain ⟨rfl, rfl⟩ := trodVars_none hV
  have k0 := h0
  obtain ⟨a0, r0, c0, hv0, b0, g0⟩ := open_u8s (hval 0 22 v0 rfl rfl) h0
  have k1 := h1
  obtain ⟨a1, r1, c1, hv1, b1, g1⟩ := open_u8s (hval 1 22 v1 rfl rfl) h1
  clear hA0 hval0
  simp only [List.append_nil] at hW'
  rw [hv0, hv1]
  refine (fback_walk a0 a1 r0 r1 c0 c1 W b0 b1 g0 g1).mono fun e W' ⟨he, hg⟩ => ?_
  subst he
  rw [← hv0, ← hv1]
  exact ⟨_, rfl, post_of_below (pa := (p0 ++ (p1 ++ []))) (pv := []) hW' (fun _ _ _ => (trodAll_cons_mk (shut_bool Tryz.underlying4 _) trodAll_mk0)) (fun sp hsp => (trodAll_cons_mk (WideElems.Trod_stays laidKn (by kernel_rfl) (of_decide_eq_true (by kernel_rfl)) k0 (fun x hx => hg.same (hW'.lt x (by simp [hx]))) (fun x hx => hsp x (by simp [hx]))) (trodAll_cons_mk (WideElems.Trod_stays laidKn (by kernel_rfl) (of_decide_eq_true (by kernel_rfl)) k1 (fun x hx => hg.same (hW'.lt x (by simp [hx]))) (fun x hx => hsp x (by simp [hx]))) trodAll_mk0))) (fun _ _ => rfl) (by simp)
    hg (ok_one (by kernel_rfl) rfl (okWide_bool_mk Tryz.underlying4 _))⟩
theorem over : Rows.freeBackRow.holds Tryz.pinned (OpenSpec.ofChange Rows.freeBackSpec) :=
  OpenClaim.holds_of_wide 3 Tryz.f3 rfl rfl rfl rfl rfl rfl rfl ⟨rfl, rfl, rfl, rfl, rfl⟩ rfl rfl rfl rfl rfl (by kernel_rfl) Tryz.func3 (by kernel_rfl)
    (of_decide_eq_true (by kernel_rfl)) (by unfold Func.isWrapper; first | (rw [if_pos (by decide +kernel)]; kernel_rfl) | (rw [if_neg (by decide +kernel)]; exact ⟨rfl, rfl⟩))
    (fun os started H enc _ => lifted os started H enc)
theorem proved : Rows.FreeBackSaid :=
  over
#print axioms proved
end Go.Proofs.YtkcfmjlcijhieaaGreat.freeBack
