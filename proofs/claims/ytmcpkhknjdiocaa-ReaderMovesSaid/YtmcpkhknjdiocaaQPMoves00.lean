/- ReaderMoves: each time that the version moves between publishing and looking again it is published anew: the walk. ReaderMoves: whatever the input: true; the input reads as it did. -/
import Derived.Test.YtmcpkhknjdiocaaQB12
import Derived.SizedLaws
set_option linter.unusedSimpArgs false
set_option linter.unusedVariables false
namespace Go.Proofs.Ytmcpkhknjdiocaa
open Go.RowKit
attribute [local go_sem low] mk_extract
attribute [local go_sem] After.cell After.frozen mk_extract_end ByteArray.mk_append_mk
namespace Sp
def mvSteps (ph j : Nat) : Int := if ph = 1 then 0 else if ph = 2 then 1 else if ph = 3 then 2 + 2 * (j : Int) else if ph = 4 then 3 + 2 * (j : Int) else 4 + 2 * (j : Int)
theorem mvR_ph {pid most t : Int} {ph : Nat} (h : ph ≤ 5) : 0 ≤ (mvR pid most ph t).phase ∧ (mvR pid most ph t).phase ≤ 5 := ⟨Int.natCast_nonneg ph, by show (ph : Int) ≤ 5; omega⟩
end Sp
set_option maxRecDepth 100000 in
set_option maxHeartbeats 6400000 in
theorem moves_walk (n : Int) (h0 : 0 ≤ n) (h1 : n ≤ 255) (w : World) :
    Calls Try.prog 3 #[.int .u8 n] w fun e w' => e = .returned (.bool true) ∧ Below w.heap.size w w' := by
  obtain ⟨K, hK⟩ := Int.eq_ofNat_of_zero_le (Int.emod_nonneg n (by decide : (10 : Int) ≠ 0))
  have hK9 : K ≤ 9 := by omega
  go_enter Try.func3, Try.ntmps3
  go_upto_region 5 with (first
    | (go_at_call 4; refine (known22_any _).mono ?_; rintro e w0 ⟨rfl, hb0⟩; have HB0 := Lib.hid hb0; clear hb0)
    | (go_at_call 6; refine (empty_any _).mono ?_; rintro e w1 ⟨b, rfl, ht, hb1⟩; have HT := Lib.hid ht; have HB1 := Lib.hid (HB0.out.trans (hb1.mono HB0.out.size)); have HZ1 := Lib.hid hb1.size; clear ht hb1)
    | (go_at_call 5; refine (fileNew_at1 b _ HT.out).mono ?_; rintro e w2 ⟨f, v, m, rfl, hf, h1, h2, h3, hb2⟩; have HF := Lib.hid hf; have H2 := Lib.hid h2; have H3 := Lib.hid h3; have HB2 := Lib.hid hb2; clear hf h1 h2 h3 hb2)
    | (go_at_call 7; refine (lockNew_any _).mono ?_; rintro e w3 ⟨rfl, hl, hb3⟩; have HL := Lib.hid hl; have HB3 := Lib.hid hb3; clear hl hb3)
    | (go_at_call 8; refine (rdNew_any 3 400 _).mono ?_; rintro e w4 ⟨rfl, hr, hb4⟩; have HR := Lib.hid hr; have HB4 := Lib.hid hb4; clear hr hb4))
  have S := Lib.hid (show LwS w f m w2.heap.size w3.heap.size v (Sp.filesAt ((0 + 1 : Nat) : Int)) (Sp.mvS 3 1 ((0 + 1 : Nat) : Int)) (Sp.mvR 3 400 1 ((0 + 1 : Nat) : Int)) w4 from LwS.mk3 HB1.out HF.out H2.out H3.out HB2.out HL.out HB3.out HR.out HB4.out)
  clear HT HF H2 H3 HL HR HB1 HB2 HB3 HB4 HB0 HZ1
  generalize w2.heap.size = l at *
  generalize w3.heap.size = p at *
  go_cut [6] (fun s6 W => s6 = .int .i64 (K : Int) ∧ W = w4)
  case first =>
    go_wp2_with fail
    go_meet
    case rel => exact ⟨rfl, rfl⟩
  case rest =>
    obtain ⟨rfl, rfl⟩ := hcut
    go_wp2_with fail
    go_loopw [6, 7, 8, 9] (fun k t s d wr => ∃ (ph j : Nat), (j ≤ K ∧ (ph = 1 ∧ j = 0 ∨ ph = 2 ∧ j = 0 ∨ ph = 3 ∨ ph = 4 ∨ ph = 0 ∧ j = K)) ∧ k = .int .i64 ((K - j : Nat) : Int) ∧ t = .int .u64 ((j + 1 : Nat) : Int) ∧ s = .int .i64 (Sp.mvSteps ph j) ∧ d = .bool (decide (ph = 0)) ∧ LwS w f m l p v (Sp.filesAt ((j + 1 : Nat) : Int)) (Sp.mvS 3 ph ((j + 1 : Nat) : Int)) (Sp.mvR 3 400 ph ((j + 1 : Nat) : Int)) wr) (fun _ _ s _ _ => 100 - (intOf s).toNat)
    case atStart => exact ⟨1, 0, ⟨by omega, .inl ⟨rfl, rfl⟩⟩, rfl, rfl, rfl, rfl, S.out⟩
    case round =>
      obtain ⟨ph, j, ⟨hj, hph⟩, rfl, rfl, rfl, rfl, hs⟩ := hrel
      replace S := Lib.hid hs
      clear hs
      rcases hph with ⟨rfl, rfl⟩ | ⟨rfl, rfl⟩ | rfl | rfl | ⟨rfl, rfl⟩
      · simp only [Sp.mvSteps]
        go_wp2_with (first
          | (go_at_call 9; refine (rdPhase_any p _ _ S.out.rd).mono ?_; rintro e w6 ⟨rfl, rfl⟩; rw [show (Sp.mvR 3 400 1 ((0 + 1 : Nat) : Int)).phase = 1 from rfl])
          | (go_at_call 13; refine (stepAt S.out (Sp.mv1 (by decide) _ _) (by rw [Sp.filesAt_len]; omega) (Sp.mvR_ph (by decide))).mono ?_; rintro e w5 ⟨rfl, hs⟩; simp only [erV]; replace S := Lib.hid hs; clear hs))
        go_roundw
        case rel => exact ⟨2, 0, ⟨by omega, .inr (.inl ⟨rfl, rfl⟩)⟩, rfl, rfl, by go_num, rfl, S.out⟩
        case measure => simp [intOf]
      · simp only [Sp.mvSteps]
        go_wp2_with (first
          | (go_at_call 9; refine (rdPhase_any p _ _ S.out.rd).mono ?_; rintro e w6 ⟨rfl, rfl⟩; rw [show (Sp.mvR 3 400 2 ((0 + 1 : Nat) : Int)).phase = 2 from rfl])
          | (go_at_call 13; refine (stepAt S.out (Sp.mv2 (by decide)) (by rw [Sp.filesAt_len]; omega) (Sp.mvR_ph (by decide))).mono ?_; rintro e w5 ⟨rfl, hs⟩; simp only [erV]; replace S := Lib.hid hs; clear hs))
        go_roundw
        case rel => exact ⟨3, 0, ⟨by omega, .inr (.inr (.inl rfl))⟩, rfl, rfl, by go_num, rfl, S.out⟩
        case measure => simp [intOf]
      · simp only [Sp.mvSteps]
        have h60 : ¬ (60 : Int) < 2 + 2 * (j : Int) := by omega
        go_wp2_with (first
          | (go_at_call 9; refine (rdPhase_any p _ _ S.out.rd).mono ?_; rintro e w6 ⟨rfl, rfl⟩; rw [show (Sp.mvR 3 400 3 ((j + 1 : Nat) : Int)).phase = 3 from rfl])
          | (go_at_call 13; refine (stepAt S.out (Sp.mv3 (by decide) _ _) (by rw [Sp.filesAt_len]; omega) (Sp.mvR_ph (by decide))).mono ?_; rintro e w5 ⟨rfl, hs⟩; simp only [erV]; replace S := Lib.hid hs; clear hs))
        go_roundw
        case rel => exact ⟨4, j, ⟨hj, .inr (.inr (.inr (.inl rfl)))⟩, rfl, rfl, by simp only [Sp.mvSteps]; go_num, rfl, S.out⟩
        case measure => simp [intOf]; omega
      · simp only [Sp.mvSteps]
        have h60 : ¬ (60 : Int) < 3 + 2 * (j : Int) := by omega
        by_cases hjK : j < K
        · have hk0 : (0 : Int) < ((K - j : Nat) : Int) := by omega
          go_upto_region 11 with (go_at_call 9; refine (rdPhase_any p _ _ S.out.rd).mono ?_; rintro e w6 ⟨rfl, rfl⟩; rw [show (Sp.mvR 3 400 4 ((j + 1 : Nat) : Int)).phase = 4 from rfl])
          obtain ⟨W0, rfl⟩ : ∃ W, W = wr := ⟨_, rfl⟩
          go_cut [7] (fun s7 W => s7 = .int .u64 ((j + 1 + 1 : Nat) : Int) ∧ W = W0)
          case first =>
            go_wp2_with fail
            go_meet
            case rel => exact ⟨by go_num, rfl⟩
          case rest =>
            obtain ⟨rfl, rfl⟩ := hcut
            go_upto_region 12 with fail
            obtain ⟨W0, rfl⟩ : ∃ W, W = wc := ⟨_, rfl⟩
            go_cut [6] (fun s6 W => s6 = .int .i64 ((K - (j + 1) : Nat) : Int) ∧ W = W0)
            case first =>
              go_wp2_with fail
              go_meet
              case rel => exact ⟨by go_num, rfl⟩
            case rest =>
              obtain ⟨rfl, rfl⟩ := hcut
              obtain ⟨q, hq2, hpl, hqn⟩ : ∃ q : Nat, q < 2 ∧ ((j : Int) + 1 + 1) % 2 = (q : Int) ∧ (((j + 1 + 1 : Nat) : Int) % 2).toNat = q := ⟨(j + 1 + 1) % 2, by omega, by omega, by omega⟩
              have hml := Sp.metaB_le (Sp.mt2 ((j : Int) + 1 + 1) 2)
              have hfs : (Sp.filesAt ((j + 1 : Nat) : Int)).set q (Sp.metaB (Sp.mt2 ((j : Int) + 1 + 1) 2)) = Sp.filesAt ((j + 1 + 1 : Nat) : Int) := by
                have := Sp.filesAt_set (t := ((j + 1 : Nat) : Int)) (by omega)
                rw [show (((j + 1 : Nat) : Int) + 1) = ((j + 1 + 1 : Nat) : Int) by omega, hqn] at this
                rw [show ((j : Int) + 1 + 1) = ((j + 1 + 1 : Nat) : Int) by omega]
                exact this
              have hst : (Sp.mvR 3 400 4 ((j + 1 : Nat) : Int)).step (Sp.atV (Sp.filesAt ((j + 1 + 1 : Nat) : Int)) 0) (Sp.atV (Sp.filesAt ((j + 1 + 1 : Nat) : Int)) 1) (Sp.mvS 3 4 ((j + 1 : Nat) : Int)) = ((false, none), (Sp.mvR 3 400 3 ((j + 1 + 1 : Nat) : Int), Sp.mvS 3 3 ((j + 1 + 1 : Nat) : Int))) := by
                have := Sp.mv4n (pid := 3) (most := 400) (t := ((j + 1 : Nat) : Int)) (by decide) (by omega) (by omega)
                rw [show (((j + 1 : Nat) : Int) + 1) = ((j + 1 + 1 : Nat) : Int) by omega] at this
                exact this
              have HFS := Lib.hid hfs
              have HST := Lib.hid hst
              clear hfs hst
              go_wp2_with (first
                | (go_at_call 11; refine (dPlace_any _ (by omega) (by omega) _).mono ?_; rintro e w6 ⟨rfl, rfl⟩; rw [hpl])
                | (go_at_call 12; refine (dMetaBytes_any (Sp.mt2 ((j : Int) + 1 + 1) 2) _ (by show 0 ≤ (j : Int) + 1 + 1 ∧ (j : Int) + 1 + 1 < 18446744073709551616; omega)).mono ?_; rintro e w6 ⟨rfl, hb6⟩; replace S := Lib.hid (S.out.go hb6); clear hb6)
                | (go_at_call 10; refine (fileWrite_any f m q v (Sp.filesAt ((j + 1 : Nat) : Int)) (Sp.metaB (Sp.mt2 ((j : Int) + 1 + 1) 2)) _ S.out.ff (by rw [Sp.filesAt_len]; omega) (by rw [Sp.filesAt_len]; omega) (by omega)).mono ?_; rintro e w6 ⟨rfl, hf6, hk6⟩; rw [HFS.out] at hf6; replace S := Lib.hid (S.out.write hf6 hk6); clear hf6 hk6)
                | (go_at_call 13; refine (stepAt S.out HST.out (by rw [Sp.filesAt_len]; omega) (Sp.mvR_ph (by decide))).mono ?_; rintro e w5 ⟨rfl, hs⟩; simp only [erV]; replace S := Lib.hid hs; clear hs))
              go_roundw
              case rel => exact ⟨3, j + 1, ⟨by omega, .inr (.inr (.inl rfl))⟩, rfl, rfl, by simp only [Sp.mvSteps]; go_num, rfl, S.out⟩
              case measure => simp [intOf]; omega
        · obtain rfl : j = K := by omega
          have hk0 : ((j - j : Nat) : Int) = 0 := by omega
          go_wp2_with (first
            | (go_at_call 9; refine (rdPhase_any p _ _ S.out.rd).mono ?_; rintro e w6 ⟨rfl, rfl⟩; rw [show (Sp.mvR 3 400 4 ((j + 1 : Nat) : Int)).phase = 4 from rfl])
            | (go_at_call 13; refine (stepAt S.out (Sp.mv4 (by decide) (by omega) (by omega)) (by rw [Sp.filesAt_len]; omega) (Sp.mvR_ph (by decide))).mono ?_; rintro e w5 ⟨rfl, hs⟩; simp only [erV]; replace S := Lib.hid hs; clear hs))
          go_roundw
          case rel => exact ⟨0, j, ⟨by omega, .inr (.inr (.inr (.inr ⟨rfl, rfl⟩)))⟩, by rw [Nat.sub_self]; rfl, rfl, by first | (show Value.int .i64 _ = Value.int .i64 (4 + 2 * (j : Int)); go_num) | trace_state, rfl, S.out⟩
          case measure => simp [intOf]; omega
      · simp only [Sp.mvSteps]
        go_upto_region 19 with (go_at_call 14; refine (slots_any l 0 _ _ S.out.lk).mono ?_; rintro e w8 ⟨g, cap, rfl, ho, hb⟩; replace S := Lib.hid (S.out.go hb); have HO := Lib.hid ho; clear ho hb)
        have d1 : w8.cell? ⟨g, 1, none⟩ = some (.int .u64 ((j : Int) + 1)) := own2_at HO.out rfl
        have hfd := field0 ((j : Int) + 1) 0 0 0 0 2
        go_wp2_with (go_at_call 15; refine (rdMeta_any p _ _ S.out.rd).mono ?_; rintro e w9 ⟨rfl, hb⟩; rw [show (mtV (Sp.mvR 3 400 0 ((j + 1 : Nat) : Int)).mt).toArray = #[.int .u64 ((j + 1 : Nat) : Int), .int .i64 0, .int .i64 0, .int .i64 0, .int .i64 0, .int .i64 2] from rfl]; replace S := Lib.hid (S.out.go hb); clear hb)
        go_ret
        exact ⟨rfl, S.out.hb⟩
end Go.Proofs.Ytmcpkhknjdiocaa
namespace Go.Proofs.Ytmcpkhknjdiocaa.readerMoves
open Go.ChangeShapes Go.WideShapes Go.ChangeAt Go.RowKit
set_option maxRecDepth 100000 in
theorem lifted (os : Os) (started : os.Started) (H : Type) (enc : TypeId × Value → H) :
    ReturnsInHanded {} Try.checked os 3 .any (Rows.readerMovesSpec.pre6 enc Try.prog Try.f3 Rows.readerMovesRow.domain false) (Rows.readerMovesSpec.post enc Try.prog Try.f3 false true false false) := by
  refine returnsInHanded_of_change (C := Try.checked) ownKn started (by kernel_rfl) Try.func3
    (ChangeSpec.witness6 (enc := enc) (C := Try.checked) false ⟨#[], #[.int .u8 0], []⟩ 8 (by kernel_rfl) (by kernel_rfl) (by kernel_rfl) (by kernel_rfl)) ?_
  intro W base args ds gs before hval0 hW hcnd _
  have hval : ∀ (j : Nat) t v, Try.f3.params[j]? = some t → args[j]? = some v → Value.okWide Try.prog W .any base t v := hval0
  have hW' := hW
  obtain ⟨p, q, hA0, hV, rfl, hfz, hnd⟩ := hW
  have hA : DataW.TrodAll enc Try.prog W 0 (fun _ => true) true Try.f3.params.toList args.toList ds p := hA0
  rw [Try.params3] at hA hval
  obtain ⟨v0, vs0, d0, ds0, p0, q0, hargs, rfl, rfl, h0, rr0⟩ := trodAll_cons hA
  obtain ⟨rfl, rfl, rfl⟩ := trodAll_nil rr0
  obtain rfl : args = #[v0] := by cases args; simp_all
  obtain ⟨rfl, rfl⟩ := trodVars_none hV
  obtain ⟨a0, rfl, rfl, rfl, w0⟩ := open_int Try.underlying5 (hval 0 5 v0 rfl rfl) h0
  clear hA0 hval0
  simp only [List.append_nil] at hW'
  refine (moves_walk a0 (bounds_u8 w0).1 (bounds_u8 w0).2 W).mono fun e W' ⟨he, hg⟩ => ?_
  subst he
  exact ⟨_, rfl, post_of_below (pa := []) (pv := []) hW' (fun _ _ _ => (trodAll_cons_mk (shut_bool Try.underlying4 _) trodAll_mk0)) (fun sp hsp => (trodAll_cons_mk (shut_int Try.underlying5 w0) trodAll_mk0)) (fun _ _ => rfl) (by simp)
    hg (ok_one (by kernel_rfl) rfl (okWide_bool_mk Try.underlying4 _))⟩
theorem over : Rows.readerMovesRow.holds Try.pinned (OpenSpec.ofChange Rows.readerMovesSpec) :=
  OpenClaim.holds_of_wide 3 Try.f3 rfl rfl rfl rfl rfl rfl rfl ⟨rfl, rfl, rfl, rfl, rfl⟩ rfl rfl rfl rfl rfl (by kernel_rfl) Try.func3 (by kernel_rfl)
    (of_decide_eq_true (by kernel_rfl)) (by unfold Func.isWrapper; first | (rw [if_pos (by decide +kernel)]; kernel_rfl) | (rw [if_neg (by decide +kernel)]; exact ⟨rfl, rfl⟩))
    (fun os started H enc _ => lifted os started H enc)
theorem proved : Rows.ReaderMovesSaid :=
  over
#print axioms proved
end Go.Proofs.Ytmcpkhknjdiocaa.readerMoves
