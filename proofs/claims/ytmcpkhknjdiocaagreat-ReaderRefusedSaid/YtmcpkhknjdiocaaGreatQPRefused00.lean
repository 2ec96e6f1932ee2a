/- ReaderRefused: a walk, case 1. ReaderRefused: a walk, case 2. ReaderRefused: a walk, case 3. ReaderRefused: a walk, case 4. ReaderRefused: a walk, case 5. ReaderRefused: a walk, case 6. ReaderRefused: a walk, case 7. ReaderRefused: a walk, case 8. ReaderRefused: the walks joined. ReaderRefused: whatever the input: true; the input reads as it did. -/
import Derived.Test.YtmcpkhknjdiocaaGreatQB13
import Derived.SizedLaws
set_option linter.unusedSimpArgs false
set_option linter.unusedVariables false
namespace Go.Proofs.YtmcpkhknjdiocaaGreat
open Go.RowKit
attribute [local go_sem low] mk_extract
attribute [local go_sem] After.cell After.frozen mk_extract_end ByteArray.mk_append_mk
set_option maxRecDepth 100000 in
set_option maxHeartbeats 6400000 in
theorem refused1 (a0 a1 : Int) (K M : Nat) (hK : a0 % 398 = (K : Int)) (hM : a1 % 400 = (M : Int)) (h00 : 0 ≤ a0) (h01 : a0 ≤ 65535) (h10 : 0 ≤ a1) (h11 : a1 ≤ 65535) (w : World) :
    Calls Tryz.prog 4 #[.int .u16 a0, .int .u16 a1, .bool true, .bool false] w fun e w' => e = .returned (.bool true) ∧ Below w.heap.size w w' := by
  have hK9 : K < 398 := by omega
  have hM9 : M < 400 := by omega
  have hsp := Sp.spoil_no (2 + (K : Int))
  have HS1 := Lib.hid (Sp.see_none (most := (M : Int)) hsp)
  clear hsp
  go_enter Tryz.func4, Tryz.ntmps4
  go_upto_region 3 with (go_at_call 11; refine (known22_any _).mono ?_; rintro e w0 ⟨rfl, hb0⟩; have HB0 := Lib.hid hb0; clear hb0)
  go_cut [9, 10] (fun s9 s10 W => s9 = .int .i64 (2 + (K : Int)) ∧ s10 = .int .i64 (M : Int) ∧ W = w0)
  case first =>
    go_wp2_with fail
    go_meet
    case rel => exact ⟨by go_num, by go_num, rfl⟩
  case rest =>
    obtain ⟨rfl, rfl, rfl⟩ := hcut
    go_upto_region 6 with (first
      | (go_at_call 13; refine (empty_any _).mono ?_; rintro e w1 ⟨b, rfl, ht, hb1⟩; have HT := Lib.hid ht; have HB1 := Lib.hid (HB0.out.trans (hb1.mono HB0.out.size)); clear ht hb1)
      | (go_at_call 12; refine (fileNew_at1 b _ HT.out).mono ?_; rintro e w2 ⟨f, v, mm, rfl, hf, h1, h2, h3, hb2⟩; have HF := Lib.hid hf; have H2 := Lib.hid h2; have H3 := Lib.hid h3; have HB2 := Lib.hid hb2; clear hf h1 h2 h3 hb2)
      | (go_at_call 14; refine (lockNew_any _).mono ?_; rintro e w3 ⟨rfl, hl, hb3⟩; have HL := Lib.hid hl; have HB3 := Lib.hid hb3; clear hl hb3)
      | (go_at_call 16; refine (rdNew_any 3 (M : Int) _).mono ?_; rintro e w4 ⟨rfl, hr, hb4⟩; have HR := Lib.hid hr; have HB4 := Lib.hid hb4; clear hr hb4))
    have S := Lib.hid (show LwS w f mm w2.heap.size w3.heap.size v (Sp.filesAt 1) (List.replicate 8 Sp.sl0) ⟨3, (M : Int), 1, -1, Sp.mt0, none⟩ w4 from LwS.mk3 HB1.out HF.out H2.out H3.out HB2.out HL.out HB3.out HR.out HB4.out)
    clear HT HF H2 H3 HL HR HB1 HB2 HB3 HB4 HB0
    generalize w2.heap.size = l at *
    generalize w3.heap.size = p at *
    go_wp2_with (go_at_call 25; refine (spoil_any w f mm l p v _ _ (2 + (K : Int)) true _ S.out).mono ?_; rintro e w6 ⟨rfl, hs⟩; replace S := Lib.hid hs; clear hs)
    go_loopw [14] (fun i wr => (i = .int .i64 0 ∧ LwS w f mm l p v (Sp.spoilAt (2 + (K : Int)) true) (List.replicate 8 Sp.sl0) ⟨3, (M : Int), 1, -1, Sp.mt0, none⟩ wr) ∨ (i = .int .i64 1 ∧ LwS w f mm l p v (Sp.spoilAt (2 + (K : Int)) true) (Sp.oneSl 3 0) ⟨3, (M : Int), 2, 0, Sp.mt0, none⟩ wr) ∨ (i = .int .i64 2 ∧ LwS w f mm l p v (Sp.spoilAt (2 + (K : Int)) true) (Sp.oneSl 3 0) ⟨3, (M : Int), 5, 0, Sp.mt0, (some 12)⟩ wr)) (fun i _ => 10 - (intOf i).toNat)
    case atStart => exact .inl ⟨rfl, S.out⟩
    case round =>
      rcases hrel with ⟨rfl, hs⟩ | ⟨rfl, hs⟩ | ⟨rfl, hs⟩
      · replace S := Lib.hid hs
        clear hs
        go_wp2_with (go_at_call 20; refine (stepAt S.out (Sp.step_claims (by decide)) (by first | (rw [Sp.spoilAt_len]; omega) | (rw [Sp.filesAt_len]; omega)) (by simp)).mono ?_; rintro e w5 ⟨rfl, hs⟩; simp only [erV]; replace S := Lib.hid hs; clear hs)
        go_roundw
        case rel => exact .inr (.inl ⟨rfl, S.out⟩)
        case measure => simp [intOf]
      · replace S := Lib.hid hs
        clear hs
        go_wp2_with (go_at_call 20; refine (stepAt S.out (Sp.step_refuses (.inl rfl) HS1.out) (by first | (rw [Sp.spoilAt_len]; omega) | (rw [Sp.filesAt_len]; omega)) (by simp)).mono ?_; rintro e w5 ⟨rfl, hs⟩; simp only [erV]; replace S := Lib.hid hs; clear hs)
        go_roundw
        case rel => exact .inr (.inr (⟨rfl, S.out⟩))
        case measure => simp [intOf]
      · replace S := Lib.hid hs
        clear hs
        go_upto_region 13 with (go_at_call 20; refine (stepAt S.out (Sp.step_frees (by decide)) (by first | (rw [Sp.spoilAt_len]; omega) | (rw [Sp.filesAt_len]; omega)) (by simp)).mono ?_; rintro e w5 ⟨rfl, hs⟩; simp only [erV]; replace S := Lib.hid hs; clear hs)
        go_wp2_with fail
        go_loopw [18] (fun i wr => (i = .int .i64 0 ∧ LwS w f mm l p v (Sp.spoilAt (2 + (K : Int)) true) (List.replicate 8 Sp.sl0) ⟨3, (M : Int), 0, -1, Sp.mt0, (some 12)⟩ wr)) (fun i _ => 20 - (intOf i).toNat)
        case atStart => exact ⟨rfl, S.out⟩
        case round =>
          obtain ⟨rfl, hs⟩ := hrel
          replace S := Lib.hid hs
          clear hs
          go_upto_region 23 with (first
            | (go_at_call 20; refine (stepAt S.out (Sp.step_done) (by first | (rw [Sp.spoilAt_len]; omega) | (rw [Sp.filesAt_len]; omega)) (by simp)).mono ?_; rintro e w5 ⟨rfl, hs⟩; simp only [erV]; replace S := Lib.hid hs; clear hs)
            | (go_at_call 21; refine (slots_any l 0 _ _ S.out.lk).mono ?_; rintro e w8 ⟨g, cap, rfl, ho, hb⟩; replace S := Lib.hid (S.out.go hb); have HO := Lib.hid ho; clear ho hb))
          have d0 : w8.cell? ⟨g, 0, none⟩ = some (.int .i64 0) := own2_at HO.out rfl
          go_wp2_with (first
            | (go_at_call 22; refine (errIs_same 12 _).mono ?_; rintro e w9 ⟨rfl, rfl⟩)
            | (go_at_call 23; refine (rdSlot_any p _ _ S.out.rd).mono ?_; rintro e w9 ⟨rfl, rfl⟩; dsimp only))
          go_ret
          exact ⟨rfl, S.out.hb⟩
end Go.Proofs.YtmcpkhknjdiocaaGreat
namespace Go.Proofs.YtmcpkhknjdiocaaGreat
open Go.RowKit
attribute [local go_sem low] mk_extract
attribute [local go_sem] After.cell After.frozen mk_extract_end ByteArray.mk_append_mk
set_option maxRecDepth 100000 in
set_option maxHeartbeats 6400000 in
theorem refused2 (a0 a1 : Int) (K M : Nat) (hK : a0 % 398 = (K : Int)) (hM : a1 % 400 = (M : Int)) (h00 : 0 ≤ a0) (h01 : a0 ≤ 65535) (h10 : 0 ≤ a1) (h11 : a1 ≤ 65535) (hkm : (M : Int) < 2 + (K : Int)) (w : World) :
    Calls Tryz.prog 4 #[.int .u16 a0, .int .u16 a1, .bool false, .bool false] w fun e w' => e = .returned (.bool true) ∧ Below w.heap.size w w' := by
  have hK9 : K < 398 := by omega
  have hM9 : M < 400 := by omega
  have hsy := Sp.spoil_yes (k := 2 + (K : Int)) (by omega)
  have HS1 := Lib.hid (Sp.see_big (most := (M : Int)) (m2 := (Sp.mt2 2 (2 + (K : Int)))) hsy (by show (M : Int) < 2 + (K : Int); omega))
  clear hsy
  go_enter Tryz.func4, Tryz.ntmps4
  go_upto_region 3 with (go_at_call 11; refine (known22_any _).mono ?_; rintro e w0 ⟨rfl, hb0⟩; have HB0 := Lib.hid hb0; clear hb0)
  go_cut [9, 10] (fun s9 s10 W => s9 = .int .i64 (2 + (K : Int)) ∧ s10 = .int .i64 (M : Int) ∧ W = w0)
  case first =>
    go_wp2_with fail
    go_meet
    case rel => exact ⟨by go_num, by go_num, rfl⟩
  case rest =>
    obtain ⟨rfl, rfl, rfl⟩ := hcut
    go_upto_region 6 with (first
      | (go_at_call 13; refine (empty_any _).mono ?_; rintro e w1 ⟨b, rfl, ht, hb1⟩; have HT := Lib.hid ht; have HB1 := Lib.hid (HB0.out.trans (hb1.mono HB0.out.size)); clear ht hb1)
      | (go_at_call 12; refine (fileNew_at1 b _ HT.out).mono ?_; rintro e w2 ⟨f, v, mm, rfl, hf, h1, h2, h3, hb2⟩; have HF := Lib.hid hf; have H2 := Lib.hid h2; have H3 := Lib.hid h3; have HB2 := Lib.hid hb2; clear hf h1 h2 h3 hb2)
      | (go_at_call 14; refine (lockNew_any _).mono ?_; rintro e w3 ⟨rfl, hl, hb3⟩; have HL := Lib.hid hl; have HB3 := Lib.hid hb3; clear hl hb3)
      | (go_at_call 16; refine (rdNew_any 3 (M : Int) _).mono ?_; rintro e w4 ⟨rfl, hr, hb4⟩; have HR := Lib.hid hr; have HB4 := Lib.hid hb4; clear hr hb4))
    have S := Lib.hid (show LwS w f mm w2.heap.size w3.heap.size v (Sp.filesAt 1) (List.replicate 8 Sp.sl0) ⟨3, (M : Int), 1, -1, Sp.mt0, none⟩ w4 from LwS.mk3 HB1.out HF.out H2.out H3.out HB2.out HL.out HB3.out HR.out HB4.out)
    clear HT HF H2 H3 HL HR HB1 HB2 HB3 HB4 HB0
    generalize w2.heap.size = l at *
    generalize w3.heap.size = p at *
    go_wp2_with (go_at_call 25; refine (spoil_any w f mm l p v _ _ (2 + (K : Int)) false _ S.out).mono ?_; rintro e w6 ⟨rfl, hs⟩; replace S := Lib.hid hs; clear hs)
    go_loopw [14] (fun i wr => (i = .int .i64 0 ∧ LwS w f mm l p v (Sp.spoilAt (2 + (K : Int)) false) (List.replicate 8 Sp.sl0) ⟨3, (M : Int), 1, -1, Sp.mt0, none⟩ wr) ∨ (i = .int .i64 1 ∧ LwS w f mm l p v (Sp.spoilAt (2 + (K : Int)) false) (Sp.oneSl 3 0) ⟨3, (M : Int), 2, 0, Sp.mt0, none⟩ wr) ∨ (i = .int .i64 2 ∧ LwS w f mm l p v (Sp.spoilAt (2 + (K : Int)) false) (Sp.oneSl 3 0) ⟨3, (M : Int), 5, 0, Sp.mt0, (some 19)⟩ wr)) (fun i _ => 10 - (intOf i).toNat)
    case atStart => exact .inl ⟨rfl, S.out⟩
    case round =>
      rcases hrel with ⟨rfl, hs⟩ | ⟨rfl, hs⟩ | ⟨rfl, hs⟩
      · replace S := Lib.hid hs
        clear hs
        go_wp2_with (go_at_call 20; refine (stepAt S.out (Sp.step_claims (by decide)) (by first | (rw [Sp.spoilAt_len]; omega) | (rw [Sp.filesAt_len]; omega)) (by simp)).mono ?_; rintro e w5 ⟨rfl, hs⟩; simp only [erV]; replace S := Lib.hid hs; clear hs)
        go_roundw
        case rel => exact .inr (.inl ⟨rfl, S.out⟩)
        case measure => simp [intOf]
      · replace S := Lib.hid hs
        clear hs
        go_wp2_with (go_at_call 20; refine (stepAt S.out (Sp.step_refuses (.inl rfl) HS1.out) (by first | (rw [Sp.spoilAt_len]; omega) | (rw [Sp.filesAt_len]; omega)) (by simp)).mono ?_; rintro e w5 ⟨rfl, hs⟩; simp only [erV]; replace S := Lib.hid hs; clear hs)
        go_roundw
        case rel => exact .inr (.inr (⟨rfl, S.out⟩))
        case measure => simp [intOf]
      · replace S := Lib.hid hs
        clear hs
        go_upto_region 13 with (go_at_call 20; refine (stepAt S.out (Sp.step_frees (by decide)) (by first | (rw [Sp.spoilAt_len]; omega) | (rw [Sp.filesAt_len]; omega)) (by simp)).mono ?_; rintro e w5 ⟨rfl, hs⟩; simp only [erV]; replace S := Lib.hid hs; clear hs)
        go_wp2_with fail
        go_loopw [18] (fun i wr => (i = .int .i64 0 ∧ LwS w f mm l p v (Sp.spoilAt (2 + (K : Int)) false) (List.replicate 8 Sp.sl0) ⟨3, (M : Int), 0, -1, Sp.mt0, (some 19)⟩ wr)) (fun i _ => 20 - (intOf i).toNat)
        case atStart => exact ⟨rfl, S.out⟩
        case round =>
          obtain ⟨rfl, hs⟩ := hrel
          replace S := Lib.hid hs
          clear hs
          go_upto_region 23 with (first
            | (go_at_call 20; refine (stepAt S.out (Sp.step_done) (by first | (rw [Sp.spoilAt_len]; omega) | (rw [Sp.filesAt_len]; omega)) (by simp)).mono ?_; rintro e w5 ⟨rfl, hs⟩; simp only [erV]; replace S := Lib.hid hs; clear hs)
            | (go_at_call 21; refine (slots_any l 0 _ _ S.out.lk).mono ?_; rintro e w8 ⟨g, cap, rfl, ho, hb⟩; replace S := Lib.hid (S.out.go hb); have HO := Lib.hid ho; clear ho hb))
          have d0 : w8.cell? ⟨g, 0, none⟩ = some (.int .i64 0) := own2_at HO.out rfl
          go_wp2_with (first
            | (go_at_call 22; refine (errIs_same 19 _).mono ?_; rintro e w9 ⟨rfl, rfl⟩)
            | (go_at_call 23; refine (rdSlot_any p _ _ S.out.rd).mono ?_; rintro e w9 ⟨rfl, rfl⟩; dsimp only))
          go_ret
          exact ⟨rfl, S.out.hb⟩
end Go.Proofs.YtmcpkhknjdiocaaGreat
namespace Go.Proofs.YtmcpkhknjdiocaaGreat
open Go.RowKit
attribute [local go_sem low] mk_extract
attribute [local go_sem] After.cell After.frozen mk_extract_end ByteArray.mk_append_mk
set_option maxRecDepth 100000 in
set_option maxHeartbeats 6400000 in
theorem refused3 (a0 a1 : Int) (K M : Nat) (hK : a0 % 398 = (K : Int)) (hM : a1 % 400 = (M : Int)) (h00 : 0 ≤ a0) (h01 : a0 ≤ 65535) (h10 : 0 ≤ a1) (h11 : a1 ≤ 65535) (hkm : ¬ (M : Int) < 2 + (K : Int)) (w : World) :
    Calls Tryz.prog 4 #[.int .u16 a0, .int .u16 a1, .bool false, .bool false] w fun e w' => e = .returned (.bool true) ∧ Below w.heap.size w w' := by
  have hK9 : K < 398 := by omega
  have hM9 : M < 400 := by omega
  have hsy := Sp.spoil_yes (k := 2 + (K : Int)) (by omega)
  have HS1 := Lib.hid (Sp.see_some (most := (M : Int)) (m2 := (Sp.mt2 2 (2 + (K : Int)))) hsy (by show 2 + (K : Int) ≤ (M : Int); omega))
  clear hsy
  go_enter Tryz.func4, Tryz.ntmps4
  go_upto_region 3 with (go_at_call 11; refine (known22_any _).mono ?_; rintro e w0 ⟨rfl, hb0⟩; have HB0 := Lib.hid hb0; clear hb0)
  go_cut [9, 10] (fun s9 s10 W => s9 = .int .i64 (2 + (K : Int)) ∧ s10 = .int .i64 (M : Int) ∧ W = w0)
  case first =>
    go_wp2_with fail
    go_meet
    case rel => exact ⟨by go_num, by go_num, rfl⟩
  case rest =>
    obtain ⟨rfl, rfl, rfl⟩ := hcut
    go_upto_region 6 with (first
      | (go_at_call 13; refine (empty_any _).mono ?_; rintro e w1 ⟨b, rfl, ht, hb1⟩; have HT := Lib.hid ht; have HB1 := Lib.hid (HB0.out.trans (hb1.mono HB0.out.size)); clear ht hb1)
      | (go_at_call 12; refine (fileNew_at1 b _ HT.out).mono ?_; rintro e w2 ⟨f, v, mm, rfl, hf, h1, h2, h3, hb2⟩; have HF := Lib.hid hf; have H2 := Lib.hid h2; have H3 := Lib.hid h3; have HB2 := Lib.hid hb2; clear hf h1 h2 h3 hb2)
      | (go_at_call 14; refine (lockNew_any _).mono ?_; rintro e w3 ⟨rfl, hl, hb3⟩; have HL := Lib.hid hl; have HB3 := Lib.hid hb3; clear hl hb3)
      | (go_at_call 16; refine (rdNew_any 3 (M : Int) _).mono ?_; rintro e w4 ⟨rfl, hr, hb4⟩; have HR := Lib.hid hr; have HB4 := Lib.hid hb4; clear hr hb4))
    have S := Lib.hid (show LwS w f mm w2.heap.size w3.heap.size v (Sp.filesAt 1) (List.replicate 8 Sp.sl0) ⟨3, (M : Int), 1, -1, Sp.mt0, none⟩ w4 from LwS.mk3 HB1.out HF.out H2.out H3.out HB2.out HL.out HB3.out HR.out HB4.out)
    clear HT HF H2 H3 HL HR HB1 HB2 HB3 HB4 HB0
    generalize w2.heap.size = l at *
    generalize w3.heap.size = p at *
    go_wp2_with (go_at_call 25; refine (spoil_any w f mm l p v _ _ (2 + (K : Int)) false _ S.out).mono ?_; rintro e w6 ⟨rfl, hs⟩; replace S := Lib.hid hs; clear hs)
    go_loopw [14] (fun i wr => (i = .int .i64 0 ∧ LwS w f mm l p v (Sp.spoilAt (2 + (K : Int)) false) (List.replicate 8 Sp.sl0) ⟨3, (M : Int), 1, -1, Sp.mt0, none⟩ wr) ∨ (i = .int .i64 1 ∧ LwS w f mm l p v (Sp.spoilAt (2 + (K : Int)) false) (Sp.oneSl 3 0) ⟨3, (M : Int), 2, 0, Sp.mt0, none⟩ wr) ∨ (i = .int .i64 2 ∧ LwS w f mm l p v (Sp.spoilAt (2 + (K : Int)) false) (Sp.oneSl 3 0) ⟨3, (M : Int), 3, 0, (Sp.mt2 2 (2 + (K : Int))), none⟩ wr) ∨ (i = .int .i64 3 ∧ LwS w f mm l p v (Sp.spoilAt (2 + (K : Int)) false) (Sp.oneSl 3 (Sp.mt2 2 (2 + (K : Int))).txn) ⟨3, (M : Int), 4, 0, (Sp.mt2 2 (2 + (K : Int))), none⟩ wr)) (fun i _ => 10 - (intOf i).toNat)
    case atStart => exact .inl ⟨rfl, S.out⟩
    case round =>
      rcases hrel with ⟨rfl, hs⟩ | ⟨rfl, hs⟩ | ⟨rfl, hs⟩ | ⟨rfl, hs⟩
      · replace S := Lib.hid hs
        clear hs
        go_wp2_with (go_at_call 20; refine (stepAt S.out (Sp.step_claims (by decide)) (by first | (rw [Sp.spoilAt_len]; omega) | (rw [Sp.filesAt_len]; omega)) (by simp)).mono ?_; rintro e w5 ⟨rfl, hs⟩; simp only [erV]; replace S := Lib.hid hs; clear hs)
        go_roundw
        case rel => exact .inr (.inl ⟨rfl, S.out⟩)
        case measure => simp [intOf]
      · replace S := Lib.hid hs
        clear hs
        go_wp2_with (go_at_call 20; refine (stepAt S.out (Sp.step_sees HS1.out) (by first | (rw [Sp.spoilAt_len]; omega) | (rw [Sp.filesAt_len]; omega)) (by simp)).mono ?_; rintro e w5 ⟨rfl, hs⟩; simp only [erV]; replace S := Lib.hid hs; clear hs)
        go_roundw
        case rel => exact .inr (.inr (.inl ⟨rfl, S.out⟩))
        case measure => simp [intOf]
      · replace S := Lib.hid hs
        clear hs
        go_wp2_with (go_at_call 20; refine (stepAt S.out (Sp.step_pub (by decide)) (by first | (rw [Sp.spoilAt_len]; omega) | (rw [Sp.filesAt_len]; omega)) (by simp)).mono ?_; rintro e w5 ⟨rfl, hs⟩; simp only [erV]; replace S := Lib.hid hs; clear hs)
        go_roundw
        case rel => exact .inr (.inr (.inr (⟨rfl, S.out⟩)))
        case measure => simp [intOf]
      · replace S := Lib.hid hs
        clear hs
        go_wp2_with fail
        go_loopw [18] (fun i wr => (i = .int .i64 0 ∧ LwS w f mm l p v (Sp.spoilAt (2 + (K : Int)) false) (Sp.oneSl 3 (Sp.mt2 2 (2 + (K : Int))).txn) ⟨3, (M : Int), 4, 0, (Sp.mt2 2 (2 + (K : Int))), none⟩ wr)) (fun i _ => 20 - (intOf i).toNat)
        case atStart => exact ⟨rfl, S.out⟩
        case round =>
          obtain ⟨rfl, hs⟩ := hrel
          replace S := Lib.hid hs
          clear hs
          go_upto_region 23 with (first
            | (go_at_call 20; refine (stepAt S.out (Sp.step_same2 HS1.out rfl) (by first | (rw [Sp.spoilAt_len]; omega) | (rw [Sp.filesAt_len]; omega)) (by simp)).mono ?_; rintro e w5 ⟨rfl, hs⟩; simp only [erV]; replace S := Lib.hid hs; clear hs)
            | (go_at_call 21; refine (slots_any l 0 _ _ S.out.lk).mono ?_; rintro e w8 ⟨g, cap, rfl, ho, hb⟩; replace S := Lib.hid (S.out.go hb); have HO := Lib.hid ho; clear ho hb))
          have hfd := field3 2 0 0 0 0 (2 + (K : Int))
          go_wp2_with (first
            | (go_at_call 23; refine (rdSlot_any p _ _ S.out.rd).mono ?_; rintro e w9 ⟨rfl, rfl⟩; dsimp only)
            | (go_at_call 24; refine (rdMeta_any p _ _ S.out.rd).mono ?_; rintro e w9 ⟨rfl, hb⟩; dsimp only; rw [show (mtV (Sp.mt2 2 (2 + (K : Int)))).toArray = #[.int .u64 2, .int .i64 0, .int .i64 0, .int .i64 0, .int .i64 0, .int .i64 (2 + (K : Int))] from rfl]; replace S := Lib.hid (S.out.go hb); clear hb))
          go_ret
          exact ⟨rfl, S.out.hb⟩
end Go.Proofs.YtmcpkhknjdiocaaGreat
namespace Go.Proofs.YtmcpkhknjdiocaaGreat
open Go.RowKit
attribute [local go_sem low] mk_extract
attribute [local go_sem] After.cell After.frozen mk_extract_end ByteArray.mk_append_mk
set_option maxRecDepth 100000 in
set_option maxHeartbeats 6400000 in
theorem refused4 (a0 a1 : Int) (K M : Nat) (hK : a0 % 398 = (K : Int)) (hM : a1 % 400 = (M : Int)) (h00 : 0 ≤ a0) (h01 : a0 ≤ 65535) (h10 : 0 ≤ a1) (h11 : a1 ≤ 65535) (hm2 : (M : Int) < 2) (w : World) :
    Calls Tryz.prog 4 #[.int .u16 a0, .int .u16 a1, .bool true, .bool true] w fun e w' => e = .returned (.bool true) ∧ Below w.heap.size w w' := by
  have hK9 : K < 398 := by omega
  have hM9 : M < 400 := by omega
  have hf1 := Sp.filesAt_choose (t := 1) (by decide) (by decide)
  have HS1 := Lib.hid (Sp.see_big (most := (M : Int)) (m2 := (Sp.mt2 1 2)) hf1 (by show (M : Int) < 2; omega))
  clear hf1
  go_enter Tryz.func4, Tryz.ntmps4
  go_upto_region 3 with (go_at_call 11; refine (known22_any _).mono ?_; rintro e w0 ⟨rfl, hb0⟩; have HB0 := Lib.hid hb0; clear hb0)
  go_cut [9, 10] (fun s9 s10 W => s9 = .int .i64 (2 + (K : Int)) ∧ s10 = .int .i64 (M : Int) ∧ W = w0)
  case first =>
    go_wp2_with fail
    go_meet
    case rel => exact ⟨by go_num, by go_num, rfl⟩
  case rest =>
    obtain ⟨rfl, rfl, rfl⟩ := hcut
    go_upto_region 6 with (first
      | (go_at_call 13; refine (empty_any _).mono ?_; rintro e w1 ⟨b, rfl, ht, hb1⟩; have HT := Lib.hid ht; have HB1 := Lib.hid (HB0.out.trans (hb1.mono HB0.out.size)); clear ht hb1)
      | (go_at_call 12; refine (fileNew_at1 b _ HT.out).mono ?_; rintro e w2 ⟨f, v, mm, rfl, hf, h1, h2, h3, hb2⟩; have HF := Lib.hid hf; have H2 := Lib.hid h2; have H3 := Lib.hid h3; have HB2 := Lib.hid hb2; clear hf h1 h2 h3 hb2)
      | (go_at_call 14; refine (lockNew_any _).mono ?_; rintro e w3 ⟨rfl, hl, hb3⟩; have HL := Lib.hid hl; have HB3 := Lib.hid hb3; clear hl hb3)
      | (go_at_call 16; refine (rdNew_any 3 (M : Int) _).mono ?_; rintro e w4 ⟨rfl, hr, hb4⟩; have HR := Lib.hid hr; have HB4 := Lib.hid hb4; clear hr hb4))
    have S := Lib.hid (show LwS w f mm w2.heap.size w3.heap.size v (Sp.filesAt 1) (List.replicate 8 Sp.sl0) ⟨3, (M : Int), 1, -1, Sp.mt0, none⟩ w4 from LwS.mk3 HB1.out HF.out H2.out H3.out HB2.out HL.out HB3.out HR.out HB4.out)
    clear HT HF H2 H3 HL HR HB1 HB2 HB3 HB4 HB0
    generalize w2.heap.size = l at *
    generalize w3.heap.size = p at *
    go_wp2_with fail
    go_loopw [14] (fun i wr => (i = .int .i64 0 ∧ LwS w f mm l p v (Sp.filesAt 1) (List.replicate 8 Sp.sl0) ⟨3, (M : Int), 1, -1, Sp.mt0, none⟩ wr) ∨ (i = .int .i64 1 ∧ LwS w f mm l p v (Sp.filesAt 1) (Sp.oneSl 3 0) ⟨3, (M : Int), 2, 0, Sp.mt0, none⟩ wr) ∨ (i = .int .i64 2 ∧ LwS w f mm l p v (Sp.filesAt 1) (Sp.oneSl 3 0) ⟨3, (M : Int), 5, 0, Sp.mt0, (some 19)⟩ wr)) (fun i _ => 10 - (intOf i).toNat)
    case atStart => exact .inl ⟨rfl, S.out⟩
    case round =>
      rcases hrel with ⟨rfl, hs⟩ | ⟨rfl, hs⟩ | ⟨rfl, hs⟩
      · replace S := Lib.hid hs
        clear hs
        go_wp2_with (go_at_call 20; refine (stepAt S.out (Sp.step_claims (by decide)) (by first | (rw [Sp.spoilAt_len]; omega) | (rw [Sp.filesAt_len]; omega)) (by simp)).mono ?_; rintro e w5 ⟨rfl, hs⟩; simp only [erV]; replace S := Lib.hid hs; clear hs)
        go_roundw
        case rel => exact .inr (.inl ⟨rfl, S.out⟩)
        case measure => simp [intOf]
      · replace S := Lib.hid hs
        clear hs
        go_wp2_with (go_at_call 20; refine (stepAt S.out (Sp.step_refuses (.inl rfl) HS1.out) (by first | (rw [Sp.spoilAt_len]; omega) | (rw [Sp.filesAt_len]; omega)) (by simp)).mono ?_; rintro e w5 ⟨rfl, hs⟩; simp only [erV]; replace S := Lib.hid hs; clear hs)
        go_roundw
        case rel => exact .inr (.inr (⟨rfl, S.out⟩))
        case measure => simp [intOf]
      · replace S := Lib.hid hs
        clear hs
        go_upto_region 13 with (go_at_call 20; refine (stepAt S.out (Sp.step_frees (by decide)) (by first | (rw [Sp.spoilAt_len]; omega) | (rw [Sp.filesAt_len]; omega)) (by simp)).mono ?_; rintro e w5 ⟨rfl, hs⟩; simp only [erV]; replace S := Lib.hid hs; clear hs)
        go_wp2_with (go_at_call 25; refine (spoil_any w f mm l p v _ _ (2 + (K : Int)) true _ S.out).mono ?_; rintro e w6 ⟨rfl, hs⟩; replace S := Lib.hid hs; clear hs)
        go_loopw [18] (fun i wr => (i = .int .i64 0 ∧ LwS w f mm l p v (Sp.spoilAt (2 + (K : Int)) true) (List.replicate 8 Sp.sl0) ⟨3, (M : Int), 0, -1, Sp.mt0, (some 19)⟩ wr)) (fun i _ => 20 - (intOf i).toNat)
        case atStart => exact ⟨rfl, S.out⟩
        case round =>
          obtain ⟨rfl, hs⟩ := hrel
          replace S := Lib.hid hs
          clear hs
          go_upto_region 23 with (first
            | (go_at_call 20; refine (stepAt S.out (Sp.step_done) (by first | (rw [Sp.spoilAt_len]; omega) | (rw [Sp.filesAt_len]; omega)) (by simp)).mono ?_; rintro e w5 ⟨rfl, hs⟩; simp only [erV]; replace S := Lib.hid hs; clear hs)
            | (go_at_call 21; refine (slots_any l 0 _ _ S.out.lk).mono ?_; rintro e w8 ⟨g, cap, rfl, ho, hb⟩; replace S := Lib.hid (S.out.go hb); have HO := Lib.hid ho; clear ho hb))
          have d0 : w8.cell? ⟨g, 0, none⟩ = some (.int .i64 0) := own2_at HO.out rfl
          go_wp2_with (first
            | (go_at_call 22; refine (errIs_same 19 _).mono ?_; rintro e w9 ⟨rfl, rfl⟩)
            | (go_at_call 23; refine (rdSlot_any p _ _ S.out.rd).mono ?_; rintro e w9 ⟨rfl, rfl⟩; dsimp only))
          go_ret
          exact ⟨rfl, S.out.hb⟩
end Go.Proofs.YtmcpkhknjdiocaaGreat
namespace Go.Proofs.YtmcpkhknjdiocaaGreat
open Go.RowKit
attribute [local go_sem low] mk_extract
attribute [local go_sem] After.cell After.frozen mk_extract_end ByteArray.mk_append_mk
set_option maxRecDepth 100000 in
set_option maxHeartbeats 6400000 in
theorem refused5 (a0 a1 : Int) (K M : Nat) (hK : a0 % 398 = (K : Int)) (hM : a1 % 400 = (M : Int)) (h00 : 0 ≤ a0) (h01 : a0 ≤ 65535) (h10 : 0 ≤ a1) (h11 : a1 ≤ 65535) (hm2 : ¬ (M : Int) < 2) (w : World) :
    Calls Tryz.prog 4 #[.int .u16 a0, .int .u16 a1, .bool true, .bool true] w fun e w' => e = .returned (.bool true) ∧ Below w.heap.size w w' := by
  have hK9 : K < 398 := by omega
  have hM9 : M < 400 := by omega
  have hf1 := Sp.filesAt_choose (t := 1) (by decide) (by decide)
  have hsp := Sp.spoil_no (2 + (K : Int))
  have HS1 := Lib.hid (Sp.see_some (most := (M : Int)) (m2 := (Sp.mt2 1 2)) hf1 (by show 2 ≤ (M : Int); omega))
  have HS2 := Lib.hid (Sp.see_none (most := (M : Int)) hsp)
  clear hf1 hsp
  go_enter Tryz.func4, Tryz.ntmps4
  go_upto_region 3 with (go_at_call 11; refine (known22_any _).mono ?_; rintro e w0 ⟨rfl, hb0⟩; have HB0 := Lib.hid hb0; clear hb0)
  go_cut [9, 10] (fun s9 s10 W => s9 = .int .i64 (2 + (K : Int)) ∧ s10 = .int .i64 (M : Int) ∧ W = w0)
  case first =>
    go_wp2_with fail
    go_meet
    case rel => exact ⟨by go_num, by go_num, rfl⟩
  case rest =>
    obtain ⟨rfl, rfl, rfl⟩ := hcut
    go_upto_region 6 with (first
      | (go_at_call 13; refine (empty_any _).mono ?_; rintro e w1 ⟨b, rfl, ht, hb1⟩; have HT := Lib.hid ht; have HB1 := Lib.hid (HB0.out.trans (hb1.mono HB0.out.size)); clear ht hb1)
      | (go_at_call 12; refine (fileNew_at1 b _ HT.out).mono ?_; rintro e w2 ⟨f, v, mm, rfl, hf, h1, h2, h3, hb2⟩; have HF := Lib.hid hf; have H2 := Lib.hid h2; have H3 := Lib.hid h3; have HB2 := Lib.hid hb2; clear hf h1 h2 h3 hb2)
      | (go_at_call 14; refine (lockNew_any _).mono ?_; rintro e w3 ⟨rfl, hl, hb3⟩; have HL := Lib.hid hl; have HB3 := Lib.hid hb3; clear hl hb3)
      | (go_at_call 16; refine (rdNew_any 3 (M : Int) _).mono ?_; rintro e w4 ⟨rfl, hr, hb4⟩; have HR := Lib.hid hr; have HB4 := Lib.hid hb4; clear hr hb4))
    have S := Lib.hid (show LwS w f mm w2.heap.size w3.heap.size v (Sp.filesAt 1) (List.replicate 8 Sp.sl0) ⟨3, (M : Int), 1, -1, Sp.mt0, none⟩ w4 from LwS.mk3 HB1.out HF.out H2.out H3.out HB2.out HL.out HB3.out HR.out HB4.out)
    clear HT HF H2 H3 HL HR HB1 HB2 HB3 HB4 HB0
    generalize w2.heap.size = l at *
    generalize w3.heap.size = p at *
    go_wp2_with fail
    go_loopw [14] (fun i wr => (i = .int .i64 0 ∧ LwS w f mm l p v (Sp.filesAt 1) (List.replicate 8 Sp.sl0) ⟨3, (M : Int), 1, -1, Sp.mt0, none⟩ wr) ∨ (i = .int .i64 1 ∧ LwS w f mm l p v (Sp.filesAt 1) (Sp.oneSl 3 0) ⟨3, (M : Int), 2, 0, Sp.mt0, none⟩ wr) ∨ (i = .int .i64 2 ∧ LwS w f mm l p v (Sp.filesAt 1) (Sp.oneSl 3 0) ⟨3, (M : Int), 3, 0, (Sp.mt2 1 2), none⟩ wr) ∨ (i = .int .i64 3 ∧ LwS w f mm l p v (Sp.filesAt 1) (Sp.oneSl 3 (Sp.mt2 1 2).txn) ⟨3, (M : Int), 4, 0, (Sp.mt2 1 2), none⟩ wr)) (fun i _ => 10 - (intOf i).toNat)
    case atStart => exact .inl ⟨rfl, S.out⟩
    case round =>
      rcases hrel with ⟨rfl, hs⟩ | ⟨rfl, hs⟩ | ⟨rfl, hs⟩ | ⟨rfl, hs⟩
      · replace S := Lib.hid hs
        clear hs
        go_wp2_with (go_at_call 20; refine (stepAt S.out (Sp.step_claims (by decide)) (by first | (rw [Sp.spoilAt_len]; omega) | (rw [Sp.filesAt_len]; omega)) (by simp)).mono ?_; rintro e w5 ⟨rfl, hs⟩; simp only [erV]; replace S := Lib.hid hs; clear hs)
        go_roundw
        case rel => exact .inr (.inl ⟨rfl, S.out⟩)
        case measure => simp [intOf]
      · replace S := Lib.hid hs
        clear hs
        go_wp2_with (go_at_call 20; refine (stepAt S.out (Sp.step_sees HS1.out) (by first | (rw [Sp.spoilAt_len]; omega) | (rw [Sp.filesAt_len]; omega)) (by simp)).mono ?_; rintro e w5 ⟨rfl, hs⟩; simp only [erV]; replace S := Lib.hid hs; clear hs)
        go_roundw
        case rel => exact .inr (.inr (.inl ⟨rfl, S.out⟩))
        case measure => simp [intOf]
      · replace S := Lib.hid hs
        clear hs
        go_wp2_with (go_at_call 20; refine (stepAt S.out (Sp.step_pub (by decide)) (by first | (rw [Sp.spoilAt_len]; omega) | (rw [Sp.filesAt_len]; omega)) (by simp)).mono ?_; rintro e w5 ⟨rfl, hs⟩; simp only [erV]; replace S := Lib.hid hs; clear hs)
        go_roundw
        case rel => exact .inr (.inr (.inr (⟨rfl, S.out⟩)))
        case measure => simp [intOf]
      · replace S := Lib.hid hs
        clear hs
        go_wp2_with (go_at_call 25; refine (spoil_any w f mm l p v _ _ (2 + (K : Int)) true _ S.out).mono ?_; rintro e w6 ⟨rfl, hs⟩; replace S := Lib.hid hs; clear hs)
        go_loopw [18] (fun i wr => (i = .int .i64 0 ∧ LwS w f mm l p v (Sp.spoilAt (2 + (K : Int)) true) (Sp.oneSl 3 (Sp.mt2 1 2).txn) ⟨3, (M : Int), 4, 0, (Sp.mt2 1 2), none⟩ wr) ∨ (i = .int .i64 1 ∧ LwS w f mm l p v (Sp.spoilAt (2 + (K : Int)) true) (Sp.oneSl 3 (Sp.mt2 1 2).txn) ⟨3, (M : Int), 5, 0, (Sp.mt2 1 2), (some 12)⟩ wr)) (fun i _ => 20 - (intOf i).toNat)
        case atStart => exact .inl ⟨rfl, S.out⟩
        case round =>
          rcases hrel with ⟨rfl, hs⟩ | ⟨rfl, hs⟩
          · replace S := Lib.hid hs
            clear hs
            go_wp2_with (go_at_call 20; refine (stepAt S.out (Sp.step_refuses (.inr rfl) HS2.out) (by first | (rw [Sp.spoilAt_len]; omega) | (rw [Sp.filesAt_len]; omega)) (by simp)).mono ?_; rintro e w5 ⟨rfl, hs⟩; simp only [erV]; replace S := Lib.hid hs; clear hs)
            go_roundw
            case rel => exact .inr (⟨rfl, S.out⟩)
            case measure => simp [intOf]
          · replace S := Lib.hid hs
            clear hs
            go_upto_region 23 with (first
              | (go_at_call 20; refine (stepAt S.out (Sp.step_frees (by decide)) (by first | (rw [Sp.spoilAt_len]; omega) | (rw [Sp.filesAt_len]; omega)) (by simp)).mono ?_; rintro e w5 ⟨rfl, hs⟩; simp only [erV]; replace S := Lib.hid hs; clear hs)
              | (go_at_call 21; refine (slots_any l 0 _ _ S.out.lk).mono ?_; rintro e w8 ⟨g, cap, rfl, ho, hb⟩; replace S := Lib.hid (S.out.go hb); have HO := Lib.hid ho; clear ho hb))
            have d0 : w8.cell? ⟨g, 0, none⟩ = some (.int .i64 0) := own2_at HO.out rfl
            go_wp2_with (first
              | (go_at_call 22; refine (errIs_same 12 _).mono ?_; rintro e w9 ⟨rfl, rfl⟩)
              | (go_at_call 23; refine (rdSlot_any p _ _ S.out.rd).mono ?_; rintro e w9 ⟨rfl, rfl⟩; dsimp only))
            go_ret
            exact ⟨rfl, S.out.hb⟩
end Go.Proofs.YtmcpkhknjdiocaaGreat
namespace Go.Proofs.YtmcpkhknjdiocaaGreat
open Go.RowKit
attribute [local go_sem low] mk_extract
attribute [local go_sem] After.cell After.frozen mk_extract_end ByteArray.mk_append_mk
set_option maxRecDepth 100000 in
set_option maxHeartbeats 6400000 in
theorem refused6 (a0 a1 : Int) (K M : Nat) (hK : a0 % 398 = (K : Int)) (hM : a1 % 400 = (M : Int)) (h00 : 0 ≤ a0) (h01 : a0 ≤ 65535) (h10 : 0 ≤ a1) (h11 : a1 ≤ 65535) (hm2 : ¬ (M : Int) < 2) (hkm : (M : Int) < 2 + (K : Int)) (w : World) :
    Calls Tryz.prog 4 #[.int .u16 a0, .int .u16 a1, .bool false, .bool true] w fun e w' => e = .returned (.bool true) ∧ Below w.heap.size w w' := by
  have hK9 : K < 398 := by omega
  have hM9 : M < 400 := by omega
  have hf1 := Sp.filesAt_choose (t := 1) (by decide) (by decide)
  have hsy := Sp.spoil_yes (k := 2 + (K : Int)) (by omega)
  have HS1 := Lib.hid (Sp.see_some (most := (M : Int)) (m2 := (Sp.mt2 1 2)) hf1 (by show 2 ≤ (M : Int); omega))
  have HS2 := Lib.hid (Sp.see_big (most := (M : Int)) (m2 := (Sp.mt2 2 (2 + (K : Int)))) hsy (by show (M : Int) < 2 + (K : Int); omega))
  clear hf1 hsy
  go_enter Tryz.func4, Tryz.ntmps4
  go_upto_region 3 with (go_at_call 11; refine (known22_any _).mono ?_; rintro e w0 ⟨rfl, hb0⟩; have HB0 := Lib.hid hb0; clear hb0)
  go_cut [9, 10] (fun s9 s10 W => s9 = .int .i64 (2 + (K : Int)) ∧ s10 = .int .i64 (M : Int) ∧ W = w0)
  case first =>
    go_wp2_with fail
    go_meet
    case rel => exact ⟨by go_num, by go_num, rfl⟩
  case rest =>
    obtain ⟨rfl, rfl, rfl⟩ := hcut
    go_upto_region 6 with (first
      | (go_at_call 13; refine (empty_any _).mono ?_; rintro e w1 ⟨b, rfl, ht, hb1⟩; have HT := Lib.hid ht; have HB1 := Lib.hid (HB0.out.trans (hb1.mono HB0.out.size)); clear ht hb1)
      | (go_at_call 12; refine (fileNew_at1 b _ HT.out).mono ?_; rintro e w2 ⟨f, v, mm, rfl, hf, h1, h2, h3, hb2⟩; have HF := Lib.hid hf; have H2 := Lib.hid h2; have H3 := Lib.hid h3; have HB2 := Lib.hid hb2; clear hf h1 h2 h3 hb2)
      | (go_at_call 14; refine (lockNew_any _).mono ?_; rintro e w3 ⟨rfl, hl, hb3⟩; have HL := Lib.hid hl; have HB3 := Lib.hid hb3; clear hl hb3)
      | (go_at_call 16; refine (rdNew_any 3 (M : Int) _).mono ?_; rintro e w4 ⟨rfl, hr, hb4⟩; have HR := Lib.hid hr; have HB4 := Lib.hid hb4; clear hr hb4))
    have S := Lib.hid (show LwS w f mm w2.heap.size w3.heap.size v (Sp.filesAt 1) (List.replicate 8 Sp.sl0) ⟨3, (M : Int), 1, -1, Sp.mt0, none⟩ w4 from LwS.mk3 HB1.out HF.out H2.out H3.out HB2.out HL.out HB3.out HR.out HB4.out)
    clear HT HF H2 H3 HL HR HB1 HB2 HB3 HB4 HB0
    generalize w2.heap.size = l at *
    generalize w3.heap.size = p at *
    go_wp2_with fail
    go_loopw [14] (fun i wr => (i = .int .i64 0 ∧ LwS w f mm l p v (Sp.filesAt 1) (List.replicate 8 Sp.sl0) ⟨3, (M : Int), 1, -1, Sp.mt0, none⟩ wr) ∨ (i = .int .i64 1 ∧ LwS w f mm l p v (Sp.filesAt 1) (Sp.oneSl 3 0) ⟨3, (M : Int), 2, 0, Sp.mt0, none⟩ wr) ∨ (i = .int .i64 2 ∧ LwS w f mm l p v (Sp.filesAt 1) (Sp.oneSl 3 0) ⟨3, (M : Int), 3, 0, (Sp.mt2 1 2), none⟩ wr) ∨ (i = .int .i64 3 ∧ LwS w f mm l p v (Sp.filesAt 1) (Sp.oneSl 3 (Sp.mt2 1 2).txn) ⟨3, (M : Int), 4, 0, (Sp.mt2 1 2), none⟩ wr)) (fun i _ => 10 - (intOf i).toNat)
    case atStart => exact .inl ⟨rfl, S.out⟩
    case round =>
      rcases hrel with ⟨rfl, hs⟩ | ⟨rfl, hs⟩ | ⟨rfl, hs⟩ | ⟨rfl, hs⟩
      · replace S := Lib.hid hs
        clear hs
        go_wp2_with (go_at_call 20; refine (stepAt S.out (Sp.step_claims (by decide)) (by first | (rw [Sp.spoilAt_len]; omega) | (rw [Sp.filesAt_len]; omega)) (by simp)).mono ?_; rintro e w5 ⟨rfl, hs⟩; simp only [erV]; replace S := Lib.hid hs; clear hs)
        go_roundw
        case rel => exact .inr (.inl ⟨rfl, S.out⟩)
        case measure => simp [intOf]
      · replace S := Lib.hid hs
        clear hs
        go_wp2_with (go_at_call 20; refine (stepAt S.out (Sp.step_sees HS1.out) (by first | (rw [Sp.spoilAt_len]; omega) | (rw [Sp.filesAt_len]; omega)) (by simp)).mono ?_; rintro e w5 ⟨rfl, hs⟩; simp only [erV]; replace S := Lib.hid hs; clear hs)
        go_roundw
        case rel => exact .inr (.inr (.inl ⟨rfl, S.out⟩))
        case measure => simp [intOf]
      · replace S := Lib.hid hs
        clear hs
        go_wp2_with (go_at_call 20; refine (stepAt S.out (Sp.step_pub (by decide)) (by first | (rw [Sp.spoilAt_len]; omega) | (rw [Sp.filesAt_len]; omega)) (by simp)).mono ?_; rintro e w5 ⟨rfl, hs⟩; simp only [erV]; replace S := Lib.hid hs; clear hs)
        go_roundw
        case rel => exact .inr (.inr (.inr (⟨rfl, S.out⟩)))
        case measure => simp [intOf]
      · replace S := Lib.hid hs
        clear hs
        go_wp2_with (go_at_call 25; refine (spoil_any w f mm l p v _ _ (2 + (K : Int)) false _ S.out).mono ?_; rintro e w6 ⟨rfl, hs⟩; replace S := Lib.hid hs; clear hs)
        go_loopw [18] (fun i wr => (i = .int .i64 0 ∧ LwS w f mm l p v (Sp.spoilAt (2 + (K : Int)) false) (Sp.oneSl 3 (Sp.mt2 1 2).txn) ⟨3, (M : Int), 4, 0, (Sp.mt2 1 2), none⟩ wr) ∨ (i = .int .i64 1 ∧ LwS w f mm l p v (Sp.spoilAt (2 + (K : Int)) false) (Sp.oneSl 3 (Sp.mt2 1 2).txn) ⟨3, (M : Int), 5, 0, (Sp.mt2 1 2), (some 19)⟩ wr)) (fun i _ => 20 - (intOf i).toNat)
        case atStart => exact .inl ⟨rfl, S.out⟩
        case round =>
          rcases hrel with ⟨rfl, hs⟩ | ⟨rfl, hs⟩
          · replace S := Lib.hid hs
            clear hs
            go_wp2_with (go_at_call 20; refine (stepAt S.out (Sp.step_refuses (.inr rfl) HS2.out) (by first | (rw [Sp.spoilAt_len]; omega) | (rw [Sp.filesAt_len]; omega)) (by simp)).mono ?_; rintro e w5 ⟨rfl, hs⟩; simp only [erV]; replace S := Lib.hid hs; clear hs)
            go_roundw
            case rel => exact .inr (⟨rfl, S.out⟩)
            case measure => simp [intOf]
          · replace S := Lib.hid hs
            clear hs
            go_upto_region 23 with (first
              | (go_at_call 20; refine (stepAt S.out (Sp.step_frees (by decide)) (by first | (rw [Sp.spoilAt_len]; omega) | (rw [Sp.filesAt_len]; omega)) (by simp)).mono ?_; rintro e w5 ⟨rfl, hs⟩; simp only [erV]; replace S := Lib.hid hs; clear hs)
              | (go_at_call 21; refine (slots_any l 0 _ _ S.out.lk).mono ?_; rintro e w8 ⟨g, cap, rfl, ho, hb⟩; replace S := Lib.hid (S.out.go hb); have HO := Lib.hid ho; clear ho hb))
            have d0 : w8.cell? ⟨g, 0, none⟩ = some (.int .i64 0) := own2_at HO.out rfl
            go_wp2_with (first
              | (go_at_call 22; refine (errIs_same 19 _).mono ?_; rintro e w9 ⟨rfl, rfl⟩)
              | (go_at_call 23; refine (rdSlot_any p _ _ S.out.rd).mono ?_; rintro e w9 ⟨rfl, rfl⟩; dsimp only))
            go_ret
            exact ⟨rfl, S.out.hb⟩
end Go.Proofs.YtmcpkhknjdiocaaGreat
namespace Go.Proofs.YtmcpkhknjdiocaaGreat
open Go.RowKit
attribute [local go_sem low] mk_extract
attribute [local go_sem] After.cell After.frozen mk_extract_end ByteArray.mk_append_mk
set_option maxRecDepth 100000 in
set_option maxHeartbeats 6400000 in
theorem refused7 (a0 a1 : Int) (K M : Nat) (hK : a0 % 398 = (K : Int)) (hM : a1 % 400 = (M : Int)) (h00 : 0 ≤ a0) (h01 : a0 ≤ 65535) (h10 : 0 ≤ a1) (h11 : a1 ≤ 65535) (hm2 : ¬ (M : Int) < 2) (hkm : ¬ (M : Int) < 2 + (K : Int)) (w : World) :
    Calls Tryz.prog 4 #[.int .u16 a0, .int .u16 a1, .bool false, .bool true] w fun e w' => e = .returned (.bool true) ∧ Below w.heap.size w w' := by
  have hK9 : K < 398 := by omega
  have hM9 : M < 400 := by omega
  have hf1 := Sp.filesAt_choose (t := 1) (by decide) (by decide)
  have hsy := Sp.spoil_yes (k := 2 + (K : Int)) (by omega)
  have HS1 := Lib.hid (Sp.see_some (most := (M : Int)) (m2 := (Sp.mt2 1 2)) hf1 (by show 2 ≤ (M : Int); omega))
  have HS2 := Lib.hid (Sp.see_some (most := (M : Int)) (m2 := (Sp.mt2 2 (2 + (K : Int)))) hsy (by show 2 + (K : Int) ≤ (M : Int); omega))
  clear hf1 hsy
  go_enter Tryz.func4, Tryz.ntmps4
  go_upto_region 3 with (go_at_call 11; refine (known22_any _).mono ?_; rintro e w0 ⟨rfl, hb0⟩; have HB0 := Lib.hid hb0; clear hb0)
  go_cut [9, 10] (fun s9 s10 W => s9 = .int .i64 (2 + (K : Int)) ∧ s10 = .int .i64 (M : Int) ∧ W = w0)
  case first =>
    go_wp2_with fail
    go_meet
    case rel => exact ⟨by go_num, by go_num, rfl⟩
  case rest =>
    obtain ⟨rfl, rfl, rfl⟩ := hcut
    go_upto_region 6 with (first
      | (go_at_call 13; refine (empty_any _).mono ?_; rintro e w1 ⟨b, rfl, ht, hb1⟩; have HT := Lib.hid ht; have HB1 := Lib.hid (HB0.out.trans (hb1.mono HB0.out.size)); clear ht hb1)
      | (go_at_call 12; refine (fileNew_at1 b _ HT.out).mono ?_; rintro e w2 ⟨f, v, mm, rfl, hf, h1, h2, h3, hb2⟩; have HF := Lib.hid hf; have H2 := Lib.hid h2; have H3 := Lib.hid h3; have HB2 := Lib.hid hb2; clear hf h1 h2 h3 hb2)
      | (go_at_call 14; refine (lockNew_any _).mono ?_; rintro e w3 ⟨rfl, hl, hb3⟩; have HL := Lib.hid hl; have HB3 := Lib.hid hb3; clear hl hb3)
      | (go_at_call 16; refine (rdNew_any 3 (M : Int) _).mono ?_; rintro e w4 ⟨rfl, hr, hb4⟩; have HR := Lib.hid hr; have HB4 := Lib.hid hb4; clear hr hb4))
    have S := Lib.hid (show LwS w f mm w2.heap.size w3.heap.size v (Sp.filesAt 1) (List.replicate 8 Sp.sl0) ⟨3, (M : Int), 1, -1, Sp.mt0, none⟩ w4 from LwS.mk3 HB1.out HF.out H2.out H3.out HB2.out HL.out HB3.out HR.out HB4.out)
    clear HT HF H2 H3 HL HR HB1 HB2 HB3 HB4 HB0
    generalize w2.heap.size = l at *
    generalize w3.heap.size = p at *
    go_wp2_with fail
    go_loopw [14] (fun i wr => (i = .int .i64 0 ∧ LwS w f mm l p v (Sp.filesAt 1) (List.replicate 8 Sp.sl0) ⟨3, (M : Int), 1, -1, Sp.mt0, none⟩ wr) ∨ (i = .int .i64 1 ∧ LwS w f mm l p v (Sp.filesAt 1) (Sp.oneSl 3 0) ⟨3, (M : Int), 2, 0, Sp.mt0, none⟩ wr) ∨ (i = .int .i64 2 ∧ LwS w f mm l p v (Sp.filesAt 1) (Sp.oneSl 3 0) ⟨3, (M : Int), 3, 0, (Sp.mt2 1 2), none⟩ wr) ∨ (i = .int .i64 3 ∧ LwS w f mm l p v (Sp.filesAt 1) (Sp.oneSl 3 (Sp.mt2 1 2).txn) ⟨3, (M : Int), 4, 0, (Sp.mt2 1 2), none⟩ wr)) (fun i _ => 10 - (intOf i).toNat)
    case atStart => exact .inl ⟨rfl, S.out⟩
    case round =>
      rcases hrel with ⟨rfl, hs⟩ | ⟨rfl, hs⟩ | ⟨rfl, hs⟩ | ⟨rfl, hs⟩
      · replace S := Lib.hid hs
        clear hs
        go_wp2_with (go_at_call 20; refine (stepAt S.out (Sp.step_claims (by decide)) (by first | (rw [Sp.spoilAt_len]; omega) | (rw [Sp.filesAt_len]; omega)) (by simp)).mono ?_; rintro e w5 ⟨rfl, hs⟩; simp only [erV]; replace S := Lib.hid hs; clear hs)
        go_roundw
        case rel => exact .inr (.inl ⟨rfl, S.out⟩)
        case measure => simp [intOf]
      · replace S := Lib.hid hs
        clear hs
        go_wp2_with (go_at_call 20; refine (stepAt S.out (Sp.step_sees HS1.out) (by first | (rw [Sp.spoilAt_len]; omega) | (rw [Sp.filesAt_len]; omega)) (by simp)).mono ?_; rintro e w5 ⟨rfl, hs⟩; simp only [erV]; replace S := Lib.hid hs; clear hs)
        go_roundw
        case rel => exact .inr (.inr (.inl ⟨rfl, S.out⟩))
        case measure => simp [intOf]
      · replace S := Lib.hid hs
        clear hs
        go_wp2_with (go_at_call 20; refine (stepAt S.out (Sp.step_pub (by decide)) (by first | (rw [Sp.spoilAt_len]; omega) | (rw [Sp.filesAt_len]; omega)) (by simp)).mono ?_; rintro e w5 ⟨rfl, hs⟩; simp only [erV]; replace S := Lib.hid hs; clear hs)
        go_roundw
        case rel => exact .inr (.inr (.inr (⟨rfl, S.out⟩)))
        case measure => simp [intOf]
      · replace S := Lib.hid hs
        clear hs
        go_wp2_with (go_at_call 25; refine (spoil_any w f mm l p v _ _ (2 + (K : Int)) false _ S.out).mono ?_; rintro e w6 ⟨rfl, hs⟩; replace S := Lib.hid hs; clear hs)
        go_loopw [18] (fun i wr => (i = .int .i64 0 ∧ LwS w f mm l p v (Sp.spoilAt (2 + (K : Int)) false) (Sp.oneSl 3 (Sp.mt2 1 2).txn) ⟨3, (M : Int), 4, 0, (Sp.mt2 1 2), none⟩ wr) ∨ (i = .int .i64 1 ∧ LwS w f mm l p v (Sp.spoilAt (2 + (K : Int)) false) (Sp.oneSl 3 (Sp.mt2 1 2).txn) ⟨3, (M : Int), 3, 0, (Sp.mt2 2 (2 + (K : Int))), none⟩ wr) ∨ (i = .int .i64 2 ∧ LwS w f mm l p v (Sp.spoilAt (2 + (K : Int)) false) (Sp.oneSl 3 (Sp.mt2 2 (2 + (K : Int))).txn) ⟨3, (M : Int), 4, 0, (Sp.mt2 2 (2 + (K : Int))), none⟩ wr)) (fun i _ => 20 - (intOf i).toNat)
        case atStart => exact .inl ⟨rfl, S.out⟩
        case round =>
          rcases hrel with ⟨rfl, hs⟩ | ⟨rfl, hs⟩ | ⟨rfl, hs⟩
          · replace S := Lib.hid hs
            clear hs
            go_wp2_with (go_at_call 20; refine (stepAt S.out (Sp.step_other2 HS2.out (by show (2 : Int) ≠ 1; decide)) (by first | (rw [Sp.spoilAt_len]; omega) | (rw [Sp.filesAt_len]; omega)) (by simp)).mono ?_; rintro e w5 ⟨rfl, hs⟩; simp only [erV]; replace S := Lib.hid hs; clear hs)
            go_roundw
            case rel => exact .inr (.inl ⟨rfl, S.out⟩)
            case measure => simp [intOf]
          · replace S := Lib.hid hs
            clear hs
            go_wp2_with (go_at_call 20; refine (stepAt S.out (Sp.step_pub (by decide)) (by first | (rw [Sp.spoilAt_len]; omega) | (rw [Sp.filesAt_len]; omega)) (by simp)).mono ?_; rintro e w5 ⟨rfl, hs⟩; simp only [erV]; replace S := Lib.hid hs; clear hs)
            go_roundw
            case rel => exact .inr (.inr (⟨rfl, S.out⟩))
            case measure => simp [intOf]
          · replace S := Lib.hid hs
            clear hs
            go_upto_region 23 with (first
              | (go_at_call 20; refine (stepAt S.out (Sp.step_same2 HS2.out rfl) (by first | (rw [Sp.spoilAt_len]; omega) | (rw [Sp.filesAt_len]; omega)) (by simp)).mono ?_; rintro e w5 ⟨rfl, hs⟩; simp only [erV]; replace S := Lib.hid hs; clear hs)
              | (go_at_call 21; refine (slots_any l 0 _ _ S.out.lk).mono ?_; rintro e w8 ⟨g, cap, rfl, ho, hb⟩; replace S := Lib.hid (S.out.go hb); have HO := Lib.hid ho; clear ho hb))
            have hfd := field3 2 0 0 0 0 (2 + (K : Int))
            go_wp2_with (first
              | (go_at_call 23; refine (rdSlot_any p _ _ S.out.rd).mono ?_; rintro e w9 ⟨rfl, rfl⟩; dsimp only)
              | (go_at_call 24; refine (rdMeta_any p _ _ S.out.rd).mono ?_; rintro e w9 ⟨rfl, hb⟩; dsimp only; rw [show (mtV (Sp.mt2 2 (2 + (K : Int)))).toArray = #[.int .u64 2, .int .i64 0, .int .i64 0, .int .i64 0, .int .i64 0, .int .i64 (2 + (K : Int))] from rfl]; replace S := Lib.hid (S.out.go hb); clear hb))
            go_ret
            exact ⟨rfl, S.out.hb⟩
end Go.Proofs.YtmcpkhknjdiocaaGreat
namespace Go.Proofs.YtmcpkhknjdiocaaGreat
open Go.RowKit
attribute [local go_sem low] mk_extract
attribute [local go_sem] After.cell After.frozen mk_extract_end ByteArray.mk_append_mk
set_option maxRecDepth 100000 in
set_option maxHeartbeats 6400000 in
theorem refused8 (a0 a1 : Int) (K M : Nat) (hK : a0 % 398 = (K : Int)) (hM : a1 % 400 = (M : Int)) (h00 : 0 ≤ a0) (h01 : a0 ≤ 65535) (h10 : 0 ≤ a1) (h11 : a1 ≤ 65535) (hm2 : (M : Int) < 2) (w : World) :
    Calls Tryz.prog 4 #[.int .u16 a0, .int .u16 a1, .bool false, .bool true] w fun e w' => e = .returned (.bool true) ∧ Below w.heap.size w w' := by
  have hK9 : K < 398 := by omega
  have hM9 : M < 400 := by omega
  have hf1 := Sp.filesAt_choose (t := 1) (by decide) (by decide)
  have HS1 := Lib.hid (Sp.see_big (most := (M : Int)) (m2 := (Sp.mt2 1 2)) hf1 (by show (M : Int) < 2; omega))
  clear hf1
  go_enter Tryz.func4, Tryz.ntmps4
  go_upto_region 3 with (go_at_call 11; refine (known22_any _).mono ?_; rintro e w0 ⟨rfl, hb0⟩; have HB0 := Lib.hid hb0; clear hb0)
  go_cut [9, 10] (fun s9 s10 W => s9 = .int .i64 (2 + (K : Int)) ∧ s10 = .int .i64 (M : Int) ∧ W = w0)
  case first =>
    go_wp2_with fail
    go_meet
    case rel => exact ⟨by go_num, by go_num, rfl⟩
  case rest =>
    obtain ⟨rfl, rfl, rfl⟩ := hcut
    go_upto_region 6 with (first
      | (go_at_call 13; refine (empty_any _).mono ?_; rintro e w1 ⟨b, rfl, ht, hb1⟩; have HT := Lib.hid ht; have HB1 := Lib.hid (HB0.out.trans (hb1.mono HB0.out.size)); clear ht hb1)
      | (go_at_call 12; refine (fileNew_at1 b _ HT.out).mono ?_; rintro e w2 ⟨f, v, mm, rfl, hf, h1, h2, h3, hb2⟩; have HF := Lib.hid hf; have H2 := Lib.hid h2; have H3 := Lib.hid h3; have HB2 := Lib.hid hb2; clear hf h1 h2 h3 hb2)
      | (go_at_call 14; refine (lockNew_any _).mono ?_; rintro e w3 ⟨rfl, hl, hb3⟩; have HL := Lib.hid hl; have HB3 := Lib.hid hb3; clear hl hb3)
      | (go_at_call 16; refine (rdNew_any 3 (M : Int) _).mono ?_; rintro e w4 ⟨rfl, hr, hb4⟩; have HR := Lib.hid hr; have HB4 := Lib.hid hb4; clear hr hb4))
    have S := Lib.hid (show LwS w f mm w2.heap.size w3.heap.size v (Sp.filesAt 1) (List.replicate 8 Sp.sl0) ⟨3, (M : Int), 1, -1, Sp.mt0, none⟩ w4 from LwS.mk3 HB1.out HF.out H2.out H3.out HB2.out HL.out HB3.out HR.out HB4.out)
    clear HT HF H2 H3 HL HR HB1 HB2 HB3 HB4 HB0
    generalize w2.heap.size = l at *
    generalize w3.heap.size = p at *
    go_wp2_with fail
    go_loopw [14] (fun i wr => (i = .int .i64 0 ∧ LwS w f mm l p v (Sp.filesAt 1) (List.replicate 8 Sp.sl0) ⟨3, (M : Int), 1, -1, Sp.mt0, none⟩ wr) ∨ (i = .int .i64 1 ∧ LwS w f mm l p v (Sp.filesAt 1) (Sp.oneSl 3 0) ⟨3, (M : Int), 2, 0, Sp.mt0, none⟩ wr) ∨ (i = .int .i64 2 ∧ LwS w f mm l p v (Sp.filesAt 1) (Sp.oneSl 3 0) ⟨3, (M : Int), 5, 0, Sp.mt0, (some 19)⟩ wr)) (fun i _ => 10 - (intOf i).toNat)
    case atStart => exact .inl ⟨rfl, S.out⟩
    case round =>
      rcases hrel with ⟨rfl, hs⟩ | ⟨rfl, hs⟩ | ⟨rfl, hs⟩
      · replace S := Lib.hid hs
        clear hs
        go_wp2_with (go_at_call 20; refine (stepAt S.out (Sp.step_claims (by decide)) (by first | (rw [Sp.spoilAt_len]; omega) | (rw [Sp.filesAt_len]; omega)) (by simp)).mono ?_; rintro e w5 ⟨rfl, hs⟩; simp only [erV]; replace S := Lib.hid hs; clear hs)
        go_roundw
        case rel => exact .inr (.inl ⟨rfl, S.out⟩)
        case measure => simp [intOf]
      · replace S := Lib.hid hs
        clear hs
        go_wp2_with (go_at_call 20; refine (stepAt S.out (Sp.step_refuses (.inl rfl) HS1.out) (by first | (rw [Sp.spoilAt_len]; omega) | (rw [Sp.filesAt_len]; omega)) (by simp)).mono ?_; rintro e w5 ⟨rfl, hs⟩; simp only [erV]; replace S := Lib.hid hs; clear hs)
        go_roundw
        case rel => exact .inr (.inr (⟨rfl, S.out⟩))
        case measure => simp [intOf]
      · replace S := Lib.hid hs
        clear hs
        go_upto_region 13 with (go_at_call 20; refine (stepAt S.out (Sp.step_frees (by decide)) (by first | (rw [Sp.spoilAt_len]; omega) | (rw [Sp.filesAt_len]; omega)) (by simp)).mono ?_; rintro e w5 ⟨rfl, hs⟩; simp only [erV]; replace S := Lib.hid hs; clear hs)
        go_wp2_with (go_at_call 25; refine (spoil_any w f mm l p v _ _ (2 + (K : Int)) false _ S.out).mono ?_; rintro e w6 ⟨rfl, hs⟩; replace S := Lib.hid hs; clear hs)
        go_loopw [18] (fun i wr => (i = .int .i64 0 ∧ LwS w f mm l p v (Sp.spoilAt (2 + (K : Int)) false) (List.replicate 8 Sp.sl0) ⟨3, (M : Int), 0, -1, Sp.mt0, (some 19)⟩ wr)) (fun i _ => 20 - (intOf i).toNat)
        case atStart => exact ⟨rfl, S.out⟩
        case round =>
          obtain ⟨rfl, hs⟩ := hrel
          replace S := Lib.hid hs
          clear hs
          go_upto_region 23 with (first
            | (go_at_call 20; refine (stepAt S.out (Sp.step_done) (by first | (rw [Sp.spoilAt_len]; omega) | (rw [Sp.filesAt_len]; omega)) (by simp)).mono ?_; rintro e w5 ⟨rfl, hs⟩; simp only [erV]; replace S := Lib.hid hs; clear hs)
            | (go_at_call 21; refine (slots_any l 0 _ _ S.out.lk).mono ?_; rintro e w8 ⟨g, cap, rfl, ho, hb⟩; replace S := Lib.hid (S.out.go hb); have HO := Lib.hid ho; clear ho hb))
          have d0 : w8.cell? ⟨g, 0, none⟩ = some (.int .i64 0) := own2_at HO.out rfl
          go_wp2_with (first
            | (go_at_call 22; refine (errIs_same 19 _).mono ?_; rintro e w9 ⟨rfl, rfl⟩)
            | (go_at_call 23; refine (rdSlot_any p _ _ S.out.rd).mono ?_; rintro e w9 ⟨rfl, rfl⟩; dsimp only))
          go_ret
          exact ⟨rfl, S.out.hb⟩
end Go.Proofs.YtmcpkhknjdiocaaGreat
namespace Go.Proofs.YtmcpkhknjdiocaaGreat
open Go.RowKit
attribute [local go_sem low] mk_extract
attribute [local go_sem] After.cell After.frozen mk_extract_end ByteArray.mk_append_mk
theorem refused_walk (a0 a1 : Int) (spoilt late : Bool) (h00 : 0 ≤ a0) (h01 : a0 ≤ 65535) (h10 : 0 ≤ a1) (h11 : a1 ≤ 65535) (w : World) :
    Calls Tryz.prog 4 #[.int .u16 a0, .int .u16 a1, .bool spoilt, .bool late] w fun e w' => e = .returned (.bool true) ∧ Below w.heap.size w w' := by
  obtain ⟨K, hK⟩ := Int.eq_ofNat_of_zero_le (Int.emod_nonneg a0 (by decide : (398 : Int) ≠ 0))
  obtain ⟨M, hM⟩ := Int.eq_ofNat_of_zero_le (Int.emod_nonneg a1 (by decide : (400 : Int) ≠ 0))
  rcases late with _ | _
  · rcases spoilt with _ | _
    · by_cases hk : (M : Int) < 2 + (K : Int)
      · exact refused2 a0 a1 K M hK hM h00 h01 h10 h11 hk w
      · exact refused3 a0 a1 K M hK hM h00 h01 h10 h11 hk w
    · exact refused1 a0 a1 K M hK hM h00 h01 h10 h11 w
  · by_cases hm : (M : Int) < 2
    · rcases spoilt with _ | _
      · exact refused8 a0 a1 K M hK hM h00 h01 h10 h11 hm w
      · exact refused4 a0 a1 K M hK hM h00 h01 h10 h11 hm w
    · rcases spoilt with _ | _
      · by_cases hk : (M : Int) < 2 + (K : Int)
        · exact refused6 a0 a1 K M hK hM h00 h01 h10 h11 hm hk w
        · exact refused7 a0 a1 K M hK hM h00 h01 h10 h11 hm hk w
      · exact refused5 a0 a1 K M hK hM h00 h01 h10 h11 hm w
end Go.Proofs.YtmcpkhknjdiocaaGreat
namespace Go.Proofs.YtmcpkhknjdiocaaGreat.readerRefused
open Go.ChangeShapes Go.WideShapes Go.ChangeAt Go.RowKit
set_option maxRecDepth 100000 in
theorem lifted (os : Os) (started : os.Started) (H : Type) (enc : TypeId × Value → H) :
    ReturnsInHanded {} Tryz.checked os 4 .any (Rows.readerRefusedSpec.pre6 enc Tryz.prog Tryz.f4 Rows.readerRefusedRow.domain false) (Rows.readerRefusedSpec.post enc Tryz.prog Tryz.f4 false true false false) := by
  refine returnsInHanded_of_change (C := Tryz.checked) ownKn started (by kernel_rfl) Tryz.func4
    (ChangeSpec.witness6 (enc := enc) (C := Tryz.checked) false ⟨#[], #[.int .u16 0, .int .u16 0, .bool false, .bool false], []⟩ 8 (by kernel_rfl) (by kernel_rfl) (by kernel_rfl) (by kernel_rfl)) ?_
  intro W base args ds gs before hval0 hW hcnd _
  have hval : ∀ (j : Nat) t v, Tryz.f4.params[j]? = some t → args[j]? = some v → Value.okWide Tryz.prog W .any base t v := hval0
  have hW' := hW
  obtain ⟨p, q, hA0, hV, rfl, hfz, hnd⟩ := hW
  have hA : DataW.TrodAll enc Tryz.prog W 0 (fun _ => true) true Tryz.f4.params.toList args.toList ds p := hA0
  rw [Tryz.params4] at hA hval
  obtain ⟨v0, vs0, d0, ds0, p0, q0, hargs, rfl, rfl, h0, rr0⟩ := trodAll_cons hA
  obtain ⟨v1, vs1, d1, ds1, p1, q1, rfl, rfl, rfl, h1, rr1⟩ := trodAll_cons rr0
  obtain ⟨v2, vs2, d2, ds2, p2, q2, rfl, rfl, rfl, h2, rr2⟩ := trodAll_cons rr1
  obtain ⟨v3, vs3, d3, ds3, p3, q3, rfl, rfl, rfl, h3, rr3⟩ := trodAll_cons rr2
  obtain ⟨rfl, rfl, rfl⟩ := trodAll_nil rr3
  obtain rfl : args = #[v0, v1, v2, v3] := by cases args; simp_all
  obtain ⟨rfl, rfl⟩ := trodVars_none hV
  obtain ⟨a0, rfl, rfl, rfl, w0⟩ := open_int Tryz.underlying57 (hval 0 57 v0 rfl rfl) h0
  obtain ⟨a1, rfl, rfl, rfl, w1⟩ := open_int Tryz.underlying57 (hval 1 57 v1 rfl rfl) h1
  obtain ⟨a2, rfl, rfl, rfl⟩ := open_bool Tryz.underlying4 (hval 2 4 v2 rfl rfl) h2
  obtain ⟨a3, rfl, rfl, rfl⟩ := open_bool Tryz.underlying4 (hval 3 4 v3 rfl rfl) h3
  clear hA0 hval0
  simp only [List.append_nil] at hW'
  refine (refused_walk a0 a1 a2 a3 (bounds_u16 w0).1 (bounds_u16 w0).2 (bounds_u16 w1).1 (bounds_u16 w1).2 W).mono fun e W' ⟨he, hg⟩ => ?_
  subst he
  exact ⟨_, rfl, post_of_below (pa := []) (pv := []) hW' (fun _ _ _ => (trodAll_cons_mk (shut_bool Tryz.underlying4 _) trodAll_mk0)) (fun sp hsp => (trodAll_cons_mk (shut_int Tryz.underlying57 w0) (trodAll_cons_mk (shut_int Tryz.underlying57 w1) (trodAll_cons_mk (shut_bool Tryz.underlying4 a2) (trodAll_cons_mk (shut_bool Tryz.underlying4 a3) trodAll_mk0))))) (fun _ _ => rfl) (by simp)
    hg (ok_one (by kernel_rfl) rfl (okWide_bool_mk Tryz.underlying4 _))⟩
theorem over : Rows.readerRefusedRow.holds Tryz.pinned (OpenSpec.ofChange Rows.readerRefusedSpec) :=
  OpenClaim.holds_of_wide 4 Tryz.f4 rfl rfl rfl rfl rfl rfl rfl ⟨rfl, rfl, rfl, rfl, rfl⟩ rfl rfl rfl rfl rfl (by kernel_rfl) Tryz.func4 (by kernel_rfl)
    (of_decide_eq_true (by kernel_rfl)) (by unfold Func.isWrapper; first | (rw [if_pos (by decide +kernel)]; kernel_rfl) | (rw [if_neg (by decide +kernel)]; exact ⟨rfl, rfl⟩))
    (fun os started H enc _ => lifted os started H enc)
theorem proved : Rows.ReaderRefusedSaid :=
  over
#print axioms proved
end Go.Proofs.YtmcpkhknjdiocaaGreat.readerRefused
