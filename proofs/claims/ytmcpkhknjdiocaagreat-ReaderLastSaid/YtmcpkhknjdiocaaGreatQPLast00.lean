/- ReaderLast: the walk, with a free slot. ReaderLast: the walk, with all slots taken. ReaderLast and ReaderRefused: the walks joined. ReaderLast: whatever the input: true; the input reads as it did. -/
import Derived.Test.YtmcpkhknjdiocaaGreatQB13
import Derived.SizedLaws
set_option linter.unusedSimpArgs false
set_option linter.unusedVariables false
namespace Go.Proofs.YtmcpkhknjdiocaaGreat
open Go.RowKit
attribute [local go_sem low] mk_extract
attribute [local go_sem] After.cell After.frozen mk_extract_end ByteArray.mk_append_mk
theorem eqSlv (a t : Int) (W : World) : (Op.equalIn 10000 SlotT (.agg #[.int .i64 a, .int .u64 t]) (.agg #[.int .i64 a, .int .u64 t])).run Tryz.prog W = .ok true W := by
  have hS : Tryz.prog.underlying SlotT = some (.struct (Tryz.prog.fieldsOf SlotT)) := by kernel_rfl
  have hp : Tryz.prog.stoodInHeld SlotT = false := by kernel_rfl
  have u3 := Tryz.underlying3
  have u26 := Tryz.underlying36
  rw [show (10000 : Nat) = 9999 + 1 from rfl, run_equalIn_agg W 9999 SlotT _ _ hS hp]
  simp only [Program.fieldsOf, Tryz.underlying55, Op.eqFields]
  go_simp
set_option maxRecDepth 100000 in
set_option maxHeartbeats 6400000 in
theorem last_no (l0 : List Sp.Stp) (A : Option Addr) (c : Nat) (w : World) (hl : Stps w A l0) :
    Calls Tryz.prog 3 #[.slice A l0.length c, .bool false] w fun e w' => e = .returned (.bool true) ∧ Below w.heap.size w w' := by
  have HL0 := Lib.hid hl
  clear hl
  by_cases h60 : (60 : Int) < (l0.length : Int)
  · go_enter Tryz.func3, Tryz.ntmps3
    go_wp2_with (go_at_call 11; refine (known22_any _).mono ?_; rintro e w0 ⟨rfl, hb0⟩; have HB0 := Lib.hid hb0; clear hb0)
    go_ret
    exact ⟨rfl, HB0.out⟩
  · go_enter Tryz.func3, Tryz.ntmps3
    go_upto_region 6 with (first
      | (go_at_call 11; refine (known22_any _).mono ?_; rintro e w0 ⟨rfl, hb0⟩; have HB0 := Lib.hid hb0; clear hb0)
      | (go_at_call 13; refine (empty_any _).mono ?_; rintro e w1 ⟨b, rfl, ht, hb1⟩; have HT := Lib.hid ht; have HB1 := Lib.hid (HB0.out.trans (hb1.mono HB0.out.size)); clear ht hb1)
      | (go_at_call 12; refine (fileNew_at1 b _ HT.out).mono ?_; rintro e w2 ⟨f, v, m, rfl, hf, h1, h2, h3, hb2⟩; have HF := Lib.hid hf; have H2 := Lib.hid h2; have H3 := Lib.hid h3; have HB2 := Lib.hid hb2; clear hf h1 h2 h3 hb2)
      | (go_at_call 14; refine (lockNew_any _).mono ?_; rintro e w3 ⟨rfl, hl, hb3⟩; have HL := Lib.hid hl; have HB3 := Lib.hid hb3; clear hl hb3))
    go_wp2_with fail
    go_loopw [7] (fun i wr => i = .int .i64 0 ∧ wr = w3) (fun _ _ => 0)
    case atStart => exact ⟨rfl, rfl⟩
    case round =>
      obtain ⟨rfl, rfl⟩ := hrel
      go_upto_region 11 with (go_at_call 16; refine (rdNew_any 5 400 _).mono ?_; rintro e w4 ⟨rfl, hr, hb4⟩; have HR := Lib.hid hr; have HB4 := Lib.hid hb4; clear hr hb4)
      have S := Lib.hid (show LwS w f m w2.heap.size wr.heap.size v (Sp.filesAt ((0 + 1 : Nat) : Int)) (List.replicate 8 Sp.sl0) ⟨5, 400, 1, -1, Sp.mt0, none⟩ w4 from LwS.mk3 HB1.out HF.out H2.out H3.out HB2.out HL.out HB3.out HR.out HB4.out)
      clear HT HF H2 H3 HL HR HB1 HB2 HB3 HB4 HB0
      generalize w2.heap.size = l at *
      generalize wr.heap.size = p at *
      go_wp2_with fail
      go_loopw [9, 10] (fun n i wr => ∃ (i0 t : Nat) (x y : Int), (i0 ≤ l0.length ∧ t ≤ i0) ∧ n = .int .u64 ((t + 1 : Nat) : Int) ∧ i = .int .i64 (i0 : Int) ∧ ((LwS w f m l p v (Sp.filesAt ((t + 1 : Nat) : Int)) (List.replicate 8 Sp.sl0) ⟨5, 400, 1, -1, Sp.mt0, none⟩ wr) ∨ (LwS w f m l p v (Sp.filesAt ((t + 1 : Nat) : Int)) (Sp.oneSl 5 0) ⟨5, 400, 2, 0, Sp.mt0, none⟩ wr) ∨ (LwS w f m l p v (Sp.filesAt ((t + 1 : Nat) : Int)) (Sp.oneSl 5 x) ⟨5, 400, 3, 0, Sp.mt2 y 2, none⟩ wr) ∨ (LwS w f m l p v (Sp.filesAt ((t + 1 : Nat) : Int)) (Sp.oneSl 5 y) ⟨5, 400, 4, 0, Sp.mt2 y 2, none⟩ wr))) (fun _ i _ => l0.length - (intOf i).toNat)
      case atStart => exact ⟨0, 0, 0, 0, ⟨by omega, by omega⟩, rfl, rfl, .inl S.out⟩
      case round =>
        obtain ⟨i, t, x, y, ⟨hi, hti⟩, rfl, rfl, hst⟩ := hrel
        clear S
        by_cases hi8 : i < l0.length
        · rcases hst with hs | hs | hs | hs
          · have S := Lib.hid hs
            clear hs
            obtain ⟨b, off, rfl, hbl, hcl⟩ := HL0.out.2.resolve_left (by intro e; rw [e] at hi8; simp at hi8)
            have ci := (S.out.hb.cell (p := ⟨b, off + i * 2, none⟩) hbl).trans (hcl i hi8).1
            clear hcl
            generalize (l0.getD i Sp.stp0).what = wh at *
            by_cases h5 : wh = 5
            · have h5b : (wh == 5) = true := beq_iff_eq.2 h5
              clear h5
              obtain ⟨W0, rfl⟩ : ∃ W, W = wr := ⟨_, rfl⟩
              go_upto_region 16 with fail
              go_cut [9] (fun s9 W => s9 = .int .u64 ((t + 1 + 1 : Nat) : Int) ∧ W = W0)
              case first =>
                go_wp2_with fail
                go_meet
                case rel => exact ⟨by go_num, rfl⟩
              case rest =>
                obtain ⟨rfl, rfl⟩ := hcut
                obtain ⟨q, hq2, hpl, hqn⟩ : ∃ q : Nat, q < 2 ∧ ((t : Int) + 1 + 1) % 2 = (q : Int) ∧ (((t + 1 + 1 : Nat) : Int) % 2).toNat = q := ⟨(t + 1 + 1) % 2, by omega, by omega, by omega⟩
                have hml := Sp.metaB_le (Sp.mt2 ((t : Int) + 1 + 1) 2)
                have hfs : (Sp.filesAt ((t + 1 : Nat) : Int)).set q (Sp.metaB (Sp.mt2 ((t : Int) + 1 + 1) 2)) = Sp.filesAt ((t + 1 + 1 : Nat) : Int) := by
                  have := Sp.filesAt_set (t := ((t + 1 : Nat) : Int)) (by omega)
                  rw [show (((t + 1 : Nat) : Int) + 1) = ((t + 1 + 1 : Nat) : Int) by omega, hqn] at this
                  rw [show ((t : Int) + 1 + 1) = ((t + 1 + 1 : Nat) : Int) by omega]
                  exact this
                have HFS := Lib.hid hfs
                clear hfs
                go_wp2_with (first
                  | (go_at_call 18; refine (dPlace_any _ (by omega) (by omega) _).mono ?_; rintro e w6 ⟨rfl, rfl⟩; rw [hpl])
                  | (go_at_call 19; refine (dMetaBytes_any (Sp.mt2 ((t : Int) + 1 + 1) 2) _ (by show 0 ≤ (t : Int) + 1 + 1 ∧ (t : Int) + 1 + 1 < 18446744073709551616; omega)).mono ?_; rintro e w6 ⟨rfl, hb6⟩; replace S := Lib.hid (S.out.go hb6); clear hb6)
                  | (go_at_call 17; refine (fileWrite_any f m q v (Sp.filesAt ((t + 1 : Nat) : Int)) (Sp.metaB (Sp.mt2 ((t : Int) + 1 + 1) 2)) _ S.out.ff (by rw [Sp.filesAt_len]; omega) (by rw [Sp.filesAt_len]; omega) (by omega)).mono ?_; rintro e w6 ⟨rfl, hf6, hk6⟩; rw [HFS.out] at hf6; replace S := Lib.hid (S.out.write hf6 hk6); clear hf6 hk6))
                go_roundw
                case rel => exact ⟨i + 1, t + 1, x, y, ⟨by omega, by omega⟩, rfl, by go_num, .inl S.out⟩
                case measure => simp [intOf]; omega
            · have h5b : (wh == 5) = false := beq_eq_false_iff_ne.2 h5
              clear h5
              by_cases h4 : 4 < wh
              · go_wp2_with fail
                go_roundw
                case rel => exact ⟨i + 1, t, x, y, ⟨by omega, by omega⟩, rfl, by go_num, .inl S.out⟩
                case measure => simp [intOf]; omega
              · go_wp2_with (go_at_call 20; refine (stepAt S.out (Sp.step_claims (by decide)) (by rw [Sp.filesAt_len]; omega) (by simp)).mono ?_; rintro e w5 ⟨rfl, hs⟩; simp only [erV]; replace S := Lib.hid hs; clear hs)
                go_roundw
                case rel => exact ⟨i + 1, t, x, y, ⟨by omega, by omega⟩, rfl, by go_num, .inr (.inl S.out)⟩
                case measure => simp [intOf]; omega
          · have S := Lib.hid hs
            clear hs
            obtain ⟨b, off, rfl, hbl, hcl⟩ := HL0.out.2.resolve_left (by intro e; rw [e] at hi8; simp at hi8)
            have ci := (S.out.hb.cell (p := ⟨b, off + i * 2, none⟩) hbl).trans (hcl i hi8).1
            clear hcl
            generalize (l0.getD i Sp.stp0).what = wh at *
            by_cases h5 : wh = 5
            · have h5b : (wh == 5) = true := beq_iff_eq.2 h5
              clear h5
              obtain ⟨W0, rfl⟩ : ∃ W, W = wr := ⟨_, rfl⟩
              go_upto_region 16 with fail
              go_cut [9] (fun s9 W => s9 = .int .u64 ((t + 1 + 1 : Nat) : Int) ∧ W = W0)
              case first =>
                go_wp2_with fail
                go_meet
                case rel => exact ⟨by go_num, rfl⟩
              case rest =>
                obtain ⟨rfl, rfl⟩ := hcut
                obtain ⟨q, hq2, hpl, hqn⟩ : ∃ q : Nat, q < 2 ∧ ((t : Int) + 1 + 1) % 2 = (q : Int) ∧ (((t + 1 + 1 : Nat) : Int) % 2).toNat = q := ⟨(t + 1 + 1) % 2, by omega, by omega, by omega⟩
                have hml := Sp.metaB_le (Sp.mt2 ((t : Int) + 1 + 1) 2)
                have hfs : (Sp.filesAt ((t + 1 : Nat) : Int)).set q (Sp.metaB (Sp.mt2 ((t : Int) + 1 + 1) 2)) = Sp.filesAt ((t + 1 + 1 : Nat) : Int) := by
                  have := Sp.filesAt_set (t := ((t + 1 : Nat) : Int)) (by omega)
                  rw [show (((t + 1 : Nat) : Int) + 1) = ((t + 1 + 1 : Nat) : Int) by omega, hqn] at this
                  rw [show ((t : Int) + 1 + 1) = ((t + 1 + 1 : Nat) : Int) by omega]
                  exact this
                have HFS := Lib.hid hfs
                clear hfs
                go_wp2_with (first
                  | (go_at_call 18; refine (dPlace_any _ (by omega) (by omega) _).mono ?_; rintro e w6 ⟨rfl, rfl⟩; rw [hpl])
                  | (go_at_call 19; refine (dMetaBytes_any (Sp.mt2 ((t : Int) + 1 + 1) 2) _ (by show 0 ≤ (t : Int) + 1 + 1 ∧ (t : Int) + 1 + 1 < 18446744073709551616; omega)).mono ?_; rintro e w6 ⟨rfl, hb6⟩; replace S := Lib.hid (S.out.go hb6); clear hb6)
                  | (go_at_call 17; refine (fileWrite_any f m q v (Sp.filesAt ((t + 1 : Nat) : Int)) (Sp.metaB (Sp.mt2 ((t : Int) + 1 + 1) 2)) _ S.out.ff (by rw [Sp.filesAt_len]; omega) (by rw [Sp.filesAt_len]; omega) (by omega)).mono ?_; rintro e w6 ⟨rfl, hf6, hk6⟩; rw [HFS.out] at hf6; replace S := Lib.hid (S.out.write hf6 hk6); clear hf6 hk6))
                go_roundw
                case rel => exact ⟨i + 1, t + 1, x, y, ⟨by omega, by omega⟩, rfl, by go_num, .inr (.inl S.out)⟩
                case measure => simp [intOf]; omega
            · have h5b : (wh == 5) = false := beq_eq_false_iff_ne.2 h5
              clear h5
              by_cases h4 : 4 < wh
              · go_wp2_with fail
                go_roundw
                case rel => exact ⟨i + 1, t, x, y, ⟨by omega, by omega⟩, rfl, by go_num, .inr (.inl S.out)⟩
                case measure => simp [intOf]; omega
              · have hc := Lib.hid (Sp.filesAt_choose (t := ((t + 1 : Nat) : Int)) (by omega) (by omega))
                go_wp2_with (go_at_call 20; refine (stepAt S.out (Sp.step_chooses hc.out (by decide)) (by rw [Sp.filesAt_len]; omega) (by simp)).mono ?_; rintro e w5 ⟨rfl, hs⟩; simp only [erV]; replace S := Lib.hid hs; clear hs)
                go_roundw
                case rel => exact ⟨i + 1, t, 0, ((t + 1 : Nat) : Int), ⟨by omega, by omega⟩, rfl, by go_num, .inr (.inr (.inl S.out))⟩
                case measure => simp [intOf]; omega
          · have S := Lib.hid hs
            clear hs
            obtain ⟨b, off, rfl, hbl, hcl⟩ := HL0.out.2.resolve_left (by intro e; rw [e] at hi8; simp at hi8)
            have ci := (S.out.hb.cell (p := ⟨b, off + i * 2, none⟩) hbl).trans (hcl i hi8).1
            clear hcl
            generalize (l0.getD i Sp.stp0).what = wh at *
            by_cases h5 : wh = 5
            · have h5b : (wh == 5) = true := beq_iff_eq.2 h5
              clear h5
              obtain ⟨W0, rfl⟩ : ∃ W, W = wr := ⟨_, rfl⟩
              go_upto_region 16 with fail
              go_cut [9] (fun s9 W => s9 = .int .u64 ((t + 1 + 1 : Nat) : Int) ∧ W = W0)
              case first =>
                go_wp2_with fail
                go_meet
                case rel => exact ⟨by go_num, rfl⟩
              case rest =>
                obtain ⟨rfl, rfl⟩ := hcut
                obtain ⟨q, hq2, hpl, hqn⟩ : ∃ q : Nat, q < 2 ∧ ((t : Int) + 1 + 1) % 2 = (q : Int) ∧ (((t + 1 + 1 : Nat) : Int) % 2).toNat = q := ⟨(t + 1 + 1) % 2, by omega, by omega, by omega⟩
                have hml := Sp.metaB_le (Sp.mt2 ((t : Int) + 1 + 1) 2)
                have hfs : (Sp.filesAt ((t + 1 : Nat) : Int)).set q (Sp.metaB (Sp.mt2 ((t : Int) + 1 + 1) 2)) = Sp.filesAt ((t + 1 + 1 : Nat) : Int) := by
                  have := Sp.filesAt_set (t := ((t + 1 : Nat) : Int)) (by omega)
                  rw [show (((t + 1 : Nat) : Int) + 1) = ((t + 1 + 1 : Nat) : Int) by omega, hqn] at this
                  rw [show ((t : Int) + 1 + 1) = ((t + 1 + 1 : Nat) : Int) by omega]
                  exact this
                have HFS := Lib.hid hfs
                clear hfs
                go_wp2_with (first
                  | (go_at_call 18; refine (dPlace_any _ (by omega) (by omega) _).mono ?_; rintro e w6 ⟨rfl, rfl⟩; rw [hpl])
                  | (go_at_call 19; refine (dMetaBytes_any (Sp.mt2 ((t : Int) + 1 + 1) 2) _ (by show 0 ≤ (t : Int) + 1 + 1 ∧ (t : Int) + 1 + 1 < 18446744073709551616; omega)).mono ?_; rintro e w6 ⟨rfl, hb6⟩; replace S := Lib.hid (S.out.go hb6); clear hb6)
                  | (go_at_call 17; refine (fileWrite_any f m q v (Sp.filesAt ((t + 1 : Nat) : Int)) (Sp.metaB (Sp.mt2 ((t : Int) + 1 + 1) 2)) _ S.out.ff (by rw [Sp.filesAt_len]; omega) (by rw [Sp.filesAt_len]; omega) (by omega)).mono ?_; rintro e w6 ⟨rfl, hf6, hk6⟩; rw [HFS.out] at hf6; replace S := Lib.hid (S.out.write hf6 hk6); clear hf6 hk6))
                go_roundw
                case rel => exact ⟨i + 1, t + 1, x, y, ⟨by omega, by omega⟩, rfl, by go_num, .inr (.inr (.inl S.out))⟩
                case measure => simp [intOf]; omega
            · have h5b : (wh == 5) = false := beq_eq_false_iff_ne.2 h5
              clear h5
              by_cases h4 : 4 < wh
              · go_wp2_with fail
                go_roundw
                case rel => exact ⟨i + 1, t, x, y, ⟨by omega, by omega⟩, rfl, by go_num, .inr (.inr (.inl S.out))⟩
                case measure => simp [intOf]; omega
              · go_wp2_with (go_at_call 20; refine (stepAt S.out (Sp.step_pub (by decide)) (by rw [Sp.filesAt_len]; omega) (by simp)).mono ?_; rintro e w5 ⟨rfl, hs⟩; simp only [erV]; replace S := Lib.hid hs; clear hs)
                go_roundw
                case rel => exact ⟨i + 1, t, x, y, ⟨by omega, by omega⟩, rfl, by go_num, .inr (.inr (.inr S.out))⟩
                case measure => simp [intOf]; omega
          · have S := Lib.hid hs
            clear hs
            obtain ⟨b, off, rfl, hbl, hcl⟩ := HL0.out.2.resolve_left (by intro e; rw [e] at hi8; simp at hi8)
            have ci := (S.out.hb.cell (p := ⟨b, off + i * 2, none⟩) hbl).trans (hcl i hi8).1
            clear hcl
            generalize (l0.getD i Sp.stp0).what = wh at *
            by_cases h5 : wh = 5
            · have h5b : (wh == 5) = true := beq_iff_eq.2 h5
              clear h5
              obtain ⟨W0, rfl⟩ : ∃ W, W = wr := ⟨_, rfl⟩
              go_upto_region 16 with fail
              go_cut [9] (fun s9 W => s9 = .int .u64 ((t + 1 + 1 : Nat) : Int) ∧ W = W0)
              case first =>
                go_wp2_with fail
                go_meet
                case rel => exact ⟨by go_num, rfl⟩
              case rest =>
                obtain ⟨rfl, rfl⟩ := hcut
                obtain ⟨q, hq2, hpl, hqn⟩ : ∃ q : Nat, q < 2 ∧ ((t : Int) + 1 + 1) % 2 = (q : Int) ∧ (((t + 1 + 1 : Nat) : Int) % 2).toNat = q := ⟨(t + 1 + 1) % 2, by omega, by omega, by omega⟩
                have hml := Sp.metaB_le (Sp.mt2 ((t : Int) + 1 + 1) 2)
                have hfs : (Sp.filesAt ((t + 1 : Nat) : Int)).set q (Sp.metaB (Sp.mt2 ((t : Int) + 1 + 1) 2)) = Sp.filesAt ((t + 1 + 1 : Nat) : Int) := by
                  have := Sp.filesAt_set (t := ((t + 1 : Nat) : Int)) (by omega)
                  rw [show (((t + 1 : Nat) : Int) + 1) = ((t + 1 + 1 : Nat) : Int) by omega, hqn] at this
                  rw [show ((t : Int) + 1 + 1) = ((t + 1 + 1 : Nat) : Int) by omega]
                  exact this
                have HFS := Lib.hid hfs
                clear hfs
                go_wp2_with (first
                  | (go_at_call 18; refine (dPlace_any _ (by omega) (by omega) _).mono ?_; rintro e w6 ⟨rfl, rfl⟩; rw [hpl])
                  | (go_at_call 19; refine (dMetaBytes_any (Sp.mt2 ((t : Int) + 1 + 1) 2) _ (by show 0 ≤ (t : Int) + 1 + 1 ∧ (t : Int) + 1 + 1 < 18446744073709551616; omega)).mono ?_; rintro e w6 ⟨rfl, hb6⟩; replace S := Lib.hid (S.out.go hb6); clear hb6)
                  | (go_at_call 17; refine (fileWrite_any f m q v (Sp.filesAt ((t + 1 : Nat) : Int)) (Sp.metaB (Sp.mt2 ((t : Int) + 1 + 1) 2)) _ S.out.ff (by rw [Sp.filesAt_len]; omega) (by rw [Sp.filesAt_len]; omega) (by omega)).mono ?_; rintro e w6 ⟨rfl, hf6, hk6⟩; rw [HFS.out] at hf6; replace S := Lib.hid (S.out.write hf6 hk6); clear hf6 hk6))
                go_roundw
                case rel => exact ⟨i + 1, t + 1, x, y, ⟨by omega, by omega⟩, rfl, by go_num, .inr (.inr (.inr S.out))⟩
                case measure => simp [intOf]; omega
            · have h5b : (wh == 5) = false := beq_eq_false_iff_ne.2 h5
              clear h5
              by_cases h4 : 4 < wh
              · go_wp2_with fail
                go_roundw
                case rel => exact ⟨i + 1, t, x, y, ⟨by omega, by omega⟩, rfl, by go_num, .inr (.inr (.inr S.out))⟩
                case measure => simp [intOf]; omega
              · have hc := Lib.hid (Sp.filesAt_choose (t := ((t + 1 : Nat) : Int)) (by omega) (by omega))
                by_cases hy : y = ((t + 1 : Nat) : Int)
                · go_upto_region 22 with (first
                    | (go_at_call 20; refine (stepAt S.out (Sp.step_same hc.out (by decide) hy) (by rw [Sp.filesAt_len]; omega) (by simp)).mono ?_; rintro e w5 ⟨rfl, hs⟩; simp only [erV]; replace S := Lib.hid hs; clear hs)
                    | (go_at_call 21; refine (slots_any l 0 _ _ S.out.lk).mono ?_; rintro e w8 ⟨g, cap, rfl, ho, hb⟩; replace S := Lib.hid (S.out.go hb); have HO := Lib.hid ho; clear ho hb))
                  have d0 : w8.cell? ⟨g, 0, none⟩ = some (.int .i64 5) := own2_at HO.out rfl
                  have d1 : w8.cell? ⟨g, 1, none⟩ = some (.int .u64 ((t : Int) + 1)) := (own2_at HO.out rfl).trans (by rw [hy]; rfl)
                  have hfd := field0 ((t : Int) + 1) 0 0 0 0 2
                  have hq := eqSlv 5 ((t : Int) + 1)
                  have hg := own_lt HO.out g rfl
                  have HY := Lib.hid (show (mtV (Sp.mt2 y 2)).toArray = #[.int .u64 ((t : Int) + 1), .int .i64 0, .int .i64 0, .int .i64 0, .int .i64 0, .int .i64 2] by rw [hy]; rfl)
                  clear hy
                  go_wp2_with (first
                    | (go_at_call 23; refine (rdSlot_any p _ _ S.out.rd).mono ?_; rintro e w9 ⟨rfl, rfl⟩; dsimp only)
                    | (go_at_call 24; refine (rdMeta_any p _ _ S.out.rd).mono ?_; rintro e w9 ⟨rfl, hb⟩; dsimp only; rw [HY.out]; replace S := Lib.hid (S.out.go hb); have d0' := (hb.cell (p := ⟨g, 0, none⟩) hg).trans d0; have d1' := (hb.cell (p := ⟨g, 1, none⟩) hg).trans d1; clear d0 d1 hb))
                  go_ret
                  exact ⟨rfl, S.out.hb⟩
                · go_wp2_with (go_at_call 20; refine (stepAt S.out (Sp.step_other hc.out (by decide) hy) (by rw [Sp.filesAt_len]; omega) (by simp)).mono ?_; rintro e w5 ⟨rfl, hs⟩; simp only [erV]; replace S := Lib.hid hs; clear hs)
                  go_roundw
                  case rel => exact ⟨i + 1, t, y, ((t + 1 : Nat) : Int), ⟨by omega, by omega⟩, rfl, by go_num, .inr (.inr (.inl S.out))⟩
                  case measure => simp [intOf]; omega
        · have HBB := Lib.hid (show Below w.heap.size w wr by rcases hst with hs | hs | hs | hs <;> exact hs.hb)
          clear hst
          go_wp2_with fail
          go_ret
          exact ⟨rfl, HBB.out⟩
end Go.Proofs.YtmcpkhknjdiocaaGreat
namespace Go.Proofs.YtmcpkhknjdiocaaGreat
open Go.RowKit
attribute [local go_sem low] mk_extract
attribute [local go_sem] After.cell After.frozen mk_extract_end ByteArray.mk_append_mk
/-- A file, a lock of a law's own. -/
structure FlS (W0 : World) (f m l : Nat) (v : Value) (V : List Txt) (sl : List Sp.Sl) (W : World) : Prop where
  hb : Below W0.heap.size W0 W
  ff : FileAt W f v m V
  lk : LockAt W l 0 sl
  hf : W0.heap.size ≤ m ∧ W0.heap.size ≤ l
  hv : ∀ k, v.ownBlock = some k → W0.heap.size ≤ k
theorem FlS.lock {W0 W W' : World} {f m l : Nat} {v : Value} {V : List Txt} {sl sl' : List Sp.Sl} (h : FlS W0 f m l v V sl W) (hl : LockAt W' l 0 sl') (hk : Chg (OneM l) W W') : FlS W0 f m l v V sl' W' := by
  obtain ⟨sv, hfb⟩ := h.ff.bf
  refine ⟨h.hb.trans (hk.below h.hb.size (fun k hk e => by unfold OneM at e; have := h.hf; omega)), h.ff.chg hk ?_ ?_ ?_, hl, h.hf, h.hv⟩
  · intro e; unfold OneM at e; subst e; exact Blk.not_ hfb (by decide) _ h.lk.bl
  · intro e; unfold OneM at e; subst e; exact h.ff.map.not_blk h.lk.bl
  · intro k hk' e; unfold OneM at e; subst e; exact own_not h.ff.own (by decide) _ hk' _ h.lk.bl
theorem FlS.reader {W0 W W' : World} {f m l : Nat} {v : Value} {V : List Txt} {sl : List Sp.Sl} {r : Sp.Rdr} (h : FlS W0 f m l v V sl W) (hr : RdAt W' W.heap.size r) (hb : Below W.heap.size W W') : LwS W0 f m l W.heap.size v V sl r W' :=
  ⟨h.hb.trans (hb.mono h.hb.size), h.ff.go hb, h.lk.go hb, hr, ⟨h.hf.1, h.hf.2, h.hb.size⟩, h.hv⟩
set_option maxRecDepth 100000 in
set_option maxHeartbeats 6400000 in
theorem last_full (l0 : List Sp.Stp) (A : Option Addr) (c : Nat) (w : World) (hl : Stps w A l0) :
    Calls Tryz.prog 3 #[.slice A l0.length c, .bool true] w fun e w' => e = .returned (.bool true) ∧ Below w.heap.size w w' := by
  have HL0 := Lib.hid hl
  clear hl
  by_cases h60 : (60 : Int) < (l0.length : Int)
  · go_enter Tryz.func3, Tryz.ntmps3
    go_wp2_with (go_at_call 11; refine (known22_any _).mono ?_; rintro e w0 ⟨rfl, hb0⟩; have HB0 := Lib.hid hb0; clear hb0)
    go_ret
    exact ⟨rfl, HB0.out⟩
  · go_enter Tryz.func3, Tryz.ntmps3
    go_upto_region 6 with (first
      | (go_at_call 11; refine (known22_any _).mono ?_; rintro e w0 ⟨rfl, hb0⟩; have HB0 := Lib.hid hb0; clear hb0)
      | (go_at_call 13; refine (empty_any _).mono ?_; rintro e w1 ⟨b, rfl, ht, hb1⟩; have HT := Lib.hid ht; have HB1 := Lib.hid (HB0.out.trans (hb1.mono HB0.out.size)); clear ht hb1)
      | (go_at_call 12; refine (fileNew_at1 b _ HT.out).mono ?_; rintro e w2 ⟨f, v, m, rfl, hf, h1, h2, h3, hb2⟩; have HF := Lib.hid hf; have H2 := Lib.hid h2; have H3 := Lib.hid h3; have HB2 := Lib.hid hb2; clear hf h1 h2 h3 hb2)
      | (go_at_call 14; refine (lockNew_any _).mono ?_; rintro e w3 ⟨rfl, hl, hb3⟩; have HL := Lib.hid hl; have HB3 := Lib.hid hb3; clear hl hb3))
    have S0 := Lib.hid (show FlS w f m w2.heap.size v (Sp.filesAt ((0 + 1 : Nat) : Int)) (Sp.fullSl 0) w3 from by
      have z1 := HB1.out.size
      have z2 := HB2.out.size
      have z3 := HB3.out.size
      exact ⟨(HB1.out.trans (HB2.out.mono z1)).trans (HB3.out.mono (by omega)), HF.out.go HB3.out, HL.out, ⟨by have := H2.out; omega, by omega⟩, fun k hk => by have := H3.out k hk; omega⟩)
    clear HT HF H2 H3 HL HB1 HB2 HB3 HB0
    generalize w2.heap.size = l at *
    go_wp2_with fail
    go_loopw [7] (fun i wr => ∃ k : Nat, k ≤ 8 ∧ i = .int .i64 (k : Int) ∧ FlS w f m l v (Sp.filesAt ((0 + 1 : Nat) : Int)) (Sp.fullSl k) wr) (fun i _ => 8 - (intOf i).toNat)
    case atStart => exact ⟨0, by omega, rfl, S0.out⟩
    case round =>
      obtain ⟨k, hk, rfl, hs⟩ := hrel
      have S1 := Lib.hid hs
      clear hs S0
      by_cases hk8 : k < 8
      · have hnx := Sp.full_next k hk8
        have HNX := Lib.hid hnx
        clear hnx
        go_wp2_with (go_at_call 15; refine (claim_any l 0 (Sp.fullSl k) 100 _ S1.out.lk).mono ?_; rintro e w4 ⟨rfl, hl4, hk4⟩; rw [HNX.out] at hl4; generalize claimV (Sp.fullSl k) 100 = cv; replace S1 := Lib.hid (S1.out.lock hl4 hk4); clear hl4 hk4)
        go_roundw
        case rel => exact ⟨k + 1, by omega, by go_num, S1.out⟩
        case measure => simp [intOf]; omega
      · obtain rfl : k = 8 := by omega
        clear hk8 hk
        go_upto_region 11 with (go_at_call 16; refine (rdNew_any 5 400 _).mono ?_; rintro e w4 ⟨rfl, hr, hb4⟩; have HR := Lib.hid hr; have HB4 := Lib.hid hb4; clear hr hb4)
        have S := Lib.hid (show LwS w f m l wr.heap.size v (Sp.filesAt ((0 + 1 : Nat) : Int)) (Sp.fullSl 8) ⟨5, 400, 1, -1, Sp.mt0, none⟩ w4 from S1.out.reader HR.out HB4.out)
        clear HR HB4 S1
        generalize wr.heap.size = p at *
        go_wp2_with fail
        go_loopw [9, 10] (fun n i wr => ∃ (i0 t : Nat), (i0 ≤ l0.length ∧ t ≤ i0) ∧ n = .int .u64 ((t + 1 : Nat) : Int) ∧ i = .int .i64 (i0 : Int) ∧ LwS w f m l p v (Sp.filesAt ((t + 1 : Nat) : Int)) (Sp.fullSl 8) ⟨5, 400, 1, -1, Sp.mt0, none⟩ wr) (fun _ i _ => l0.length - (intOf i).toNat)
        case atStart => exact ⟨0, 0, ⟨by omega, by omega⟩, rfl, rfl, S.out⟩
        case round =>
          obtain ⟨i, t, ⟨hi, hti⟩, rfl, rfl, hs⟩ := hrel
          replace S := Lib.hid hs
          clear hs
          by_cases hi8 : i < l0.length
          · obtain ⟨b, off, rfl, hbl, hcl⟩ := HL0.out.2.resolve_left (by intro e; rw [e] at hi8; simp at hi8)
            have ci := (S.out.hb.cell (p := ⟨b, off + i * 2, none⟩) hbl).trans (hcl i hi8).1
            clear hcl
            generalize (l0.getD i Sp.stp0).what = wh at *
            by_cases h5 : wh = 5
            · have h5b : (wh == 5) = true := beq_iff_eq.2 h5
              clear h5
              obtain ⟨W0, rfl⟩ : ∃ W, W = wr := ⟨_, rfl⟩
              go_upto_region 16 with fail
              go_cut [9] (fun s9 W => s9 = .int .u64 ((t + 1 + 1 : Nat) : Int) ∧ W = W0)
              case first =>
                go_wp2_with fail
                go_meet
                case rel => exact ⟨by go_num, rfl⟩
              case rest =>
                obtain ⟨rfl, rfl⟩ := hcut
                obtain ⟨q, hq2, hpl, hqn⟩ : ∃ q : Nat, q < 2 ∧ ((t : Int) + 1 + 1) % 2 = (q : Int) ∧ (((t + 1 + 1 : Nat) : Int) % 2).toNat = q := ⟨(t + 1 + 1) % 2, by omega, by omega, by omega⟩
                have hml := Sp.metaB_le (Sp.mt2 ((t : Int) + 1 + 1) 2)
                have hfs : (Sp.filesAt ((t + 1 : Nat) : Int)).set q (Sp.metaB (Sp.mt2 ((t : Int) + 1 + 1) 2)) = Sp.filesAt ((t + 1 + 1 : Nat) : Int) := by
                  have := Sp.filesAt_set (t := ((t + 1 : Nat) : Int)) (by omega)
                  rw [show (((t + 1 : Nat) : Int) + 1) = ((t + 1 + 1 : Nat) : Int) by omega, hqn] at this
                  rw [show ((t : Int) + 1 + 1) = ((t + 1 + 1 : Nat) : Int) by omega]
                  exact this
                have HFS := Lib.hid hfs
                clear hfs
                go_wp2_with (first
                  | (go_at_call 18; refine (dPlace_any _ (by omega) (by omega) _).mono ?_; rintro e w6 ⟨rfl, rfl⟩; rw [hpl])
                  | (go_at_call 19; refine (dMetaBytes_any (Sp.mt2 ((t : Int) + 1 + 1) 2) _ (by show 0 ≤ (t : Int) + 1 + 1 ∧ (t : Int) + 1 + 1 < 18446744073709551616; omega)).mono ?_; rintro e w6 ⟨rfl, hb6⟩; replace S := Lib.hid (S.out.go hb6); clear hb6)
                  | (go_at_call 17; refine (fileWrite_any f m q v (Sp.filesAt ((t + 1 : Nat) : Int)) (Sp.metaB (Sp.mt2 ((t : Int) + 1 + 1) 2)) _ S.out.ff (by rw [Sp.filesAt_len]; omega) (by rw [Sp.filesAt_len]; omega) (by omega)).mono ?_; rintro e w6 ⟨rfl, hf6, hk6⟩; rw [HFS.out] at hf6; replace S := Lib.hid (S.out.write hf6 hk6); clear hf6 hk6))
                go_roundw
                case rel => exact ⟨i + 1, t + 1, ⟨by omega, by omega⟩, rfl, by go_num, S.out⟩
                case measure => simp [intOf]; omega
            · have h5b : (wh == 5) = false := beq_eq_false_iff_ne.2 h5
              clear h5
              by_cases h4 : 4 < wh
              · go_wp2_with fail
                go_roundw
                case rel => exact ⟨i + 1, t, ⟨by omega, by omega⟩, rfl, by go_num, S.out⟩
                case measure => simp [intOf]; omega
              · go_wp2_with (first
                  | (go_at_call 20; refine (stepAt S.out (Sp.step_full) (by rw [Sp.filesAt_len]; omega) (by simp)).mono ?_; rintro e w5 ⟨rfl, hs⟩; simp only [erV]; replace S := Lib.hid hs; clear hs)
                  | (go_at_call 21; refine (slots_any l 0 _ _ S.out.lk).mono ?_; rintro e w8 ⟨g, cap, rfl, ho, hb⟩; replace S := Lib.hid (S.out.go hb); clear ho hb)
                  | (go_at_call 22; refine (errIs_same 15 _).mono ?_; rintro e w9 ⟨rfl, rfl⟩)
                  | (go_at_call 23; refine (rdSlot_any p _ _ S.out.rd).mono ?_; rintro e w9 ⟨rfl, rfl⟩; dsimp only))
                go_ret
                exact ⟨rfl, S.out.hb⟩
          · go_wp2_with fail
            go_ret
            exact ⟨rfl, S.out.hb⟩
end Go.Proofs.YtmcpkhknjdiocaaGreat
namespace Go.Proofs.YtmcpkhknjdiocaaGreat
open Go.RowKit
attribute [local go_sem low] mk_extract
attribute [local go_sem] After.cell After.frozen mk_extract_end ByteArray.mk_append_mk
theorem last_walk (l0 : List Sp.Stp) (A : Option Addr) (c : Nat) (full : Bool) (w : World) (hl : Stps w A l0) :
    Calls Tryz.prog 3 #[.slice A l0.length c, .bool full] w fun e w' => e = .returned (.bool true) ∧ Below w.heap.size w w' := by
  rcases full with _ | _
  · exact last_no l0 A c w hl
  · exact last_full l0 A c w hl
end Go.Proofs.YtmcpkhknjdiocaaGreat
namespace Go.Proofs.YtmcpkhknjdiocaaGreat.readerLast
open Go.ChangeShapes Go.WideShapes Go.ChangeAt Go.RowKit
set_option maxRecDepth 100000 in
theorem lifted (os : Os) (started : os.Started) (H : Type) (enc : TypeId × Value → H) :
    ReturnsInHanded {} Tryz.checked os 3 .any (Rows.readerLastSpec.pre6 enc Tryz.prog Tryz.f3 Rows.readerLastRow.domain false) (Rows.readerLastSpec.post enc Tryz.prog Tryz.f3 false true false false) := by
  refine returnsInHanded_of_change_sized (C := Tryz.checked) ownKn started (by kernel_rfl) Tryz.func3
    (ChangeSpec.witness6 (enc := enc) (C := Tryz.checked) false ⟨#[], #[.slice none 0 0, .bool false], []⟩ 8 (by kernel_rfl) (by kernel_rfl) (by kernel_rfl) (by kernel_rfl)) ?_
  intro W base args ds gs before hval0 hW hcnd hsz0 _
  have hval : ∀ (j : Nat) t v, Tryz.f3.params[j]? = some t → args[j]? = some v → Value.okWide Tryz.prog W .any base t v := hval0
  have hW' := hW
  obtain ⟨p, q, hA0, hV, rfl, hfz, hnd⟩ := hW
  have hA : DataW.TrodAll enc Tryz.prog W 0 (fun _ => true) true Tryz.f3.params.toList args.toList ds p := hA0
  have hsz : (DataW.weightsEach Tryz.prog (Tryz.f3.params.toList ++ Rows.readerLastSpec.plain.varTypes Tryz.prog) (ds ++ gs)).all (· ≤ reachBytes) = true := hsz0
  rw [Tryz.params3] at hA hval hsz
  obtain ⟨v0, vs0, d0, ds0, p0, q0, hargs, rfl, rfl, h0, rr0⟩ := trodAll_cons hA
  obtain ⟨v1, vs1, d1, ds1, p1, q1, rfl, rfl, rfl, h1, rr1⟩ := trodAll_cons rr0
  obtain ⟨rfl, rfl, rfl⟩ := trodAll_nil rr1
  obtain rfl : args = #[v0, v1] := by cases args; simp_all
  obtain ⟨rfl, rfl⟩ := trodVars_none hV
  have k0 := h0
  obtain ⟨a0, r0, c0, hv0, b0⟩ := open_stps (hval 0 22 v0 rfl rfl) h0
  obtain ⟨a1, rfl, rfl, rfl⟩ := open_bool Tryz.underlying4 (hval 1 4 v1 rfl rfl) h1
  clear hA0 hval0
  simp only [List.append_nil] at hW'
  rw [hv0]
  refine (last_walk a0 r0 c0 a1 W b0).mono fun e W' ⟨he, hg⟩ => ?_
  subst he
  rw [← hv0]
  exact ⟨_, rfl, post_of_below (pa := (p0 ++ ([] ++ []))) (pv := []) hW' (fun _ _ _ => (trodAll_cons_mk (shut_bool Tryz.underlying4 _) trodAll_mk0)) (fun sp hsp => (trodAll_cons_mk (WideElems.Trod_stays laidKn (by kernel_rfl) (of_decide_eq_true (by kernel_rfl)) k0 (fun x hx => hg.same (hW'.lt x (by simp [hx]))) (fun x hx => hsp x (by simp [hx]))) (trodAll_cons_mk (shut_bool Tryz.underlying4 a1) trodAll_mk0))) (fun _ _ => rfl) (by simp)
    hg (ok_one (by kernel_rfl) rfl (okWide_bool_mk Tryz.underlying4 _))⟩
theorem over : Rows.readerLastRow.holds Tryz.pinned (OpenSpec.ofChange Rows.readerLastSpec) :=
  OpenClaim.holds_of_wide 3 Tryz.f3 rfl rfl rfl rfl rfl rfl rfl ⟨rfl, rfl, rfl, rfl, rfl⟩ rfl rfl rfl rfl rfl (by kernel_rfl) Tryz.func3 (by kernel_rfl)
    (of_decide_eq_true (by kernel_rfl)) (by unfold Func.isWrapper; first | (rw [if_pos (by decide +kernel)]; kernel_rfl) | (rw [if_neg (by decide +kernel)]; exact ⟨rfl, rfl⟩))
    (fun os started H enc _ => lifted os started H enc)
theorem proved : Rows.ReaderLastSaid :=
  over
#print axioms proved
end Go.Proofs.YtmcpkhknjdiocaaGreat.readerLast
