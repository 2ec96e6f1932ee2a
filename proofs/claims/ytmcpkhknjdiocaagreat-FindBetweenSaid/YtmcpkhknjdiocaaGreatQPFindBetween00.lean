/- FindBetween: a key that isn't there has a neighbour above it, or none: the walk. FindBetween: whatever the input: true; the input reads as it did. -/
import Derived.Test.YtmcpkhknjdiocaaGreatQB23
import Derived.SizedLaws
set_option linter.unusedSimpArgs false
set_option linter.unusedVariables false
namespace Go.Proofs.YtmcpkhknjdiocaaGreat
open Go.RowKit
attribute [local go_sem low] mk_extract
attribute [local go_sem] After.cell After.frozen mk_extract_end ByteArray.mk_append_mk
theorem aboveR (t rt : Nat) (keys : List Nat) (n : Nat) (hn : n < 256) (hrt : rt = Sp.Rt.root (Sp.treeN keys).1) (w : World) (h : TnS w t keys) :
    Calls Tryz.prog 29 #[.pointer (some ⟨t, 0, none⟩), .int .i64 (rt : Int), .string ⟨(Sp.keyN n).toArray⟩] w fun e w' => FindN e (Sp.fromN (Sp.numsOf keys) n) ∧ Below w.heap.size w w' := by
  subst hrt
  exact aboveN t keys n hn w h
theorem getR (t rt : Nat) (keys : List Nat) (n : Nat) (hn : n < 256) (hrt : rt = Sp.Rt.root (Sp.treeN keys).1) (w : World) (h : TnS w t keys) :
    Calls Tryz.prog 32 #[.pointer (some ⟨t, 0, none⟩), .int .i64 (rt : Int), .string ⟨(Sp.keyN n).toArray⟩] w fun e w' => FindN e (if n ∈ Sp.numsOf keys then some n else none) ∧ Below w.heap.size w w' := by
  subst hrt
  exact getN t keys n hn w h
set_option maxRecDepth 100000 in
set_option maxHeartbeats 1600000 in
theorem findBetween_walk (keys : List Nat) (k : Nat) (hk8 : k < 256) (A : Option Addr) (c : Nat) (w : World) (hk : U8s w A keys) (h256 : ∀ k ∈ keys, k < 256) :
    Calls Tryz.prog 6 #[.slice A keys.length c, .int .u8 (k : Int)] w fun e w' => e = .returned (.bool true) ∧ Below w.heap.size w w' := by
  have HK := Lib.hid hk
  have H256 := Lib.hid h256
  have hl := Row.len hk
  rw [List.length_map] at hl
  clear hk h256
  by_cases hn : keys.length ≤ 100
  · have HGT := Lib.hid (fun W (hb : Below w.heap.size w W) => tree_any keys A c W (Row.go HK.out hb) H256.out (by omega))
    have hn0 : ¬ (100 < (keys.length : Int)) := by omega
    have hkl : keys.length ≤ 120 := by omega
    go_enter Tryz.func6, Tryz.ntmps6
    go_upto_region 6 with (first
      | (go_at_call 26; refine (known10_any _).mono ?_; rintro e w1 ⟨rfl, hb1⟩; have HB1 := Lib.hid hb1; clear hb1)
      | (go_at_call 27; refine (HGT.out _ HB1.out).mono ?_; rintro e w2 ⟨f, P, rfl, _, hd, hta, hb⟩; generalize hnp : P.length + 2 = np; have HNP := Lib.hid hnp; clear hnp; have HD := Lib.hid hd; have HTA := Lib.hid hta; have HB := Lib.hid (HB1.out.trans (hb.mono HB1.out.size)); clear hd hta hb HB1))
    clear HGT
    have hpl := HTA.out.len
    have hsm := file_small P
    have hnw := fun (t f' m d : Nat) (last : Int) (v : Value) (W : World) (hst : St0 W t f' m d last v ([[], []] ++ P.map Sp.bytes)) h1 h2 => TnS.of hst HTA.out h1 h2
    have hl2 : ([[], []] ++ P.map Sp.bytes).length = P.length + 2 := by simp
    generalize [[], []] ++ P.map Sp.bytes = V at *
    obtain ⟨g, cap, c0, htx, hcap⟩ := HD.out.opn (by omega) (by omega)
    have HTX := Lib.hid htx
    have HSM := Lib.hid hsm
    have HNW := Lib.hid hnw
    have hV4 : V.length ≤ 400 := by omega
    clear hsm hnw htx HD HTA
    have hnp := HNP.out
    have hnp2 : (2 : Int) ≤ (np : Int) := by omega
    have hnp4 : (np : Int) ≤ 400 := by omega
    clear hnp HNP hl2
    go_upto_region 7 with (first
      | (go_at_call 12; refine (fileNew_any V g 0 cap _ HTX.out hV4 hcap HSM.out).mono ?_; rintro e w3 ⟨f', v, m, rfl, hfa, _, _, _, hb3⟩; have HFA := Lib.hid hfa; have HB3 := Lib.hid (HB.out.trans (hb3.mono HB.out.size)); clear hfa hb3)
      | (go_at_call 28; refine (storeNew_any f' m (np : Int) v V _ HFA.out hnp2 hnp4).mono ?_; rintro e w4 ⟨t, d, rfl, hst, hb4⟩; have HST := Lib.hid hst; have HB4 := Lib.hid (HB3.out.trans (hb4.mono HB3.out.size)); clear hst hb4))
    have S := Lib.hid (show KnS w w4 t keys [] from ⟨HNW.out t f' m d (np : Int) v w4 HST.out H256.out (by omega), fun p hp => by (cases hp), HB4.out⟩)
    clear HNW HST HB4 HFA HB3 HTX HSM HB c0
    obtain ⟨rt, hrt⟩ : ∃ rt : Nat, rt = Sp.Rt.root (Sp.treeN keys).1 := ⟨_, rfl⟩
    rw [← hrt]
    have HRT := Lib.hid hrt
    clear hrt
    go_upto_region 9 with fail
    go_loopw [9, 10, 11] (fun av bv iv wr => ∃ j : Nat, j ≤ keys.length ∧ iv = .int .i64 (j : Int) ∧ av = .int .i64 ((Sp.leastF k (keys.take j) : Nat) : Int) ∧ bv = .int .i64 ((Sp.leastF (k + 1) (keys.take j) : Nat) : Int) ∧ wr = w4) (fun _ _ iv _ => keys.length - (intOf iv).toNat)
    case atStart => exact ⟨0, Nat.zero_le _, rfl, rfl, rfl, rfl⟩
    case round =>
      obtain ⟨j, hj, rfl, rfl, rfl, rfl⟩ := hrel
      by_cases hlt : j < keys.length
      · obtain ⟨kb, ko, rfl, hkc⟩ := HK.out.cell S.out.hb hlt
        have hk2 := H256.out _ (show keys.getD j 0 ∈ keys by simp [List.getD, hlt])
        have HA := Lib.hid (Sp.leastF_snoc k (keys.take j) (keys.getD j 0))
        have HB := Lib.hid (Sp.leastF_snoc (k + 1) (keys.take j) (keys.getD j 0))
        rw [← Sp.take_snoc hlt] at HA HB
        generalize keys.getD j 0 = n at *
        generalize Sp.leastF k (keys.take j) = na at *
        generalize Sp.leastF (k + 1) (keys.take j) = nb at *
        by_cases h1 : k ≤ n
        · have h1' : (k : Int) ≤ (n : Int) := by omega
          by_cases h2 : k < n
          · have h2' : (k : Int) < (n : Int) := by omega
            go_wp2_with fail
            refine ⟨⟨j + 1, by omega, by go_num, by rw [HA.out, if_pos h1]; congr 1; omega, by rw [HB.out, if_pos (by omega)]; congr 1; omega, trivial⟩, by simp [intOf]; omega⟩
          · have h2' : ¬ ((k : Int) < (n : Int)) := by omega
            go_wp2_with fail
            refine ⟨⟨j + 1, by omega, by go_num, by rw [HA.out, if_pos h1]; congr 1; omega, by rw [HB.out, if_neg (by omega)], trivial⟩, by simp [intOf]; omega⟩
        · have h1' : ¬ ((k : Int) ≤ (n : Int)) := by omega
          have h2' : ¬ ((k : Int) < (n : Int)) := by omega
          go_wp2_with fail
          refine ⟨⟨j + 1, by omega, by go_num, by rw [HA.out, if_neg h1], by rw [HB.out, if_neg (by omega)], trivial⟩, by simp [intOf]; omega⟩
      · obtain rfl : j = keys.length := by omega
        rw [List.take_length]
        have CK := Lib.hid (fun (W : World) => key_any k hk8 W)
        have HX1 := Lib.hid (aboveR t rt keys k hk8 HRT.out)
        have HX2 := Lib.hid (behindR t rt keys k hk8 HRT.out)
        have HX3 := Lib.hid (getR t rt keys k hk8 HRT.out)
        have HLA := Lib.hid (Sp.leastF_is H256.out k)
        have HLB := Lib.hid (Sp.leastF_is H256.out (k + 1))
        have HLT := Lib.hid (fun n m (h : Sp.fromN (Sp.numsOf keys) n = some m) => Sp.from_lt (Sp.numsOf_lt H256.out) h)
        have HSE := Lib.hid (Sp.from_self (Sp.numsOf_sorted keys) k)
        generalize Sp.leastF k keys = na at *
        generalize Sp.leastF (k + 1) keys = nb at *
        clear hlt hj
        go_upto_region 17 with (first
          | (go_at_call 30; refine (CK.out _).mono ?_; rintro e w6 ⟨rfl, hb6⟩; replace S := Lib.hid (S.out.go hb6); clear hb6)
          | (go_at_call 29; refine (HX1.out _ S.out.tn).mono ?_; rintro e w7 ⟨hfi, hb7⟩; obtain ⟨a0, a1, a2, a3, a4, a5, a6, a7, a8, a9, ev1, rfl, hall, hxn⟩ := hfi.form; replace S := Lib.hid (S.out.go hb7); have XN1 := Lib.hid hxn; have HAL := Lib.hid hall; clear hfi hb7 hxn hall)
          | (refine wpList_new ItemT _ _ rfl rfl rfl rfl rfl rfl _ rfl (of_decide_eq_true (by kernel_rfl)) (by kernel_rfl) (by kernel_rfl) HAL.out ?_))
        refine wp_gen (fun W => KnS w W t keys [] ∧ Blk W w7.heap.size ItemT #[a0, a1, a2, a3, a4, a5, a6, a7, a8, a9]) ⟨S.out.go ((Below.refl _ _).alloc (Nat.le_refl _) _), Blk.new _ _ _⟩ ?_
        clear S HAL
        generalize w7.heap.size = bx at *
        rintro w8 ⟨hS, hx⟩
        have S := Lib.hid hS
        have BX := Lib.hid hx
        clear hS hx
        go_upto_region 18 with (first
          | (go_at_call 31; refine (HX2.out _ S.out.tn).mono ?_; rintro e w7 ⟨hfi, hb7⟩; obtain ⟨d0, d1, d2, d3, d4, d5, d6, d7, d8, d9, ev2, rfl, hall, hxn⟩ := hfi.form; replace S := Lib.hid (S.out.go hb7); replace BX := Lib.hid (BX.out.below hb7 BX.out.lt); have XN2 := Lib.hid hxn; have HAL := Lib.hid hall; clear hfi hb7 hxn hall)
          | (refine wpList_new ItemT _ _ rfl rfl rfl rfl rfl rfl _ rfl (of_decide_eq_true (by kernel_rfl)) (by kernel_rfl) (by kernel_rfl) HAL.out ?_))
        have hal : Below w7.heap.size w7 (w7.alloc (.cells #[d0, d1, d2, d3, d4, d5, d6, d7, d8, d9] ItemT)) := (Below.refl _ _).alloc (Nat.le_refl _) _
        refine wp_gen (fun W => KnS w W t keys [] ∧ Blk W bx ItemT #[a0, a1, a2, a3, a4, a5, a6, a7, a8, a9] ∧ Blk W w7.heap.size ItemT #[d0, d1, d2, d3, d4, d5, d6, d7, d8, d9]) ⟨S.out.go hal, BX.out.below hal BX.out.lt, Blk.new _ _ _⟩ ?_
        clear S HAL BX hal
        generalize w7.heap.size = bz at *
        rintro w9 ⟨hS, hx, hz⟩
        have S := Lib.hid hS
        have BX := Lib.hid hx
        have BZ := Lib.hid hz
        clear hS hx hz
        go_upto_region 19 with (first
          | (go_at_call 32; refine (HX3.out _ S.out.tn).mono ?_; rintro e w7 ⟨hfi, hb7⟩; obtain ⟨g0, g1, g2, g3, g4, g5, g6, g7, g8, g9, ev3, rfl, hall, hxn⟩ := hfi.form; replace S := Lib.hid (S.out.go hb7); replace BX := Lib.hid (BX.out.below hb7 BX.out.lt); replace BZ := Lib.hid (BZ.out.below hb7 BZ.out.lt); have XN3 := Lib.hid hxn; have HAL := Lib.hid hall; clear hfi hb7 hxn hall)
          | (refine wpList_new ItemT _ _ rfl rfl rfl rfl rfl rfl _ rfl (of_decide_eq_true (by kernel_rfl)) (by kernel_rfl) (by kernel_rfl) HAL.out ?_))
        have hal : Below w7.heap.size w7 (w7.alloc (.cells #[g0, g1, g2, g3, g4, g5, g6, g7, g8, g9] ItemT)) := (Below.refl _ _).alloc (Nat.le_refl _) _
        refine wp_gen (fun W => KnS w W t keys [] ∧ Blk W bx ItemT #[a0, a1, a2, a3, a4, a5, a6, a7, a8, a9] ∧ Blk W bz ItemT #[d0, d1, d2, d3, d4, d5, d6, d7, d8, d9]) ⟨S.out.go hal, BX.out.below hal BX.out.lt, BZ.out.below hal BZ.out.lt⟩ ?_
        clear S HAL BX BZ hal
        generalize w7.heap.size = bq at *
        rintro w10 ⟨hS, hx, hz⟩
        have S := Lib.hid hS
        have BX := Lib.hid hx
        have BZ := Lib.hid hz
        clear hS hx hz
        have EI := Lib.hid (fun (W : World) => show Calls Tryz.prog 22 #[.iface ErrT (.int .i64 21), .iface ErrT (.int .i64 21)] W (fun e w' => e = .returned (.bool true) ∧ Below W.heap.size W w') from (errIs_same 21 W).mono fun e w' ⟨h1, h2⟩ => ⟨h1, h2 ▸ Below.refl _ _⟩)
        go_cut [119] (fun s119 W => s119 = .bool false ∧ Below w10.heap.size w10 W)
        case first =>
          rcases hf : Sp.fromN (Sp.numsOf keys) k with _ | m
          · have ha : na = 256 := by rw [HLA.out, hf]; rfl
            have hxn := XN1.out
            rw [hf] at hxn
            obtain ⟨_, rfl⟩ := hxn
            clear hf HLA HLB XN1 XN2 XN3 BX BZ HSE
            subst ha
            as_aux_lemma =>
              refine wp_region_row (by kernel_rfl) (by kernel_rfl) ?_
              repeat (first | go_big_quiet_skip | (go_big_quiet_step (first | (go_at_call 22; exact after_call (Nat.le_refl _) (EI.out _)))))
              refine wpQuiet_nil ?_
              intro w11 hb11
              go_wp2_with fail
              go_meet
              case rel => exact ⟨rfl, hb11⟩
          · have ha : na = m := by rw [HLA.out, hf]; rfl
            have hm := HLT.out _ _ hf
            have hxn := XN1.out
            rw [hf] at hxn
            obtain ⟨rfl, V', cc, he⟩ := hxn
            simp only [Array.mk.injEq, List.cons.injEq, and_true] at he
            obtain ⟨rfl, rfl, rfl, rfl, rfl, rfl, rfl, rfl, rfl, rfl⟩ := he
            have CM := Lib.hid (fun (W : World) => key_any m hm W)
            have x0 := BX.out.cell 0
            have hxl := BX.out.lt
            simp at x0
            clear hf HLA HLB XN1 XN2 XN3 BX BZ HSE
            subst ha
            have hne : ¬ ((na : Int) = 256) := by omega
            have hneb : ((na : Int) == 256) = false := beq_eq_false_iff_ne.2 hne
            have hlt2 : (na : Int) < 256 := by omega
            as_aux_lemma =>
              refine wp_region_row (by kernel_rfl) (by kernel_rfl) ?_
              repeat (first | go_big_quiet_skip | (go_big_quiet_step (first | (go_at_call 30; exact after_call (Nat.le_refl _) (CM.out _)))))
              refine wpQuiet_nil ?_
              intro w11 hb11
              go_wp2_with fail
              go_meet
              case rel => exact ⟨rfl, hb11⟩
        case rest =>
        obtain ⟨rfl, hb⟩ := hcut
        obtain ⟨w12, rfl⟩ : ∃ W, W = wc := ⟨_, rfl⟩
        replace S := Lib.hid (S.out.go hb)
        replace BX := Lib.hid (BX.out.below hb BX.out.lt)
        replace BZ := Lib.hid (BZ.out.below hb BZ.out.lt)
        clear hb
        go_upto_region 21 with fail
        go_cut [142] (fun s142 W => s142 = .bool false ∧ Below w12.heap.size w12 W)
        case first =>
          rcases hf : Sp.fromN (Sp.numsOf keys) (k + 1) with _ | m
          · have ha : nb = 256 := by rw [HLB.out, hf]; rfl
            have hxn := XN2.out
            rw [hf] at hxn
            obtain ⟨_, rfl⟩ := hxn
            clear hf HLA HLB XN1 XN2 XN3 BX BZ HSE
            subst ha
            as_aux_lemma =>
              refine wp_region_row (by kernel_rfl) (by kernel_rfl) ?_
              repeat (first | go_big_quiet_skip | (go_big_quiet_step (first | (go_at_call 22; exact after_call (Nat.le_refl _) (EI.out _)))))
              refine wpQuiet_nil ?_
              intro w11 hb11
              go_wp2_with fail
              go_meet
              case rel => exact ⟨rfl, hb11⟩
          · have ha : nb = m := by rw [HLB.out, hf]; rfl
            have hm := HLT.out _ _ hf
            have hxn := XN2.out
            rw [hf] at hxn
            obtain ⟨rfl, V', cc, he⟩ := hxn
            simp only [Array.mk.injEq, List.cons.injEq, and_true] at he
            obtain ⟨rfl, rfl, rfl, rfl, rfl, rfl, rfl, rfl, rfl, rfl⟩ := he
            have CM := Lib.hid (fun (W : World) => key_any m hm W)
            have x0 := BZ.out.cell 0
            have hxl := BZ.out.lt
            simp at x0
            clear hf HLA HLB XN1 XN2 XN3 BX BZ HSE
            subst ha
            have hne : ¬ ((nb : Int) = 256) := by omega
            have hneb : ((nb : Int) == 256) = false := beq_eq_false_iff_ne.2 hne
            have hlt2 : (nb : Int) < 256 := by omega
            as_aux_lemma =>
              refine wp_region_row (by kernel_rfl) (by kernel_rfl) ?_
              repeat (first | go_big_quiet_skip | (go_big_quiet_step (first | (go_at_call 30; exact after_call (Nat.le_refl _) (CM.out _)))))
              refine wpQuiet_nil ?_
              intro w11 hb11
              go_wp2_with fail
              go_meet
              case rel => exact ⟨rfl, hb11⟩
        case rest =>
        obtain ⟨rfl, hb⟩ := hcut
        obtain ⟨w13, rfl⟩ : ∃ W, W = wc := ⟨_, rfl⟩
        replace S := Lib.hid (S.out.go hb)
        replace BX := Lib.hid (BX.out.below hb BX.out.lt)
        replace BZ := Lib.hid (BZ.out.below hb BZ.out.lt)
        clear hb
        go_upto_region 23 with fail
        have hxn := XN3.out
        by_cases hin : k ∈ Sp.numsOf keys
        · rw [if_pos hin] at hxn
          obtain ⟨rfl, _⟩ := hxn
          have ha : na = k := by rw [HLA.out, HSE.out.2 hin]; rfl
          clear HLA HLB XN1 XN2 XN3 BX BZ HSE hin
          subst ha
          go_wp2_with fail
          go_ret
          exact ⟨rfl, S.out.hb⟩
        · rw [if_neg hin] at hxn
          obtain ⟨_, rfl⟩ := hxn
          have ha : ¬ ((na : Int) = (k : Int)) := by
            have h1 := HLA.out
            cases hf : Sp.fromN (Sp.numsOf keys) k with
            | none => rw [hf] at h1; have h1 : na = 256 := h1; omega
            | some m =>
              rw [hf] at h1
              have h1 : na = m := h1
              intro e
              have e : m = k := by omega
              rw [e] at hf
              exact hin (HSE.out.1 hf)
          have hab : ((na : Int) == (k : Int)) = false := beq_eq_false_iff_ne.2 ha
          clear HLA HLB XN1 XN2 XN3 BX BZ HSE hin
          go_wp2_with fail
          go_ret
          exact ⟨rfl, S.out.hb⟩
  · have hn1 : 100 < (keys.length : Int) := by omega
    go_enter Tryz.func6, Tryz.ntmps6
    go_wp2_with (go_at_call 26; refine (known10_any _).mono ?_; rintro e w1 ⟨rfl, hb1⟩)
    go_ret
    exact ⟨rfl, hb1⟩
theorem findBetween_int (keys : List Nat) (a : Int) (h0 : 0 ≤ a) (h1 : a ≤ 255) (A : Option Addr) (c : Nat) (w : World) (hk : U8s w A keys) (h256 : ∀ k ∈ keys, k < 256) :
    Calls Tryz.prog 6 #[.slice A keys.length c, .int .u8 a] w fun e w' => e = .returned (.bool true) ∧ Below w.heap.size w w' := by
  obtain ⟨k, rfl⟩ := Int.eq_ofNat_of_zero_le h0
  exact findBetween_walk keys k (by omega) A c w hk h256
end Go.Proofs.YtmcpkhknjdiocaaGreat
namespace Go.Proofs.YtmcpkhknjdiocaaGreat.findBetween
open Go.ChangeShapes Go.WideShapes Go.ChangeAt Go.RowKit
set_option maxRecDepth 100000 in
theorem lifted (os : Os) (started : os.Started) (H : Type) (enc : TypeId × Value → H) :
    ReturnsInHanded {} Tryz.checked os 6 .any (Rows.findBetweenSpec.pre6 enc Tryz.prog Tryz.f6 Rows.findBetweenRow.domain false) (Rows.findBetweenSpec.post enc Tryz.prog Tryz.f6 false true false false) := by
  refine returnsInHanded_of_change_sized (C := Tryz.checked) ownKn started (by kernel_rfl) Tryz.func6
    (ChangeSpec.witness6 (enc := enc) (C := Tryz.checked) false ⟨#[], #[.slice none 0 0, .int .u8 0], []⟩ 8 (by kernel_rfl) (by kernel_rfl) (by kernel_rfl) (by kernel_rfl)) ?_
  intro W base args ds gs before hval0 hW hcnd hsz0 _
  have hval : ∀ (j : Nat) t v, Tryz.f6.params[j]? = some t → args[j]? = some v → Value.okWide Tryz.prog W .any base t v := hval0
  have hW' := hW
  obtain ⟨p, q, hA0, hV, rfl, hfz, hnd⟩ := hW
  have hA : DataW.TrodAll enc Tryz.prog W 0 (fun _ => true) true Tryz.f6.params.toList args.toList ds p := hA0
  have hsz : (DataW.weightsEach Tryz.prog (Tryz.f6.params.toList ++ Rows.findBetweenSpec.plain.varTypes Tryz.prog) (ds ++ gs)).all (· ≤ reachBytes) = true := hsz0
  rw [Tryz.params6] at hA hval hsz
  obtain ⟨v0, vs0, d0, ds0, p0, q0, hargs, rfl, rfl, h0, rr0⟩ := trodAll_cons hA
  obtain ⟨v1, vs1, d1, ds1, p1, q1, rfl, rfl, rfl, h1, rr1⟩ := trodAll_cons rr0
  obtain ⟨rfl, rfl, rfl⟩ := trodAll_nil rr1
  obtain rfl : args = #[v0, v1] := by cases args; simp_all
  obtain ⟨rfl, rfl⟩ := trodVars_none hV
  have k0 := h0
  obtain ⟨a0, r0, c0, hv0, b0, g0⟩ := open_u8s (hval 0 60 v0 rfl rfl) h0
  obtain ⟨a1, rfl, rfl, rfl, w1⟩ := open_int Tryz.underlying5 (hval 1 5 v1 rfl rfl) h1
  clear hA0 hval0
  simp only [List.append_nil] at hW'
  rw [hv0]
  refine (findBetween_int a0 a1 (bounds_u8 w1).1 (bounds_u8 w1).2 r0 c0 W b0 g0).mono fun e W' ⟨he, hg⟩ => ?_
  subst he
  rw [← hv0]
  exact ⟨_, rfl, post_of_below (pa := (p0 ++ ([] ++ []))) (pv := []) hW' (fun _ _ _ => (trodAll_cons_mk (shut_bool Tryz.underlying4 _) trodAll_mk0)) (fun sp hsp => (trodAll_cons_mk (WideElems.Trod_stays laidKn (by kernel_rfl) (of_decide_eq_true (by kernel_rfl)) k0 (fun x hx => hg.same (hW'.lt x (by simp [hx]))) (fun x hx => hsp x (by simp [hx]))) (trodAll_cons_mk (shut_int Tryz.underlying5 w1) trodAll_mk0))) (fun _ _ => rfl) (by simp)
    hg (ok_one (by kernel_rfl) rfl (okWide_bool_mk Tryz.underlying4 _))⟩
theorem over : Rows.findBetweenRow.holds Tryz.pinned (OpenSpec.ofChange Rows.findBetweenSpec) :=
  OpenClaim.holds_of_wide 6 Tryz.f6 rfl rfl rfl rfl rfl rfl rfl ⟨rfl, rfl, rfl, rfl, rfl⟩ rfl rfl rfl rfl rfl (by kernel_rfl) Tryz.func6 (by kernel_rfl)
    (of_decide_eq_true (by kernel_rfl)) (by unfold Func.isWrapper; first | (rw [if_pos (by decide +kernel)]; kernel_rfl) | (rw [if_neg (by decide +kernel)]; exact ⟨rfl, rfl⟩))
    (fun os started H enc _ => lifted os started H enc)
theorem proved : Rows.FindBetweenSaid :=
  over
#print axioms proved
end Go.Proofs.YtmcpkhknjdiocaaGreat.findBetween
