/- A page of values of an elder version: the law's walk. DupElder: whatever the input: true; the input reads as it did. -/
import Derived.Test.YtkcfmjlcijhieaaGreatQB00
import Derived.Test.YtkcfmjlcijhieaaGreatQPDElder08
import Derived.SizedLaws
set_option linter.unusedSimpArgs false
set_option linter.unusedVariables false
namespace Go.Proofs.YtkcfmjlcijhieaaGreat
open Go.RowKit
attribute [local go_sem low] mk_extract
attribute [local go_sem] After.cell After.frozen mk_extract_end ByteArray.mk_append_mk
set_option maxRecDepth 100000 in
set_option maxHeartbeats 25600000 in
theorem elder_walk (n val : Int) (take : Bool) (h0 : 0 ≤ n) (h1 : n ≤ 255) (h2 : 0 ≤ val) (h3 : val ≤ 255) (w : World) :
    Calls Tryz.prog 14 #[.int .u8 n, .int .u8 val, .bool take] w fun e w' => e = .returned (.bool true) ∧ Below w.heap.size w w' := by
  have HKN := Lib.hid (known14_any w)
  obtain ⟨U, rfl⟩ : ∃ U : Nat, val = U := ⟨val.toNat, by omega⟩
  obtain ⟨K, hK⟩ : ∃ K : Nat, n % 7 + 4 = K := ⟨(n % 7 + 4).toNat, by omega⟩
  have hK2 : 4 ≤ K ∧ K ≤ 10 := by omega
  go_enter Tryz.func14, Tryz.ntmps14
  go_upto_region 5 with (first
    | (go_at_call 49; refine HKN.out.mono ?_; rintro e w1 ⟨rfl, hb1⟩; have HB1 := Lib.hid hb1; clear hb1)
    | (go_at_call 20; refine (fileNew_any Sp.eV w1.heap.size 0 2 _ (eV_txts w1) (by decide) (by decide) Sp.eV_sz).mono ?_; rintro e w2 ⟨f, fv, m, rfl, hf, _, _, _, hb2⟩; have HF := Lib.hid hf; have HB2 := Lib.hid hb2; clear hf hb2)
    | (go_at_call 28; refine (stoNew_any f m fv Sp.eV 2 400 (.slice none 0 0) [] _ HF.out (nil_ivO _)).mono ?_; rintro e w3 ⟨t, d, M, rfl, hst, hM, hb3, ht, hd⟩; have HST := Lib.hid hst; have HB3 := Lib.hid hb3; clear hst hM hb3))
  have S0 := Lib.hid (DxS.new_ (HB1.out.alloc HB1.out.size _) HB2.out HB3.out HST.out ht hd [107])
  clear HF HB1 HB2 HB3 HST ht hd HKN
  go_upto_region 6 with (refine wpList_new ItemT _ _ rfl rfl rfl rfl rfl rfl _ rfl (of_decide_eq_true (by kernel_rfl)) (by kernel_rfl) (by kernel_rfl) (by kernel_rfl) ?_)
  obtain ⟨b0, hb0⟩ : ∃ b, b = w3.heap.size := ⟨_, rfl⟩
  rw [← hb0] at S0 ⊢
  refine wp_gen _ S0.out ?_
  intro W1 hW1
  have S1 := Lib.hid hW1
  clear hW1 S0 hb0
  go_upto_region 8 with fail
  go_loopw [11] (fun i wr => ∃ j : Nat, j ≤ K ∧ i = .int .i64 j ∧ DxS w M t f m d fv [107] (Sp.lE j) b0 wr) (fun i _ => K - (intOf i).toNat)
  case atStart => exact ⟨0, by omega, rfl, S1.out⟩
  case round =>
    obtain ⟨j, hj, rfl, hs⟩ := hrel
    have S := Lib.hid hs
    clear hs S1
    by_cases hjK : j < K
    · have hno := Sp.lE_no j (by omega)
      have hlen := Sp.lE_len j
      have HEQ := Lib.hid (show Sp.lE (j + 1) = Sp.insT [UInt8.ofNat (98 + j)] (Sp.lE j) from rfl)
      have hcv := fun w => conv1k w (98 + (j : Int))
      have hcc : UInt8.ofNat (98 + (j : Int)).toNat = UInt8.ofNat (98 + j) := by congr 1
      rw [hcc] at hcv
      obtain ⟨kind, A, n1, c, dup, s, hx, hI, hD, hst⟩ := S.out.ex
      have HX := Lib.hid hx
      have HAD := Lib.hid (fun (W : World) (hb : Below wr.heap.size wr W) => add_ok _ t f m d fv Sp.eV s [107] (Sp.lE j) kind A n1 c dup [UInt8.ofNat (98 + j)] W (hst.go hb) (by decide) hD (hI.chg (S := NoM) (Chg.of_below hb) (fun _ _ _ h => h)) (Sp.lE_srt j (by omega)) (by omega) ⟨by simp, by simp⟩ hno)
      have HNK := Lib.hid (hst.not_kind (ty := ItemT) (by decide))
      clear hx hI hD hst hno hlen
      rw [← HEQ.out] at HAD
      obtain ⟨l1, hl1⟩ : ∃ l1, l1 = Sp.lE (j + 1) := ⟨_, rfl⟩
      rw [← hl1] at HAD
      have HL1 := Lib.hid hl1
      clear HEQ hl1
      generalize UInt8.ofNat (98 + j) = ch at *
      go_upto_region 13 with (first
        | (refine wpList_row ItemT _ rfl b0 rfl rfl ItemT _ (0, 0) _ HX.out Tryz.underlying90 rfl rfl ?_)
        | (go_at_call 50; refine (HAD.out _ ((Below.refl _ _).alloc (Nat.le_refl _) _)).mono ?_; rintro e w5 ⟨x5, rfl, ⟨kind', A', n', c', dup', s', rfl, hI', hD', hst'⟩, hk5⟩; have K5 := Lib.hid ((Chg.of_below (S := TwoM t d) ((Below.refl wr.heap.size wr).alloc (Nat.le_refl _) _)).trans hk5); have HI := Lib.hid hI'; have HD := Lib.hid hD'; have HST := Lib.hid hst'; clear hI' hD' hst' hk5)
        | (refine wpList_new ItemT _ _ rfl rfl rfl rfl rfl rfl _ rfl (of_decide_eq_true (by kernel_rfl)) (by kernel_rfl) (by kernel_rfl) (by kernel_rfl) ?_))
      refine wp_gen (fun W => Below w5.heap.size w5 W ∧ Blk W w5.heap.size ItemT (itA [107] kind' A' n' c' dup')) ⟨(Below.refl _ _).alloc (Nat.le_refl _) _, Blk.new _ _ _⟩ ?_
      rintro w6 ⟨hb6, hy6⟩
      have HB6 := Lib.hid hb6
      have HY := Lib.hid hy6
      have HX5 := Lib.hid (HX.out.chg K5.out (HNK.out _ _ HX.out))
      have HX6 := Lib.hid (HX5.out.below hb6 HX5.out.lt)
      clear hb6 hy6 HX HX5 HNK HAD hcv
      go_wp2_with (first
        | (refine wpList_row ItemT _ rfl w5.heap.size rfl rfl ItemT _ (0, 0) _ HY.out Tryz.underlying90 rfl rfl ?_)
        | (refine wpList_store_row rfl ItemT _ _ rfl b0 _ rfl rfl ItemT _ HX6.out (by kernel_rfl) rfl (itA_all _ _ _ _ _ _) ?_))
      go_roundw
      case rel => exact ⟨j + 1, by omega, by go_num, by rw [← HL1.out]; exact S.out.put HX6.out (K5.out.trans (Chg.of_below HB6.out)) (HI.out.chg (Chg.of_below (S := NoM) HB6.out) (fun _ _ _ h => h)) HD.out (HST.out.go HB6.out)⟩
      case measure => simp [intOf]; omega
    · obtain rfl : j = K := by omega
      have hlen := Sp.lE_len j
      have hsrt := Sp.lE_srt j (by omega)
      have hna := Sp.lE_a j (by omega)
      have hha := Sp.lE_has j (by omega) (U % j) (Nat.mod_lt _ (by omega))
      have hne : Sp.lE j ≠ [] := fun e => by rw [e] at hlen; simp at hlen; omega
      obtain ⟨kind, A, n1, c, dup, s, hx, hI, hD, hst⟩ := S.out.ex
      obtain ⟨l, hl⟩ : ∃ l, l = Sp.lE j := ⟨_, rfl⟩
      rw [← hl] at hI hD hlen hsrt hna hha hne S
      obtain rfl := hI.nz hne
      obtain rfl := hI.dp
      have hdp : Sp.duP l = 2 := by unfold Sp.duP; rw [if_neg (by omega)]
      rw [hdp] at hx
      have hpg := Sp.dp_vals hsrt (by omega) (by omega)
      have hrd : s.read Sp.eV 2 = (Sp.dpPg l, none) := by
        rw [Sp.Sto.read_in s Sp.eV 2 (by rw [hD.most]; decide), hD.look (by omega)]
        rfl
      have HBY := Lib.hid (bytes14_any _ t f m d fv Sp.eV s 2 (Sp.dpPg l) wr hst hD.ok (by decide) hrd)
      have HPG := Lib.hid hpg
      have HX := Lib.hid hx
      have HLN := Lib.hid hlen
      have HSR := Lib.hid hsrt
      have HNA := Lib.hid hna
      have HHA := Lib.hid hha
      have HNE := Lib.hid hne
      clear hx hI hst hD hlen hsrt hna hha hne hdp hpg hrd hl
      have c6 : wr.cell? ⟨b0, 6, none⟩ = some (.int .i64 2) := HX.out.cell 6
      go_upto_region 17 with (first
        | (go_at_call 53; refine HBY.out.mono ?_; rintro e w4 ⟨rfl, hb4⟩; have HB4 := Lib.hid hb4; clear hb4)
        | (go_at_call 20; refine (fileNew_any (Sp.gV l) w4.heap.size 0 3 _ (gV_txts w4 l) (show 3 ≤ 400 by decide) (Nat.le_refl 3) (Sp.gV_sz HPG.out)).mono ?_; rintro e w5 ⟨g, fg, mg, rfl, hg, _, _, _, hb5⟩; have HG := Lib.hid hg; have HB5 := Lib.hid hb5; clear hg hb5)
        | (go_at_call 28; refine (stoNew_any g mg fg (Sp.gV l) 3 400 (.slice none 0 0) [] _ HG6.out (nil_ivO _)).mono ?_; rintro e w7 ⟨u, du, Mu, rfl, hu, hMu, hb7, hu7, hdu7⟩; have HU := Lib.hid hu; have HMU := Lib.hid hMu; have HB7 := Lib.hid hb7; have HU7 := Lib.hid hu7; have HDU7 := Lib.hid hdu7; clear hu hMu hb7 hu7 hdu7; have HX7 := Lib.hid (have x4 := HX.out.below HB4.out HX.out.lt; have x4a := x4.alloc (.cells #[.string ⟨#[]⟩, .string ⟨#[]⟩, .string ⟨(Sp.bytes (Sp.dpPg l)).toArray⟩] StrT); have x5 := x4a.below HB5.out x4a.lt; have x6 := x5.below HB6.out x5.lt; x6.below HB7.out x6.lt); have c67 : w7.cell? ⟨b0, 6, none⟩ = some (.int .i64 2) := HX7.out.cell 6; have f67 := HX7.out.frozen 6)
        | (go_at_call 28; refine (stoNew_any g mg fg (Sp.gV l) 3 400 (.slice none 0 0) [] _ HG.out (nil_ivO _)).mono ?_; rintro e w6 ⟨t2, dt, Mt, rfl, ht2, hMt, hb6, ht6, hdt6⟩; have HT6 := Lib.hid ht2; have HMT := Lib.hid hMt; have HTG := Lib.hid (And.intro ht6 hdt6); have HB6 := Lib.hid hb6; have HG6 := Lib.hid (HG.out.go hb6); clear ht2 hMt hb6 ht6 hdt6))
      have HE7 := Lib.hid (show ElS w Mt Mu t2 u g mg dt du fg l b0 A n1 c w7 from
        have hz0 := S.out.hb.size
        have hz4 := HB4.out.size
        have hz5 := HB5.out.size
        have hz6 := HB6.out.size
        have hzt := HTG.out
        have hzu := HU7.out
        have hzd := HDU7.out
        have hlt := HT6.out.lt t2 HT6.out.hM.1
        have hld := HT6.out.lt dt HT6.out.hM.2
        have hb4 : Below w.heap.size w w4 := S.out.hb.trans (HB4.out.mono hz0)
        have hb4a : Below w.heap.size w (w4.alloc (.cells #[.string ⟨#[]⟩, .string ⟨#[]⟩, .string ⟨(Sp.bytes (Sp.dpPg l)).toArray⟩] StrT)) := hb4.alloc hb4.size _
        have hb5 : Below w.heap.size w w5 := hb4a.trans (HB5.out.mono hb4a.size)
        have hb6 : Below w.heap.size w w6 := hb5.trans (HB6.out.mono hb5.size)
        have hb7 : Below w.heap.size w w7 := hb6.trans (HB7.out.mono hb6.size)
        ⟨HT6.out.go HB7.out, HU.out, HX7.out, hb7, ⟨HMU.out _ hlt, HMU.out _ hld⟩, ⟨by omega, by omega, by omega, by omega⟩, ⟨by have := hb5.size; omega, by have := hb5.size; omega⟩⟩)
      have HMB := Lib.hid (show (Mt b0 ∧ Mu b0) ∧ w.heap.size ≤ b0 from ⟨⟨HMT.out _ (by have := HX.out.lt; have := HB4.out.size; have := HB5.out.size; rw [World.size_alloc] at this; omega), HMU.out _ (by have := HX.out.lt; have := HB4.out.size; have := HB5.out.size; rw [World.size_alloc] at this; have := HB6.out.size; omega)⟩, S.out.ht.2.2⟩)
      refine wp_gen _ (HE7.out.set HMB.out.1 HMB.out.2) ?_
      clear HE7 HMB HT6 HTG HMT HU HMU HB4 HB5 HB6 HB7 HU7 HDU7 HX7 c67 f67 HX c6 S HG HG6 HBY
      intro W8 hW8
      have E8 := Lib.hid hW8
      clear hW8
      have HED := Lib.hid (Sp.gV_ed HPG.out)
      have HVU := Lib.hid (vals_el Mu u g mg du fg (Sp.gV l) _ l [107] A n1 c W8 E8.out.us HED.out (show 3 ≤ 400 by decide))
      rw [HLN.out] at HVU
      obtain ⟨q, hq⟩ : ∃ q : Nat, q = U % j := ⟨_, rfl⟩
      have hqj : q < j := by rw [hq]; exact Nat.mod_lt _ (by omega)
      have hqe : (U : Int) % (j : Int) = (q : Int) := by rw [hq]; omega
      have hqt : (U : Int).tmod (j : Int) = (q : Int) := by rw [Int.tmod_eq_emod_of_nonneg (by omega)]; exact hqe
      have hj0 : ¬ (j : Int) = 0 := by omega
      have hcv := fun w => conv1k w (98 + (q : Int))
      have hcc : UInt8.ofNat (98 + (q : Int)).toNat = UInt8.ofNat (98 + q) := by congr 1
      rw [hcc] at hcv
      have HHQ := Lib.hid (show Sp.hasV l [UInt8.ofNat (98 + q)] = true from by have := HHA.out; rw [← hq] at this; exact this)
      clear hq HHA
      generalize UInt8.ofNat (98 + q) = ch at *
      go_upto_region 19 with (first
        | (refine wpList_row ItemT _ rfl b0 rfl rfl ItemT _ (0, 0) _ E8.out.bx Tryz.underlying90 rfl rfl ?_)
        | (go_at_call 51; refine HVU.out.mono ?_; rintro e w9 ⟨A9, c9, rfl, ho9, hb9⟩; have E9 := Lib.hid (E8.out.go hb9); clear ho9 hb9))
      go_upto_region 20 with (first
        | (refine wpList_row ItemT _ rfl b0 rfl rfl ItemT _ (0, 0) _ (E9.out.bx.alloc _) Tryz.underlying90 rfl rfl ?_)
        | (refine wpList_new ItemT _ _ rfl rfl rfl rfl rfl rfl _ rfl (of_decide_eq_true (by kernel_rfl)) (by kernel_rfl) (by kernel_rfl) (by kernel_rfl) ?_))
      obtain ⟨y, hy⟩ : ∃ y, y = w9.heap.size + 1 := ⟨_, rfl⟩
      try simp only [World.size_alloc]
      rw [← hy]
      have hal : Below w9.heap.size w9 (w9.alloc (.cells #[.int .u8 (98 + (q : Int))] 5)) := (Below.refl _ _).alloc (Nat.le_refl _) _
      have hal2 : Below w9.heap.size w9 ((w9.alloc (.cells #[.int .u8 (98 + (q : Int))] 5)).alloc (.cells (itA [107] 3 A n1 c 2) ItemT)) := hal.alloc hal.size _
      have hyn : Blk ((w9.alloc (.cells #[.int .u8 (98 + (q : Int))] 5)).alloc (.cells (itA [107] 3 A n1 c 2) ItemT)) y ItemT (itA [107] 3 A n1 c 2) := by
        have := Blk.new (w9.alloc (.cells #[.int .u8 (98 + (q : Int))] 5)) ItemT (itA [107] 3 A n1 c 2)
        rw [World.size_alloc, ← hy] at this
        exact this
      refine wp_gen (fun W => ElS w (fun k => Mt k ∨ k = y) (fun k => Mu k ∨ k = y) t2 u g mg dt du fg l b0 A n1 c W ∧ Blk W y ItemT (itA [107] 3 A n1 c 2)) ⟨E9.out.newY hal2 y ⟨by omega, by have := hyn.lt; exact this⟩, hyn⟩ ?_
      have HYB := Lib.hid (show y ≠ b0 ∧ w.heap.size ≤ y from ⟨by have := E9.out.bx.lt; omega, by have := E9.out.hb.size; omega⟩)
      rintro W10 ⟨hE10, hY10⟩
      have E10 := Lib.hid hE10
      have Y10 := Lib.hid hY10
      clear hE10 hY10 hal hal2 hyn hy E9 E8 HVU hcv
      rcases take with _ | _
      · have HAD := Lib.hid (add_ed _ t2 g mg dt fg (Sp.gV l) _ [107] l A n1 c [97] W10 E10.out.ts (show 3 ≤ 400 by decide) HED.out (Sp.isVals_of HSR.out (by rw [HLN.out]; omega) (by rw [HLN.out]; omega)) HSR.out HNE.out (by rw [HLN.out]; omega) ⟨by simp, by simp⟩ HNA.out)
        obtain ⟨l', hl'⟩ : ∃ l', l' = Sp.insT [97] l := ⟨_, rfl⟩
        rw [← hl'] at HAD
        have HLL := Lib.hid (show l'.length = j + 1 from by rw [hl']; first | (rw [Sp.insT_len, HLN.out]; done) | (rw [List.length_eraseIdx]; have hh := HHQ.out; unfold Sp.hasV at hh; rw [Bool.and_eq_true] at hh; rw [if_pos (of_decide_eq_true hh.1)]; have := HLN.out; omega))
        clear hl'
        go_upto_region 23 with (first
          | (refine wpList_row ItemT _ rfl b0 rfl rfl ItemT _ (0, 0) _ E10.out.bx Tryz.underlying90 rfl rfl ?_)
          | (go_at_call 50; refine HAD.out.mono ?_; rintro e w11 ⟨x11, rfl, ⟨kind', A', n', c', dup', s', rfl, hI', hD', hst'⟩, hk'⟩; have HTU := Lib.hid (ElS.turn (c' := c') E10.out Y10.out ⟨.inr rfl, .inr rfl⟩ HYB.out.1 HYB.out.2 hk' hI' hD' hst'); clear hI' hD' hst' hk')
          | (refine wpList_store_row rfl ItemT _ _ rfl y _ rfl rfl ItemT _ HTU.out.1 (by kernel_rfl) rfl (itA_all _ _ _ _ _ _) ?_))
        obtain ⟨W12, hW12⟩ : ∃ W, W = w11.setRow y (itA [107] kind' A' n' c' dup') := ⟨_, rfl⟩
        have E12 := Lib.hid HTU.out.2
        rw [← hW12] at E12 ⊢
        clear hW12 HTU HAD E10 Y10
        have HLB := Lib.hid (show l'.length ≤ 12 from by rw [HLL.out]; omega)
        have HVU := Lib.hid (vals_el _ u g mg du fg (Sp.gV l) _ l [107] A n1 c W12 E12.out.us HED.out (show 3 ≤ 400 by decide))
        rw [HLN.out] at HVU
        have HEF := Lib.hid (show s'.freed.length = 1 from by rw [E12.out.ef.fr]; rfl)
        go_upto_region 25 with (first
          | (go_at_call 51; refine HVT.out.mono ?_; rintro e w14 ⟨A14, c14, rfl, hb14⟩; have E14 := Lib.hid (E13.out.go hb14); clear hb14)
          | (refine wpList_row ItemT _ rfl y rfl rfl ItemT _ (0, 0) _ E13.out.by_ Tryz.underlying90 rfl rfl ?_)
          | (go_at_call 51; refine HVU.out.mono ?_; rintro e w13 ⟨A13, c13, rfl, _, hb13⟩; have E13 := Lib.hid (E12.out.go hb13); clear hb13; have HVT := Lib.hid (E13.out.vals HLB.out); rw [HLL.out] at HVT)
          | (refine wpList_row ItemT _ rfl b0 rfl rfl ItemT _ (0, 0) _ E12.out.bx Tryz.underlying90 rfl rfl ?_))
        have HAZ := Lib.hid (add_no1 _ t2 g mg dt fg (Sp.gV l) s' [107] l' 3 A' n' c' dup' [122, 122, 122, 122, 122, 122, 122, 122, 122, 122, 122, 122, 122, 122, 122] w14 E14.out.ts (by decide))
        have hln : (l'.length : Int) = l'.length := rfl
        clear hln HVT HVU E12 E13
        go_upto_region 26 with (first
          | (go_at_call 26; refine (errIs_same 22 _).mono ?_; rintro e we ⟨rfl, rfl⟩)
          | (go_at_call 35; refine (stoFreed_any _ t2 g mg dt fg (Sp.gV l) s' _ (HST15.out.go ((Below.refl _ _).alloc (Nat.le_refl _) _))).mono ?_; rintro e w16 ⟨rf, rfl, hof, hbf⟩; rw [HEF.out] at hof; obtain ⟨Af, cf, rfl⟩ := own_slice hof; have HBF := Lib.hid hbf; clear hof hbf)
          | (go_at_call 50; refine HAZ.out.mono ?_; rintro e w15 ⟨rfl, hst15, hk15⟩; have HST15 := Lib.hid hst15; have K15 := Lib.hid hk15; clear hst15 hk15; simp only [erO])
          | (refine wpList_row ItemT _ rfl y rfl rfl ItemT _ (0, 0) _ E14.out.by_ Tryz.underlying90 rfl rfl ?_)
          | (refine wpList_new ItemT _ _ rfl rfl rfl rfl rfl rfl _ rfl (of_decide_eq_true (by kernel_rfl)) (by kernel_rfl) (by kernel_rfl) (by kernel_rfl) ?_))
        go_wp2_with (first
          | (go_at_call 26; refine (errIs_same 22 _).mono ?_; rintro e we ⟨rfl, rfl⟩)
          | (go_at_call 35; refine (stoFreed_any _ t2 g mg dt fg (Sp.gV l) s' _ (HST15.out.go ((Below.refl _ _).alloc (Nat.le_refl _) _))).mono ?_; rintro e w16 ⟨rf, rfl, hof, hbf⟩; rw [HEF.out] at hof; obtain ⟨Af, cf, rfl⟩ := own_slice hof; have HBF := Lib.hid hbf; clear hof hbf))
        go_ret
        refine ⟨by first | (simp; done) | (simp; omega), ?_⟩
        exact E14.out.end_ ((K15.out.trans (Chg.of_below ((Below.refl _ _).alloc (Nat.le_refl _) _))).trans (Chg.of_below HBF.out))
      · have HAD := Lib.hid (take_ed _ t2 g mg dt fg (Sp.gV l) _ [107] l A n1 c [ch] W10 E10.out.ts (show 3 ≤ 400 by decide) HED.out (Sp.isVals_of HSR.out (by rw [HLN.out]; omega) (by rw [HLN.out]; omega)) HNE.out (by rw [HLN.out]; omega) HSR.out (by rw [HLN.out]; omega) HHQ.out)
        obtain ⟨l', hl'⟩ : ∃ l', l' = l.eraseIdx (Sp.plc l [ch]) := ⟨_, rfl⟩
        rw [← hl'] at HAD
        have HLL := Lib.hid (show l'.length = j - 1 from by rw [hl']; first | (rw [Sp.insT_len, HLN.out]; done) | (rw [List.length_eraseIdx]; have hh := HHQ.out; unfold Sp.hasV at hh; rw [Bool.and_eq_true] at hh; rw [if_pos (of_decide_eq_true hh.1)]; have := HLN.out; omega))
        clear hl'
        go_upto_region 23 with (first
          | (refine wpList_row ItemT _ rfl b0 rfl rfl ItemT _ (0, 0) _ E10.out.bx Tryz.underlying90 rfl rfl ?_)
          | (go_at_call 52; refine HAD.out.mono ?_; rintro e w11 ⟨x11, rfl, ⟨kind', A', n', c', dup', s', rfl, hI', hD', hst'⟩, hk'⟩; have HTU := Lib.hid (ElS.turn (c' := c') E10.out Y10.out ⟨.inr rfl, .inr rfl⟩ HYB.out.1 HYB.out.2 hk' hI' hD' hst'); clear hI' hD' hst' hk')
          | (refine wpList_store_row rfl ItemT _ _ rfl y _ rfl rfl ItemT _ HTU.out.1 (by kernel_rfl) rfl (itA_all _ _ _ _ _ _) ?_))
        obtain ⟨W12, hW12⟩ : ∃ W, W = w11.setRow y (itA [107] kind' A' n' c' dup') := ⟨_, rfl⟩
        have E12 := Lib.hid HTU.out.2
        rw [← hW12] at E12 ⊢
        clear hW12 HTU HAD E10 Y10
        have HLB := Lib.hid (show l'.length ≤ 12 from by rw [HLL.out]; omega)
        have HVU := Lib.hid (vals_el _ u g mg du fg (Sp.gV l) _ l [107] A n1 c W12 E12.out.us HED.out (show 3 ≤ 400 by decide))
        rw [HLN.out] at HVU
        have HEF := Lib.hid (show s'.freed.length = 1 from by rw [E12.out.ef.fr]; rfl)
        go_upto_region 25 with (first
          | (go_at_call 51; refine HVT.out.mono ?_; rintro e w14 ⟨A14, c14, rfl, hb14⟩; have E14 := Lib.hid (E13.out.go hb14); clear hb14)
          | (refine wpList_row ItemT _ rfl y rfl rfl ItemT _ (0, 0) _ E13.out.by_ Tryz.underlying90 rfl rfl ?_)
          | (go_at_call 51; refine HVU.out.mono ?_; rintro e w13 ⟨A13, c13, rfl, _, hb13⟩; have E13 := Lib.hid (E12.out.go hb13); clear hb13; have HVT := Lib.hid (E13.out.vals HLB.out); rw [HLL.out] at HVT)
          | (refine wpList_row ItemT _ rfl b0 rfl rfl ItemT _ (0, 0) _ E12.out.bx Tryz.underlying90 rfl rfl ?_))
        have HAZ := Lib.hid (add_no1 _ t2 g mg dt fg (Sp.gV l) s' [107] l' 3 A' n' c' dup' [122, 122, 122, 122, 122, 122, 122, 122, 122, 122, 122, 122, 122, 122, 122] w14 E14.out.ts (by decide))
        have hln : (l'.length : Int) = l'.length := rfl
        clear hln HVT HVU E12 E13
        go_upto_region 26 with (first
          | (go_at_call 26; refine (errIs_same 22 _).mono ?_; rintro e we ⟨rfl, rfl⟩)
          | (go_at_call 35; refine (stoFreed_any _ t2 g mg dt fg (Sp.gV l) s' _ (HST15.out.go ((Below.refl _ _).alloc (Nat.le_refl _) _))).mono ?_; rintro e w16 ⟨rf, rfl, hof, hbf⟩; rw [HEF.out] at hof; obtain ⟨Af, cf, rfl⟩ := own_slice hof; have HBF := Lib.hid hbf; clear hof hbf)
          | (go_at_call 50; refine HAZ.out.mono ?_; rintro e w15 ⟨rfl, hst15, hk15⟩; have HST15 := Lib.hid hst15; have K15 := Lib.hid hk15; clear hst15 hk15; simp only [erO])
          | (refine wpList_row ItemT _ rfl y rfl rfl ItemT _ (0, 0) _ E14.out.by_ Tryz.underlying90 rfl rfl ?_)
          | (refine wpList_new ItemT _ _ rfl rfl rfl rfl rfl rfl _ rfl (of_decide_eq_true (by kernel_rfl)) (by kernel_rfl) (by kernel_rfl) (by kernel_rfl) ?_))
        go_wp2_with (first
          | (go_at_call 26; refine (errIs_same 22 _).mono ?_; rintro e we ⟨rfl, rfl⟩)
          | (go_at_call 35; refine (stoFreed_any _ t2 g mg dt fg (Sp.gV l) s' _ (HST15.out.go ((Below.refl _ _).alloc (Nat.le_refl _) _))).mono ?_; rintro e w16 ⟨rf, rfl, hof, hbf⟩; rw [HEF.out] at hof; obtain ⟨Af, cf, rfl⟩ := own_slice hof; have HBF := Lib.hid hbf; clear hof hbf))
        go_ret
        refine ⟨by first | (simp; done) | (simp; omega), ?_⟩
        exact E14.out.end_ ((K15.out.trans (Chg.of_below ((Below.refl _ _).alloc (Nat.le_refl _) _))).trans (Chg.of_below HBF.out))
end Go.Proofs.YtkcfmjlcijhieaaGreat
namespace Go.Proofs.YtkcfmjlcijhieaaGreat.dupElder
open Go.ChangeShapes Go.WideShapes Go.ChangeAt Go.RowKit
set_option maxRecDepth 100000 in
theorem lifted (os : Os) (started : os.Started) (H : Type) (enc : TypeId × Value → H) :
    ReturnsInHanded {} Tryz.checked os 14 .any (Rows.dupElderSpec.pre6 enc Tryz.prog Tryz.f14 Rows.dupElderRow.domain false) (Rows.dupElderSpec.post enc Tryz.prog Tryz.f14 false true false false) := by
  refine returnsInHanded_of_change (C := Tryz.checked) ownKn started (by kernel_rfl) Tryz.func14
    (ChangeSpec.witness6 (enc := enc) (C := Tryz.checked) false ⟨#[], #[.int .u8 0, .int .u8 0, .bool false], []⟩ 8 (by kernel_rfl) (by kernel_rfl) (by kernel_rfl) (by kernel_rfl)) ?_
  intro W base args ds gs before hval0 hW hcnd _
  have hval : ∀ (j : Nat) t v, Tryz.f14.params[j]? = some t → args[j]? = some v → Value.okWide Tryz.prog W .any base t v := hval0
  have hW' := hW
  obtain ⟨p, q, hA0, hV, rfl, hfz, hnd⟩ := hW
  have hA : DataW.TrodAll enc Tryz.prog W 0 (fun _ => true) true Tryz.f14.params.toList args.toList ds p := hA0
  rw [Tryz.params14] at hA hval
  obtain ⟨v0, vs0, d0, ds0, p0, q0, hargs, rfl, rfl, h0, rr0⟩ := trodAll_cons hA
  obtain ⟨v1, vs1, d1, ds1, p1, q1, rfl, rfl, rfl, h1, rr1⟩ := trodAll_cons rr0
  obtain ⟨v2, vs2, d2, ds2, p2, q2, rfl, rfl, rfl, h2, rr2⟩ := trodAll_cons rr1
  obtain ⟨rfl, rfl, rfl⟩ := trodAll_nil rr2
  obtain rfl : args = #[v0, v1, v2] := by cases args; simp_all
  obtain ⟨rfl, rfl⟩ := trodVars_none hV
  obtain ⟨a0, rfl, rfl, rfl, w0⟩ := open_int Tryz.underlying5 (hval 0 5 v0 rfl rfl) h0
  obtain ⟨a1, rfl, rfl, rfl, w1⟩ := open_int Tryz.underlying5 (hval 1 5 v1 rfl rfl) h1
  obtain ⟨a2, rfl, rfl, rfl⟩ := open_bool Tryz.underlying4 (hval 2 4 v2 rfl rfl) h2
  clear hA0 hval0
  simp only [List.append_nil] at hW'
  refine (elder_walk a0 a1 a2 (bounds_u8 w0).1 (bounds_u8 w0).2 (bounds_u8 w1).1 (bounds_u8 w1).2 W).mono fun e W' ⟨he, hg⟩ => ?_
  subst he
  exact ⟨_, rfl, post_of_below (pa := []) (pv := []) hW' (fun _ _ _ => (trodAll_cons_mk (shut_bool Tryz.underlying4 _) trodAll_mk0)) (fun sp hsp => (trodAll_cons_mk (shut_int Tryz.underlying5 w0) (trodAll_cons_mk (shut_int Tryz.underlying5 w1) (trodAll_cons_mk (shut_bool Tryz.underlying4 a2) trodAll_mk0)))) (fun _ _ => rfl) (by simp)
    hg (ok_one (by kernel_rfl) rfl (okWide_bool_mk Tryz.underlying4 _))⟩
theorem over : Rows.dupElderRow.holds Tryz.pinned (OpenSpec.ofChange Rows.dupElderSpec) :=
  OpenClaim.holds_of_wide 14 Tryz.f14 rfl rfl rfl rfl rfl rfl rfl ⟨rfl, rfl, rfl, rfl, rfl⟩ rfl rfl rfl rfl rfl (by kernel_rfl) Tryz.func14 (by kernel_rfl)
    (of_decide_eq_true (by kernel_rfl)) (by unfold Func.isWrapper; first | (rw [if_pos (by decide +kernel)]; kernel_rfl) | (rw [if_neg (by decide +kernel)]; exact ⟨rfl, rfl⟩))
    (fun os started H enc _ => lifted os started H enc)
theorem proved : Rows.DupElderSaid :=
  over
#print axioms proved
end Go.Proofs.YtkcfmjlcijhieaaGreat.dupElder
