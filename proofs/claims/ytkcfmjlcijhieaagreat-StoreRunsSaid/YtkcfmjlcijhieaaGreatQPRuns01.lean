/- As many pages as may be: the law's walk. A run of numbers side by side: the law's walk. StoreRuns: whatever the input: true; the input reads as it did. -/
import Derived.Test.YtkcfmjlcijhieaaGreatQB00
import Derived.Test.YtkcfmjlcijhieaaGreatQB25
import Derived.Test.YtkcfmjlcijhieaaGreatQPRuns00
import Derived.SizedLaws
set_option linter.unusedSimpArgs false
set_option linter.unusedVariables false
namespace Go.Proofs.YtkcfmjlcijhieaaGreat
open Go.RowKit
attribute [local go_sem low] mk_extract
attribute [local go_sem] After.cell After.frozen mk_extract_end ByteArray.mk_append_mk
structure MnS (w : World) (M : Nat → Prop) (t f m d : Nat) (fv : Value) (s : Sp.Sto) (W : World) : Prop where
  st : StAt W M t f m d fv [] s
  ok : s.Ok
  hb : Below w.heap.size w W
  ht : w.heap.size ≤ t ∧ w.heap.size ≤ d
theorem MnS.step {w W W' : World} {M : Nat → Prop} {t f m d : Nat} {fv : Value} {s s' : Sp.Sto} (h : MnS w M t f m d fv s W) (hs : StAt W' M t f m d fv [] s') (ho : s'.Ok) (hk : Chg (TwoM t d) W W') : MnS w M t f m d fv s' W' :=
  ⟨hs, ho, h.hb.trans (hk.below h.hb.size fun k hk' e => by
    have := h.ht
    rcases e with rfl | rfl <;> omega), h.ht⟩
theorem MnS.go {w W W' : World} {M : Nat → Prop} {t f m d : Nat} {fv : Value} {s : Sp.Sto} (h : MnS w M t f m d fv s W) (hb : Below W.heap.size W W') : MnS w M t f m d fv s W' :=
  ⟨h.st.go hb, h.ok, h.hb.trans (hb.mono h.hb.size), h.ht⟩
theorem MnS.low {w W : World} {M : Nat → Prop} {t f m d : Nat} {fv : Value} {s : Sp.Sto} (h : MnS w M t f m d fv s W) : ∀ k, TwoM t d k → LowB W k := fun k hk => by
  show k < W.heap.size
  rcases hk with rfl | rfl
  · exact h.st.lt _ h.st.hM.1
  · exact h.st.lt _ h.st.hM.2
theorem nil_iv (W : World) : IV W (.slice none 0 0) [] := ⟨⟨none, 0, rfl, .inl ⟨rfl, rfl⟩⟩, by simp⟩
theorem lit1 (W : World) (x : Int) : Ints (W.alloc (.cells #[.int .i64 x] IntT)) NoM (some ⟨W.heap.size, 0, none⟩) [x] := by
  have hb := Blk.new W IntT #[.int .i64 x]
  refine ⟨by simp, .inr ⟨W.heap.size, 0, rfl, hb.lt, fun h => h, fun j v hv => ?_⟩⟩
  rw [Nat.zero_add]
  refine (hb.cell j).trans ?_
  rcases j with _ | j
  · exact hv
  · simp at hv
set_option maxRecDepth 100000 in
set_option maxHeartbeats 1600000 in
theorem many_walk (which : Int) (h0 : 0 ≤ which) (h1 : which ≤ 255) (w : World) :
    Calls Tryz.prog 7 #[.int .u8 which] w fun e w' => e = .returned (.bool true) ∧ Below w.heap.size w w' := by
  have HKN := Lib.hid (known8_any w)
  go_enter Tryz.func7, Tryz.ntmps7
  go_upto_region 4 with (first
    | (go_at_call 27; refine HKN.out.mono ?_; rintro e w1 ⟨rfl, hb1⟩; have HB1 := Lib.hid hb1; clear hb1)
    | (go_at_call 20; refine (fileNew_nil _).mono ?_; rintro e w2 ⟨f, fv, m, rfl, hf, _, _, hb2⟩; have HF := Lib.hid hf; have HB2 := Lib.hid hb2; clear hf hb2)
    | (go_at_call 28; refine (stoNew_any f m fv [] 2 400 (.slice none 0 0) [] _ HF.out (nil_iv _)).mono ?_; rintro e w3 ⟨t, d, M, rfl, hst, hM, hb3, ht, hd⟩; have HST := Lib.hid hst; have HB3 := Lib.hid hb3; clear hst hM hb3))
  have z1 := HB1.out.size
  have z2 := HB2.out.size
  have HF0 := Lib.hid Sp.Full.zero
  have HS0 := Lib.hid (show MnS w M t f m d fv (Sp.Sto.new 2 400 []) w3 from ⟨HST.out, Sp.Sto.new_ok 2 400 [], (HB1.out.trans (HB2.out.mono z1)).trans (HB3.out.mono (by omega)), ⟨by omega, by omega⟩⟩)
  generalize Sp.Sto.new 2 400 [] = s0 at *
  clear HST HB1 HB2 HB3 HF z1 z2 ht hd
  go_wp2_with fail
  go_loopw [4] (fun i wr => ∃ (k : Nat) (s : Sp.Sto), k ≤ 120 ∧ i = .int .i64 k ∧ Sp.Full k s ∧ MnS w M t f m d fv s wr) (fun i _ => 120 - (intOf i).toNat)
  case atStart => exact ⟨0, s0, by omega, rfl, HF0.out, HS0.out⟩
  case round =>
    obtain ⟨k, s, hk, rfl, hfu, hs⟩ := hrel
    have S := Lib.hid hs
    have FU := Lib.hid hfu
    clear hs hfu HS0 HF0
    by_cases hk120 : k < 120
    · have HA := Lib.hid (FU.out.add hk120 Sp.lf_k)
      have HADD := Lib.hid (fun (r : Refs) (W : World) (hb : Below wr.heap.size wr W) (hp : PageRd W (LowB wr) (Sp.lfPg [107]) r) => stoAdd_any M t f m d fv [] s (Sp.lfPg [107]) r W (S.out.go hb).st S.out.ok hp S.out.low)
      rw [HA.out.1] at HADD
      go_wp2_with (first
        | (go_at_call 30; refine (leaf_any [107] _).mono ?_; rintro e w4 ⟨r4, rfl, hp4, hb4⟩; have HP4 := Lib.hid hp4; have HB4 := Lib.hid hb4; clear hp4 hb4)
        | (go_at_call 29; refine (HADD.out r4 w4 HB4.out HP4.out).mono ?_; rintro e w5 ⟨rfl, hst5, hk5⟩; have S5 := Lib.hid ((S.out.go HB4.out).step hst5 HA.out.2.ok hk5); clear hst5 hk5; simp only [erO]))
      go_roundw
      case rel => exact ⟨k + 1, _, by omega, by go_num, HA.out.2, S5.out⟩
      case measure => simp [intOf]; omega
    · obtain rfl : k = 120 := by omega
      obtain ⟨j, hj⟩ : ∃ j : Nat, which % 120 = j := ⟨(which % 120).toNat, by omega⟩
      have hj120 : j < 120 := by omega
      have HM := Lib.hid (FU.out.more Sp.lf_k)
      obtain ⟨q, hq, hdr, hdl⟩ := FU.out.drop hj120
      have HDR := Lib.hid hdr
      have HDL := Lib.hid hdl
      have HFR := Lib.hid FU.out.freed
      clear hq hdr hdl FU
      have HADD := Lib.hid (fun (r : Refs) (W : World) (hb : Below wr.heap.size wr W) (hp : PageRd W (LowB wr) (Sp.lfPg [107]) r) => stoAdd_any M t f m d fv [] s (Sp.lfPg [107]) r W (S.out.go hb).st S.out.ok hp S.out.low)
      rw [HM.out.1] at HADD
      go_upto_region 11 with (first
        | (go_at_call 30; refine (leaf_any [107] _).mono ?_; rintro e w4 ⟨r4, rfl, hp4, hb4⟩; have HP4 := Lib.hid hp4; have HB4 := Lib.hid hb4; clear hp4 hb4)
        | (go_at_call 29; refine (HADD.out r4 w4 HB4.out HP4.out).mono ?_; rintro e w5 ⟨rfl, hst5, hk5⟩; have S5 := Lib.hid ((S.out.go HB4.out).step hst5 S.out.ok hk5); clear hst5 hk5; simp only [erO]))
      clear HADD HP4 HB4 S
      have HRUN := Lib.hid (stoRun_any M t f m d fv [] s 1 w5 S5.out.st S5.out.ok)
      rw [HM.out.2] at HRUN
      go_upto_region 12 with (go_at_call 33; refine HRUN.out.mono ?_; rintro e w6 ⟨rfl, hst6, hk6⟩; have S6 := Lib.hid (S5.out.step hst6 S5.out.ok hk6); clear hst6 hk6; simp only [erO])
      clear HRUN HM S5
      go_upto_region 13 with fail
      have HDRP := Lib.hid (stoDrop_any M t f m d fv [] s (2 + (j : Int)) w6 S6.out.st S6.out.ok)
      have HOK7 := Lib.hid (S6.out.ok.drop (2 + (j : Int)))
      rw [HDR.out] at HDRP HOK7
      go_upto_region 14 with (go_at_call 34; rw [hj]; refine HDRP.out.mono ?_; rintro e w7 ⟨rfl, hst7, hk7⟩; have S7 := Lib.hid (S6.out.step hst7 HOK7.out hk7); clear hst7 hk7)
      clear HDRP HDR S6
      have HA9 := Lib.hid (Sp.Sto.add_avail (s := { s with d := Sp.delD s.d (2 + (j : Int)), avail := [2 + (j : Int)] }) (p := Sp.lfPg [107]) rfl Sp.lf_k (by have := HDL.out; show (Sp.delD s.d (2 + (j : Int))).length < 120; omega) HOK7.out.avail)
      have HFR7 := Lib.hid (show ({ s with d := Sp.delD s.d (2 + (j : Int)), avail := [2 + (j : Int)] } : Sp.Sto).freed = [] from HFR.out)
      have HAV7 := Lib.hid (show ({ s with d := Sp.delD s.d (2 + (j : Int)), avail := [2 + (j : Int)] } : Sp.Sto).avail = [2 + (j : Int)] from rfl)
      generalize ({ s with d := Sp.delD s.d (2 + (j : Int)), avail := [2 + (j : Int)] } : Sp.Sto) = s7 at *
      clear HDL HFR
      go_upto_region 15 with (go_at_call 32; refine (stoAvail_any M t f m d fv [] s7 _ S7.out.st).mono ?_; rintro e w8 ⟨ra, rfl, hoa, hba⟩; rw [HAV7.out] at hoa; obtain ⟨Aa, ca, rfl⟩ := own_slice hoa; have HOA := Lib.hid (own_ivb hoa (by simp)); have S8 := Lib.hid (S7.out.go hba); clear hoa hba)
      have HADD := Lib.hid (fun (r : Refs) (W : World) (hb : Below w8.heap.size w8 W) (hp : PageRd W (LowB w8) (Sp.lfPg [107]) r) => stoAdd_any M t f m d fv [] s7 (Sp.lfPg [107]) r W (S8.out.go hb).st S8.out.ok hp S8.out.low)
      have HOK9 := Lib.hid (S8.out.ok.add (Sp.lfPg [107]))
      rw [HA9.out] at HADD HOK9
      go_upto_region 16 with (first
        | (go_at_call 30; refine (leaf_any [107] _).mono ?_; rintro e w9 ⟨r9, rfl, hp9, hb9⟩; have HP9 := Lib.hid hp9; have HB9 := Lib.hid hb9; clear hp9 hb9)
        | (go_at_call 29; refine (HADD.out r9 w9 HB9.out HP9.out).mono ?_; rintro e wa ⟨rfl, hsta, hka⟩; have S9 := Lib.hid ((S8.out.go HB9.out).step hsta HOK9.out hka); have HOA2 := Lib.hid ((HOA.out.go HB9.out).chg hka (S8.out.go HB9.out).st.not_int); clear hsta hka; simp only [erO]))
      clear HADD HP9 HB9 HOA S8 HA9 HOK7 HOK9 HAV7
      have HFR9 := Lib.hid (show ({ s7 with avail := [], d := Sp.putD s7.d (2 + (j : Int)) (Sp.lfPg [107]) } : Sp.Sto).freed = [] from HFR7.out)
      generalize ({ s7 with avail := [], d := Sp.putD s7.d (2 + (j : Int)) (Sp.lfPg [107]) } : Sp.Sto) = s9 at *
      obtain ⟨_, hio⟩ := HOA2.out.ints
      have HIO := Lib.hid hio
      clear hio HOA2 HFR7
      go_wp2_with (first
        | (go_at_call 26; refine (errIs_same 17 _).mono ?_; rintro e wb ⟨rfl, rfl⟩)
        | (go_at_call 21; go_loud (refine (dSameInts [2 + (j : Int)] [2 + (j : Int)] Aa (some ⟨wb.heap.size, 0, none⟩) ca 1 _ (Ints.go HIO.out ((Below.refl _ _).alloc (Nat.le_refl _) _)) (lit1 wb _)).mono ?_; rintro e wi ⟨rfl, hbi⟩; have Sa := Lib.hid (S9.out.go (((Below.refl wb.heap.size wb).alloc (Nat.le_refl _) _).trans (hbi.mono (by simp)))); clear hbi))
        | (go_at_call 35; refine (stoFreed_any M t f m d fv [] s9 _ Sa.out.st).mono ?_; rintro e wj ⟨rf, rfl, hof, hbf⟩; rw [HFR9.out] at hof; obtain ⟨Af, cf, rfl⟩ := own_slice hof; have Sb := Lib.hid (Sa.out.go hbf); clear hof hbf))
      go_ret
      exact ⟨by simp, Sb.out.hb⟩
end Go.Proofs.YtkcfmjlcijhieaaGreat
namespace Go.Proofs.YtkcfmjlcijhieaaGreat
open Go.RowKit
attribute [local go_sem low] mk_extract
attribute [local go_sem] After.cell After.frozen mk_extract_end ByteArray.mk_append_mk
namespace Sp
def fitTo (F k c j : Nat) : Bool := decide (c + k ≤ 16) && (List.range j).all fun j => F / 2 ^ (c + j) % 2 == 1
theorem fitTo_zero (F k c : Nat) : fitTo F k c 0 = decide (c + k ≤ 16) := by simp [fitTo]
theorem fitTo_succ (F k c j : Nat) : fitTo F k c (j + 1) = (fitTo F k c j && decide (F / 2 ^ (c + j) % 2 = 1)) := by
  unfold fitTo
  rw [List.range_succ, List.all_append, Bool.and_assoc]
  simp only [List.all_cons, List.all_nil, Bool.and_true]
  rfl
theorem fitTo_all (F k c : Nat) : fitTo F k c k = fitB F k c := rfl
theorem fitTo_no {F k c j : Nat} (hj : j ≤ k) (h : fitTo F k c j = false) : fitB F k c = false := by
  rcases hb : fitB F k c with _ | _
  · rfl
  · unfold fitB at hb
    rw [Bool.and_eq_true, List.all_eq_true] at hb
    have : fitTo F k c j = true := by
      unfold fitTo
      rw [Bool.and_eq_true, List.all_eq_true]
      exact ⟨hb.1, fun x hx => hb.2 x (List.mem_range.2 (by have := List.mem_range.1 hx; omega))⟩
    rw [this] at h
    cases h
theorem fitTo_le {F k c j : Nat} (h : fitTo F k c j = true) : c + k ≤ 16 := by
  unfold fitTo at h
  rw [Bool.and_eq_true] at h
  exact of_decide_eq_true h.1
end Sp
set_option maxRecDepth 100000 in
set_option maxHeartbeats 1600000 in
theorem runs_walk (free n : Int) (hf : 0 ≤ free) (hf2 : free ≤ 65535) (hn : 0 ≤ n) (hn2 : n ≤ 255) (w : World) :
    Calls Tryz.prog 8 #[.int .u16 free, .int .u8 n] w fun e w' => e = .returned (.bool true) ∧ Below w.heap.size w w' := by
  obtain ⟨i0, hi0, hz0, hz1, hz2⟩ := info_parts info_int
  obtain ⟨F, rfl⟩ : ∃ F : Nat, free = F := ⟨free.toNat, by omega⟩
  have HKN := Lib.hid (known8_any w)
  go_enter Tryz.func8, Tryz.ntmps8
  go_upto_region 4 with (go_at_call 27; refine HKN.out.mono ?_; rintro e w1 ⟨rfl, hb1⟩; have HB1 := Lib.hid hb1; clear hb1)
  go_wp2_with fail
  go_loopw [5, 6] (fun v i wr => ∃ k : Nat, k ≤ 16 ∧ i = .int .i64 k ∧ wr.ownsRow w.heap.size IntT 1 v (Sp.bitsTo F k).length ((Sp.bitsTo F k).map iv) ∧ Below w.heap.size w wr) (fun _ i _ => 16 - (intOf i).toNat)
  case atStart => exact ⟨0, by omega, rfl, World.ownsRow_nil _ _ _ _, HB1.out⟩
  case round =>
    obtain ⟨k, hk, rfl, ho, hb⟩ := hrel
    have HO := Lib.hid ho
    have HB := Lib.hid hb
    clear ho hb
    by_cases hk16 : k < 16
    · obtain ⟨A7, c7, rfl⟩ := own_slice HO.out
      have hln := (Sp.bitsTo_rng (free := F) (i := k)).2.2
      have hbt := bit_u16 F k
      by_cases hb1 : F / 2 ^ k % 2 = 1
      · have HE := Lib.hid (Sp.bitsTo_yes hb1)
        rw [decide_eq_true hb1] at hbt
        have hlt := HB.out.size
        clear hb1
        go_wp2_with (at_builtin; refine wpList_append_own _ rfl _ _ 26 rfl w.heap.size IntT i0 _ 1 8 Tryz.underlying26 hi0 hz0 hz1 hz2 rfl (by decide) (.slice A7 (Sp.bitsTo F k).length c7) (Sp.bitsTo F k).length ((Sp.bitsTo F k).map iv) rfl ?c0 ⟨wr.heap.size, 0, none⟩ 1 1 [iv (2 + (k : Int))] rfl rfl ?c1 ?c2 ?c3 ?c4 ?c5 ?_)
        case c0 => exact HO.out.alloc _
        case c1 => exact cell_one_new _ _ _
        case c2 => exact fun u hu => by rw [List.mem_singleton.1 hu]; rfl
        case c3 => simp only [maxLen]; omega
        case c4 => omega
        case c5 => simp; omega
        intro v' w' hown' hgr' _
        have hk2 : Below w.heap.size w (wr.alloc (.cells #[iv (2 + (k : Int))] IntT)) := HB.out.alloc HB.out.size _
        have HO2 := Lib.hid hown'
        have HB2 := Lib.hid (hk2.grown hgr' hk2.size (fun j hj => (HO.out.lt j hj).1))
        clear hown' hgr' hk2
        go_wp2_with fail
        go_roundw
        case rel => exact ⟨k + 1, by omega, by go_num, by rw [HE.out, List.length_append, List.map_append]; exact HO2.out, HB2.out⟩
        case measure => simp [intOf]; omega
      · have HE := Lib.hid (Sp.bitsTo_no hb1)
        rw [decide_eq_false hb1] at hbt
        clear hb1
        go_wp2_with fail
        go_roundw
        case rel => exact ⟨k + 1, by omega, by go_num, by rw [HE.out]; exact HO.out, HB.out⟩
        case measure => simp [intOf]; omega
    · obtain rfl : k = 16 := by omega
      obtain ⟨A7, c7, rfl⟩ := own_slice HO.out
      have hl16 := (Sp.bitsTo_rng (free := F) (i := 16)).2.2
      have HIV := Lib.hid (own_ivb HO.out (by omega))
      obtain ⟨K, hK⟩ : ∃ K : Nat, n % 5 + 1 = K := ⟨(n % 5 + 1).toNat, by omega⟩
      have hK1 : 1 ≤ K ∧ K ≤ 5 := by omega
      go_upto_region 12 with fail
      obtain ⟨wo, rfl⟩ : ∃ W, W = wr := ⟨_, rfl⟩
      go_loopw [8, 9] (fun a i wr => ∃ c : Nat, c ≤ 16 ∧ i = .int .i64 ((c : Int) - 1) ∧ a = .int .i64 (Sp.wantAt F K c) ∧ wr = wo) (fun _ i _ => (intOf i + 1).toNat)
      case atStart => exact ⟨16, by omega, rfl, rfl, rfl⟩
      case round =>
        obtain ⟨c, hc, rfl, rfl, rfl⟩ := hrel
        rcases c with _ | c
        · have hwv := Sp.wantAt_rng (F := F) (k := K) hK1.2
          have HS0 := Lib.hid (show (Sp.Sto.new 18 400 (Sp.bitsTo F 16)).avail = Sp.bitsTo F 16 from by
            obtain ⟨h1, h2, _⟩ := Sp.bitsTo_rng (free := F) (i := 16)
            have := Sp.foldl_new (b := min (min (max 18 2) 400) (min (max 400 2) 400)) (Sp.bitsTo F 16) [] h1 (fun x hx => by have := h2 x hx; omega)
            exact this)
          have HRN := Lib.hid (Sp.run_ran hK1.1 hK1.2 (Sp.Sto.new_ok 18 400 (Sp.bitsTo F 16)) HS0.out rfl rfl rfl)
          obtain ⟨s1, hrun, hran⟩ := HRN.out
          have HRUN := Lib.hid hrun
          have HRAN := Lib.hid hran
          have HOK1 := Lib.hid hran.ok
          clear hrun hran HRN
          go_upto_region 22 with (first
            | (go_at_call 20; refine (fileNew_nil _).mono ?_; rintro e w2 ⟨f, fv, m, rfl, hf, _, _, hb2⟩; have HF := Lib.hid hf; have HB2 := Lib.hid hb2; clear hf hb2)
            | (go_at_call 28; refine (stoNew_any f m fv [] 18 400 (.slice A7 (Sp.bitsTo F 16).length c7) (Sp.bitsTo F 16) _ HF.out (HIV.out.go HB2.out).iv).mono ?_; rintro e w3 ⟨t, d, M, rfl, hst, hM, hb3, ht, hd⟩; have HST := Lib.hid hst; have HB3 := Lib.hid hb3; clear hst hM hb3))
          have hzz : w.heap.size ≤ wr.heap.size := HB.out.size
          have hz2 := HB2.out.size
          have HM0 := Lib.hid (show MnS w M t f m d fv (Sp.Sto.new 18 400 (Sp.bitsTo F 16)) w3 from ⟨HST.out, Sp.Sto.new_ok 18 400 (Sp.bitsTo F 16), HB.out.trans ((HB2.out.mono hzz).trans (HB3.out.mono (by omega))), ⟨by omega, by omega⟩⟩)
          clear HB HB2 HB3 HST HF HIV HO hz2 hzz ht hd HS0
          have HRC := Lib.hid (stoRun_any M t f m d fv [] (Sp.Sto.new 18 400 (Sp.bitsTo F 16)) K w3 HM0.out.st HM0.out.ok)
          rw [HRUN.out] at HRC
          go_upto_region 23 with (go_at_call 33; refine HRC.out.mono ?_; rintro e w4 ⟨rfl, hst4, hk4⟩; have S4 := Lib.hid (HM0.out.step hst4 HOK1.out hk4); clear hst4 hk4; simp only [erO])
          clear HRC HM0 HRUN HOK1
          have HDL := Lib.hid (show s1.dirty.length = K from by rw [s1.dirty_len]; exact HRAN.out.len)
          go_upto_region 26 with (go_at_call 36; refine (stoDirty_any M t f m d fv [] s1 _ S4.out.st S4.out.ok).mono ?_; rintro e w5 ⟨rd, rfl, hod, hbd⟩; rw [HDL.out] at hod; obtain ⟨Ad, cd, rfl⟩ := own_slice hod; have S5 := Lib.hid (S4.out.go hbd); clear hod hbd)
          clear S4 HDL
          go_loopw [15] (fun i wr => ∃ (k : Nat) (s : Sp.Sto), k ≤ K ∧ i = .int .i64 k ∧ Sp.Ran F K k s ∧ MnS w M t f m d fv s wr) (fun i _ => K - (intOf i).toNat)
          case atStart => exact ⟨0, s1, by omega, rfl, HRAN.out, S5.out⟩
          case round =>
            obtain ⟨k, s, hk, rfl, hra, hs⟩ := hrel
            have S := Lib.hid hs
            have RA := Lib.hid hra
            clear hra hs S5 HRAN
            by_cases hkK : k < K
            · have HR1 := Lib.hid (show s.read [] (Sp.wantAt F K 0 + (k : Int)) = (Sp.pg0, some 12) from by rw [RA.out.rd hK1.2 [] hkK, if_neg (Nat.lt_irrefl k)])
              obtain ⟨s2, hset, hra2⟩ := RA.out.fill hkK
              have HR2 := Lib.hid (show s2.read [] (Sp.wantAt F K 0 + (k : Int)) = (Sp.lfPg [107], none) from by rw [hra2.rd hK1.2 [] hkK, if_pos (Nat.lt_succ_self k)])
              have HSET := Lib.hid hset
              have RA2 := Lib.hid hra2
              clear hset hra2 RA
              go_upto_region 29 with (first
                | (go_at_call 37; refine (stoRead_any M t f m d fv [] s _ wr S.out.st S.out.ok (by decide)).mono ?_; rintro e w6 ⟨r6, rfl, _, hb6⟩; rw [HR1.out, pv14]; have S6 := Lib.hid (S.out.go hb6); clear hb6; simp only [erO])
                | (refine wpList_new PageT _ _ rfl rfl rfl rfl rfl rfl _ rfl (of_decide_eq_true (by kernel_rfl)) (by kernel_rfl) (by kernel_rfl) (by kernel_rfl) ?_; refine wpList_gen8 (fun W => MnS w M t f m d fv s W) (S6.out.go ((Below.refl _ _).alloc (Nat.le_refl _) _)) ?_; intro w7 hs7; have S7 := Lib.hid hs7; clear hs7))
              clear S S6 HR1
              have HSC := Lib.hid (fun (r : Refs) (W : World) (hb : Below w7.heap.size w7 W) (hp : PageRd W (LowB w7) (Sp.lfPg [107]) r) => stoSet_any M t f m d fv [] s (Sp.wantAt F K 0 + (k : Int)) (Sp.lfPg [107]) r W (S7.out.go hb).st hp S7.out.low)
              rw [HSET.out] at HSC
              go_upto_region 31 with (first
                | (go_at_call 26; refine (errIs_same 12 _).mono ?_; rintro e w8 ⟨rfl, rfl⟩)
                | (go_at_call 30; refine (leaf_any [107] _).mono ?_; rintro e w8 ⟨r8, rfl, hp8, hb8⟩; have HP8 := Lib.hid hp8; have HB8 := Lib.hid hb8; clear hp8 hb8)
                | (go_at_call 38; refine (HSC.out r8 w8 HB8.out HP8.out).mono ?_; rintro e w9 ⟨rfl, hst9, hk9⟩; have S9 := Lib.hid ((S7.out.go HB8.out).step hst9 RA2.out.ok hk9); clear hst9 hk9; simp only [erO]))
              clear HSC HP8 HB8 S7 HSET
              go_upto_region 32 with (first
                | (go_at_call 37; refine (stoRead_any M t f m d fv [] s2 _ w9 S9.out.st S9.out.ok (by decide)).mono ?_; rintro e wa ⟨ra, rfl, _, hba⟩; rw [HR2.out, pv14]; have Sa := Lib.hid (S9.out.go hba); clear hba; simp only [erO])
                | (refine wpList_new PageT _ _ rfl rfl rfl rfl rfl rfl _ rfl (of_decide_eq_true (by kernel_rfl)) (by kernel_rfl) (by kernel_rfl) (by kernel_rfl) ?_; refine wpList_gen8 (fun W => MnS w M t f m d fv s2 W ∧ W.cell? ⟨wa.heap.size, 1, none⟩ = some (.slice ra.I 1 ra.i)) ⟨Sa.out.go ((Below.refl _ _).alloc (Nat.le_refl _) _), (Blk.new wa PageT _).cell 1⟩ ?_; rintro wb ⟨hsb, hcb⟩; have Sb := Lib.hid hsb; clear hsb))
              clear S9 Sa HR2
              go_wp2_with fail
              go_roundw
              case rel => exact ⟨k + 1, s2, by omega, by go_num, RA2.out, Sb.out⟩
              case measure => simp [intOf]; omega
            · obtain rfl : k = K := by omega
              have HR0 := Lib.hid (stoRun_any M t f m d fv [] s 0 wr S.out.st S.out.ok)
              rw [s.run_zero] at HR0
              have HL := Lib.hid RA.out.last
              go_upto_region 35 with (go_at_call 33; refine HR0.out.mono ?_; rintro e w6 ⟨rfl, hst6, hk6⟩; have S6 := Lib.hid (S.out.step hst6 S.out.ok hk6); clear hst6 hk6; simp only [erO])
              clear HR0 RA S
              go_wp2_with (first
                | (go_at_call 26; refine (errIs_same 10 _).mono ?_; rintro e w8 ⟨rfl, rfl⟩)
                | (go_at_call 31; refine (stoLast_any M t f m d fv [] s _ S6.out.st).mono ?_; rintro e w8 ⟨rfl, rfl⟩; rw [HL.out]))
              go_ret
              exact ⟨by simp, S6.out.hb⟩
        · have e1 : ((c + 1 : Nat) : Int) - 1 = (c : Int) := by omega
          rw [e1]
          have HW := Lib.hid (Sp.wantAt_step (F := F) (k := K) (c := c) (by omega))
          have HF0 := Lib.hid (Sp.fitTo_zero F K c)
          go_upto_region 16 with fail
          obtain ⟨wq, rfl⟩ : ∃ W, W = wr := ⟨_, rfl⟩
          go_loopw [10, 11] (fun b j wr => ∃ jn : Nat, jn ≤ K ∧ j = .int .i64 jn ∧ b = .bool (Sp.fitTo F K c jn) ∧ wr = wq) (fun _ j _ => K - (intOf j).toNat)
          case atStart => exact ⟨0, by omega, rfl, by rw [HF0.out]; congr 1; exact decide_eq_decide.2 (by omega), rfl⟩
          case round =>
            obtain ⟨jn, hjn, rfl, rfl, rfl⟩ := hrel
            by_cases hjK : jn < K
            · rcases hfb : Sp.fitTo F K c jn with _ | _
              · have HW2 := Lib.hid (HW.out.trans (if_neg (by rw [Sp.fitTo_no hjn hfb]; simp)))
                go_wp2_with fail
                go_roundw
                case rel => exact ⟨c, by omega, by go_num, by rw [HW2.out], by first | rfl | trivial⟩
                case measure => simp [intOf] <;> omega
              · have hle := Sp.fitTo_le hfb
                have HSU := Lib.hid (Sp.fitTo_succ F K c jn)
                rw [hfb, Bool.true_and] at HSU
                have hbt := bit_u16 F (c + jn)
                go_wp2_with fail
                go_roundw
                case rel => exact ⟨jn + 1, by omega, by go_num, by rw [HSU.out], by first | rfl | trivial⟩
                case measure => simp [intOf]; omega
            · have hje : jn = K := by omega
              rw [hje, Sp.fitTo_all]
              rcases hfb : Sp.fitB F K c with _ | _
              · have HW2 := Lib.hid (HW.out.trans (if_neg (by rw [hfb]; simp)))
                go_wp2_with fail
                go_roundw
                case rel => exact ⟨c, by omega, by go_num, by rw [HW2.out], by first | rfl | trivial⟩
                case measure => simp [intOf] <;> omega
              · have HW2 := Lib.hid (HW.out.trans (if_pos hfb))
                go_wp2_with fail
                go_roundw
                case rel => exact ⟨c, by omega, by go_num, by rw [HW2.out], by first | rfl | trivial⟩
                case measure => simp [intOf] <;> omega
end Go.Proofs.YtkcfmjlcijhieaaGreat
namespace Go.Proofs.YtkcfmjlcijhieaaGreat.storeRuns
open Go.ChangeShapes Go.WideShapes Go.ChangeAt Go.RowKit
set_option maxRecDepth 100000 in
theorem lifted (os : Os) (started : os.Started) (H : Type) (enc : TypeId × Value → H) :
    ReturnsInHanded {} Tryz.checked os 8 .any (Rows.storeRunsSpec.pre6 enc Tryz.prog Tryz.f8 Rows.storeRunsRow.domain false) (Rows.storeRunsSpec.post enc Tryz.prog Tryz.f8 false true false false) := by
  refine returnsInHanded_of_change (C := Tryz.checked) ownKn started (by kernel_rfl) Tryz.func8
    (ChangeSpec.witness6 (enc := enc) (C := Tryz.checked) false ⟨#[], #[.int .u16 0, .int .u8 0], []⟩ 8 (by kernel_rfl) (by kernel_rfl) (by kernel_rfl) (by kernel_rfl)) ?_
  intro W base args ds gs before hval0 hW hcnd _
  have hval : ∀ (j : Nat) t v, Tryz.f8.params[j]? = some t → args[j]? = some v → Value.okWide Tryz.prog W .any base t v := hval0
  have hW' := hW
  obtain ⟨p, q, hA0, hV, rfl, hfz, hnd⟩ := hW
  have hA : DataW.TrodAll enc Tryz.prog W 0 (fun _ => true) true Tryz.f8.params.toList args.toList ds p := hA0
  rw [Tryz.params8] at hA hval
  obtain ⟨v0, vs0, d0, ds0, p0, q0, hargs, rfl, rfl, h0, rr0⟩ := trodAll_cons hA
  obtain ⟨v1, vs1, d1, ds1, p1, q1, rfl, rfl, rfl, h1, rr1⟩ := trodAll_cons rr0
  obtain ⟨rfl, rfl, rfl⟩ := trodAll_nil rr1
  obtain rfl : args = #[v0, v1] := by cases args; simp_all
  obtain ⟨rfl, rfl⟩ := trodVars_none hV
  obtain ⟨a0, rfl, rfl, rfl, w0⟩ := open_int Tryz.underlying57 (hval 0 57 v0 rfl rfl) h0
  obtain ⟨a1, rfl, rfl, rfl, w1⟩ := open_int Tryz.underlying5 (hval 1 5 v1 rfl rfl) h1
  clear hA0 hval0
  simp only [List.append_nil] at hW'
  refine (runs_walk a0 a1 (bounds_u16 w0).1 (bounds_u16 w0).2 (bounds_u8 w1).1 (bounds_u8 w1).2 W).mono fun e W' ⟨he, hg⟩ => ?_
  subst he
  exact ⟨_, rfl, post_of_below (pa := []) (pv := []) hW' (fun _ _ _ => (trodAll_cons_mk (shut_bool Tryz.underlying4 _) trodAll_mk0)) (fun sp hsp => (trodAll_cons_mk (shut_int Tryz.underlying57 w0) (trodAll_cons_mk (shut_int Tryz.underlying5 w1) trodAll_mk0))) (fun _ _ => rfl) (by simp)
    hg (ok_one (by kernel_rfl) rfl (okWide_bool_mk Tryz.underlying4 _))⟩
theorem over : Rows.storeRunsRow.holds Tryz.pinned (OpenSpec.ofChange Rows.storeRunsSpec) :=
  OpenClaim.holds_of_wide 8 Tryz.f8 rfl rfl rfl rfl rfl rfl rfl ⟨rfl, rfl, rfl, rfl, rfl⟩ rfl rfl rfl rfl rfl (by kernel_rfl) Tryz.func8 (by kernel_rfl)
    (of_decide_eq_true (by kernel_rfl)) (by unfold Func.isWrapper; first | (rw [if_pos (by decide +kernel)]; kernel_rfl) | (rw [if_neg (by decide +kernel)]; exact ⟨rfl, rfl⟩))
    (fun os started H enc _ => lifted os started H enc)
theorem proved : Rows.StoreRunsSaid :=
  over
#print axioms proved
end Go.Proofs.YtkcfmjlcijhieaaGreat.storeRuns
