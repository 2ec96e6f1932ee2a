/- TreeShapes in plain Lean: a shape's bytes, counted. TreeShapes: the walk. TreeShapes: whatever the input: true; the input reads as it did. -/
import Derived.Test.YtlpmjeiogdlifaaGreatQB00
import Derived.Test.YtlpmjeiogdlifaaGreatQB36
import Derived.SizedLaws
set_option linter.unusedSimpArgs false
set_option linter.unusedVariables false
namespace Go.Proofs.YtlpmjeiogdlifaaGreat
open Go.RowKit
attribute [local go_sem low] mk_extract
attribute [local go_sem] After.cell After.frozen mk_extract_end ByteArray.mk_append_mk
namespace Sp
abbrev Cnt : Type := Int × Int × Int × Int
def scan : Txt → Int → Cnt → Option Cnt
  | [], _, q => some q
  | c :: t, i, (o, l, k, a) =>
    if c = 91 then scan t (i + 1) (o + 1, l, k, a)
    else if c = 93 then scan t (i + 1) (o - 1, l, k, a)
    else if c = 40 then scan t (i + 1) (o, l + 1, k, i + 1)
    else if c = 41 then (if (i - a + 1) / 3 < 1 ∨ 4 < (i - a + 1) / 3 then none else scan t (i + 1) (o, l, k + (i - a + 1) / 3, a))
    else scan t (i + 1) (o, l, k, a)
def shapeOk (k : Nat) : Bool := match scan (Rt.shape (treeN (List.range k)).1) 0 (0, 0, 0, 0) with
  | some (o, l, n, _) => decide (o = 0) && decide (n = (k : Int)) && decide (l ≤ (k : Int)) && (decide (k = 0) == decide (Rt.shape (treeN (List.range k)).1 = [45])) && decide ((Rt.shape (treeN (List.range k)).1).length ≤ 100000)
  | none => false
set_option maxRecDepth 100000 in
theorem shapes_ok : ∀ k, k < 60 → shapeOk k = true := by decide +kernel
end Sp
end Go.Proofs.YtlpmjeiogdlifaaGreat
namespace Go.Proofs.YtlpmjeiogdlifaaGreat
open Go.RowKit
attribute [local go_sem low] mk_extract
attribute [local go_sem] After.cell After.frozen mk_extract_end ByteArray.mk_append_mk
theorem info_u8V : (Tryz.prog.info? 5).map (fun i => (i.zero, i.size, i.bytes)) = some (some (.int .u8 0), 1, 1) := by kernel_rfl
theorem u8s_own {w : World} {base c : Nat} {A : Option Addr} {L : List Nat} (h : w.ownsRow base 5 1 (.slice A L.length c) L.length (L.map u8v)) (hn : L.length ≤ 100000) : U8s w A L := by
  refine ⟨by rw [List.length_map]; omega, ?_⟩
  rcases own_none h with ⟨_, h0, _⟩ | ⟨g, cur, rfl, _, hb, hc⟩
  · exact .inl (by rw [List.eq_nil_of_length_eq_zero h0]; rfl)
  · exact .inr ⟨g, 0, rfl, hb.lt, fun h => h, hc⟩
set_option maxRecDepth 100000 in
set_option maxHeartbeats 1600000 in
theorem shapes_walk (n : Int) (h0 : 0 ≤ n) (h1 : n ≤ 255) (w : World) :
    Calls Tryz.prog 4 #[.int .u8 n] w fun e w' => e = .returned (.bool true) ∧ Below w.heap.size w w' := by
  obtain ⟨K, hK⟩ : ∃ K : Nat, n % 60 = K := ⟨(n % 60).toNat, by omega⟩
  have hK6 : K < 60 := by omega
  have HOK := Lib.hid (Sp.shapes_ok K hK6)
  obtain ⟨i0, hi0, hz0, hz1, hz2⟩ := info_parts info_u8V
  go_enter Tryz.func4, Tryz.ntmps4
  go_upto_region 4 with (go_at_call 15; refine (known9_any _).mono ?_; rintro e w1 ⟨rfl, hb1⟩; have HB1 := Lib.hid hb1; clear hb1)
  clear h0 h1 hK
  go_upto_region 6 with fail
  go_loopw [4, 5] (fun u iv wr => ∃ j : Nat, j ≤ K ∧ iv = .int .i64 (j : Int) ∧ Hid (wr.ownsRow w1.heap.size 5 1 u j ((List.range j).map u8v)) ∧ Hid (Below w1.heap.size w1 wr)) (fun _ iv _ => K - (intOf iv).toNat)
  case atStart => exact ⟨0, Nat.zero_le _, rfl, Lib.hid (own_nilV _ _ _ _), Lib.hid (Below.refl _ _)⟩
  case round =>
    obtain ⟨j, hj, rfl, HO, HB⟩ := hrel
    by_cases hjK : j < K
    · have hwu : IntKind.u8.wrap (j : Int) = (j : Int) := by rw [IntKind.wrap_u8]; omega
      have HRG := Lib.hid (show (List.range (j + 1)).map u8v = (List.range j).map u8v ++ [u8v j] by rw [List.range_succ, List.map_append]; rfl)
      have HOW := Lib.hid (own_chg2 (S := NoM) HO.out (Chg.of_below ((Below.refl wr.heap.size wr).alloc (Nat.le_refl _) (.cells #[u8v j] 5))) (fun _ _ h => h))
      go_wp2_with (at_builtin; refine wpList_append_own _ rfl _ _ 22 rfl w1.heap.size 5 i0 _ 1 1 Tryz.underlying22 hi0 hz0 hz1 hz2 rfl (by decide) _ j _ rfl HOW.out ⟨wr.heap.size, 0, none⟩ 1 1 [u8v j] rfl rfl (cell_one_new _ _ _) (fun u hu => by rw [List.mem_singleton.1 hu]; rfl) ?c3 ?c4 ?c5 ?_)
      case c3 => simp only [maxLen]; omega
      case c4 => omega
      case c5 => rw [World.size_alloc]; have := HB.out.size; omega
      intro v6 w6 ho6 hgr6 _
      have hz4 := HB.out.size
      have HB6 := Lib.hid ((HB.out.trans (((Below.refl wr.heap.size wr).alloc (Nat.le_refl _) _).mono hz4)).trans (grown_ownV HOW.out (by rw [World.size_alloc]; omega) hgr6))
      have HO6 := Lib.hid (show w6.ownsRow w1.heap.size 5 1 v6 (j + 1) ((List.range (j + 1)).map u8v) from by rw [HRG.out]; exact ho6)
      clear ho6 hgr6 HOW HRG
      go_wp2_with fail
      go_roundw
      case rel => exact ⟨j + 1, by omega, by go_num, HO6, HB6⟩
      case measure => simp [intOf]; omega
    · obtain rfl : j = K := by omega
      obtain ⟨A, c, rfl⟩ := own_sliceV HO.out
      have hus : U8s wr A (List.range j) := u8s_own (c := c) (by rw [List.length_range]; exact HO.out) (by rw [List.length_range]; omega)
      have hlr : (List.range j).length = j := List.length_range
      have htr := tree_any (List.range j) A c wr hus (fun k hk => by have := List.mem_range.1 hk; omega) (by rw [hlr]; omega)
      rw [hlr] at htr
      have hsh : Sp.shapeOk j = true := HOK.out
      unfold Sp.shapeOk at hsh
      generalize List.range j = keys at *
      have HTR := Lib.hid htr
      have HSH := Lib.hid hsh
      have HB2 := Lib.hid (HB1.out.trans (HB.out.mono HB1.out.size))
      clear htr hsh hus HO HB HB1 HOK
      go_upto_region 10 with (go_at_call 16; refine HTR.out.mono ?_; rintro e w2 ⟨f, P, rfl, _, hd, hta, hb⟩; generalize hnp : P.length + 2 = np; have HNP := Lib.hid hnp; clear hnp; have HD := Lib.hid hd; have HTA := Lib.hid hta; have HB := Lib.hid (HB2.out.trans (hb.mono HB2.out.size)); clear hd hta hb HTR HB2)
      have hpl := HTA.out.len
      have hsm := file_small9 P
      have hnw := fun (w W : World) (M : Nat → Prop) (t f' m d : Nat) (v : Value) (hst : StAt W M t f' m d v ([[], []] ++ P.map Sp.bytes) (Sp.Sto.new (np : Int) 400 [])) hl hb => T9.of (w := w) (W := W) (M := M) (t := t) (f := f') (m := m) (d := d) (fv := v) HTA.out hl HNP.out hst hb
      have hl2 : ([[], []] ++ P.map Sp.bytes).length = P.length + 2 := by simp
      generalize [[], []] ++ P.map Sp.bytes = V at *
      obtain ⟨g, cap, c0, htx, hcap⟩ := HD.out.opn9 (by omega) (by omega)
      have HTX := Lib.hid htx
      have HSM := Lib.hid hsm
      have HNW := Lib.hid hnw
      have hV4 : V.length ≤ 400 := by omega
      clear hsm hnw htx HD HTA
      have hnp := HNP.out
      have hnp2 : (2 : Int) ≤ (np : Int) := by omega
      have hnp4 : (np : Int) ≤ 400 := by omega
      clear hnp HNP hl2 hpl
      go_upto_region 11 with (first
        | (go_at_call 18; refine (fileNew_any V g 0 cap _ HTX.out hV4 hcap HSM.out).mono ?_; rintro e w3 ⟨f', v, m, rfl, hfa, _, _, _, hb3⟩; have HFA := Lib.hid hfa; have HB3 := Lib.hid (HB.out.trans (hb3.mono HB.out.size)); clear hfa hb3)
        | (go_at_call 17; refine (stoNew_any f' m v V (np : Int) 400 (.slice none 0 0) [] _ HFA.out (nil_iv9 _)).mono ?_; rintro e w4 ⟨t, d, M, rfl, hst, _, hb4, _, _⟩; have HST := Lib.hid hst; have HB4 := Lib.hid (HB3.out.trans (hb4.mono HB3.out.size)); clear hst hb4))
      have S := Lib.hid (HNW.out w w4 M t f' m d v HST.out (by omega) HB4.out)
      clear HNW HST HB4 HFA HB3 HTX HSM HB c0
      generalize Sp.Sto.new (np : Int) 400 [] = st9 at *
      obtain ⟨rt, hrt⟩ : ∃ rt : Nat, rt = Sp.Rt.root (Sp.treeN keys).1 := ⟨_, rfl⟩
      rw [← hrt]
      have HRT := Lib.hid hrt
      clear hrt
      have HPG := Lib.hid (fun W (hb : Below w4.heap.size w4 W) => HRT.out ▸ (S.out.go hb).pages)
      go_upto_region 12 with (go_at_call 22; refine (HRT.out ▸ S.out.shape).mono ?_; rintro e w5 ⟨rfl, hs⟩; have HB5 := Lib.hid hs; clear hs)
      have HCN := Lib.hid S.out.cn
      generalize Sp.Rt.shape (Sp.treeN keys).1 = T at *
      rcases hsc : Sp.scan T 0 (0, 0, 0, 0) with _ | ⟨ro, rl, rn, ra⟩
      · have := HSH.out; rw [hsc] at this; cases this
      have hq := HSH.out
      rw [hsc] at hq
      simp only [Bool.and_eq_true, decide_eq_true_eq, beq_iff_eq] at hq
      obtain ⟨⟨⟨⟨q1, q2⟩, q3⟩, q4⟩, q5⟩ := hq
      subst q1; subst q2
      have HSC := Lib.hid (show Sp.scan (T.drop 0) ((0 : Nat) : Int) (0, 0, 0, 0) = some (0, rl, (j : Int), ra) from hsc)
      have HQ4 := Lib.hid q4
      clear hsc q4 HSH
      go_upto_region 14 with fail
      go_loopw [12, 13, 14, 15, 16] (fun vo vl vn va iv wr => ∃ (i : Nat) (o l n a : Int), vo = .int .i64 o ∧ vl = .int .i64 l ∧ vn = .int .i64 n ∧ va = .int .i64 a ∧ iv = .int .i64 (i : Int) ∧ i ≤ T.length ∧ (-(i : Int) ≤ o ∧ o ≤ i ∧ 0 ≤ l ∧ l ≤ i ∧ 0 ≤ n ∧ n ≤ 4 * i ∧ 0 ≤ a ∧ a ≤ i) ∧ Hid (Sp.scan (T.drop i) (i : Int) (o, l, n, a) = some (0, rl, (j : Int), ra)) ∧ wr = w5) (fun _ _ _ _ iv _ => T.length - (intOf iv).toNat)
      case atStart => exact ⟨0, 0, 0, 0, 0, rfl, rfl, rfl, rfl, rfl, Nat.zero_le _, by omega, HSC, rfl⟩
      case round =>
        obtain ⟨i, o, l, n, a, rfl, rfl, rfl, rfl, rfl, hi, hbd, HS, rfl⟩ := hrel
        by_cases hiT : i < T.length
        · have hd : T.drop i = T[i] :: T.drop (i + 1) := List.drop_eq_getElem_cons hiT
          have hs := HS.out
          rw [hd] at hs
          unfold Sp.scan at hs
          have HS2 := Lib.hid hs
          clear hs hd HS HSC
          go_upto_region 17 with fail
          have hbs : i < (⟨T.toArray⟩ : ByteArray).size := by
            show i < T.toArray.size
            simpa using hiT
          have hxe : ((⟨T.toArray⟩ : ByteArray)[i]'hbs) = T[i] := rfl
          rw [hxe]
          clear hxe
          generalize T[i] = x at HS2 ⊢
          have hxn := x.toNat_lt
          obtain ⟨b1, b2, b3, b4, b5, b6, b7, b8⟩ := hbd
          have hxi : ∀ c : UInt8, x ≠ c → ¬ ((x.toNat : Nat) : Int) = ((c.toNat : Nat) : Int) := fun c h e => h (UInt8.toNat_inj.1 (by omega))
          have HXI := Lib.hid hxi
          clear hxi
          by_cases x1 : x = 91
          · subst x1
            have HS3 := Lib.hid (show Sp.scan (T.drop (i + 1)) (((i + 1 : Nat) : Int)) (o + 1, l, n, a) = _ from (if_pos rfl).symm.trans HS2.out)
            clear HS2 HXI hxn
            go_wp2_with fail
            go_roundw
            case rel => exact ⟨i + 1, o + 1, l, n, a, by go_num, rfl, rfl, rfl, by go_num, by omega, by omega, HS3, trivial⟩
            case measure => simp [intOf]; omega
          have y1 : ¬ ((x.toNat : Nat) : Int) = 91 := HXI.out 91 x1
          have z1 : (((x.toNat : Nat) : Int) == 91) = false := beq_eq_false_iff_ne.2 y1
          have HS2 := Lib.hid ((if_neg x1).symm.trans HS2.out)
          by_cases x2 : x = 93
          · subst x2
            have HS3 := Lib.hid (show Sp.scan (T.drop (i + 1)) (((i + 1 : Nat) : Int)) (o - 1, l, n, a) = _ from (if_pos rfl).symm.trans HS2.out)
            clear HS2 HXI hxn x1 y1 z1
            go_wp2_with fail
            go_roundw
            case rel => exact ⟨i + 1, o - 1, l, n, a, by go_num, rfl, rfl, rfl, by go_num, by omega, by omega, HS3, trivial⟩
            case measure => simp [intOf]; omega
          have y2 : ¬ ((x.toNat : Nat) : Int) = 93 := HXI.out 93 x2
          have z2 : (((x.toNat : Nat) : Int) == 93) = false := beq_eq_false_iff_ne.2 y2
          have HS2 := Lib.hid ((if_neg x2).symm.trans HS2.out)
          by_cases x3 : x = 40
          · subst x3
            have HS3 := Lib.hid (show Sp.scan (T.drop (i + 1)) (((i + 1 : Nat) : Int)) (o, l + 1, n, (i : Int) + 1) = _ from (if_pos rfl).symm.trans HS2.out)
            clear HS2 HXI hxn x1 y1 z1 x2 y2 z2
            go_wp2_with fail
            go_roundw
            case rel => exact ⟨i + 1, o, l + 1, n, (i : Int) + 1, rfl, by go_num, rfl, by go_num, by go_num, by omega, by omega, HS3, trivial⟩
            case measure => simp [intOf]; omega
          have y3 : ¬ ((x.toNat : Nat) : Int) = 40 := HXI.out 40 x3
          have z3 : (((x.toNat : Nat) : Int) == 40) = false := beq_eq_false_iff_ne.2 y3
          have HS2 := Lib.hid ((if_neg x3).symm.trans HS2.out)
          by_cases x4 : x = 41
          · subst x4
            have hs := (if_pos rfl).symm.trans HS2.out
            by_cases hm : ((i : Int) - a + 1) / 3 < 1 ∨ 4 < ((i : Int) - a + 1) / 3
            · rw [if_pos hm] at hs; cases hs
            rw [if_neg hm] at hs
            have HS3 := Lib.hid (show Sp.scan (T.drop (i + 1)) (((i + 1 : Nat) : Int)) (o, l, n + ((i : Int) - a + 1) / 3, a) = _ from hs)
            have m1 : ¬ ((i : Int) - a + 1) / 3 < 1 := fun h => hm (.inl h)
            have m2 : ¬ 4 < ((i : Int) - a + 1) / 3 := fun h => hm (.inr h)
            clear HS2 HXI hxn x1 y1 z1 x2 y2 z2 x3 y3 z3 hs hm
            go_wp2_with fail
            go_roundw
            case rel => exact ⟨i + 1, o, l, n + ((i : Int) - a + 1) / 3, a, rfl, rfl, by go_num, rfl, by go_num, by omega, by omega, HS3, trivial⟩
            case measure => simp [intOf]; omega
          have y4 : ¬ ((x.toNat : Nat) : Int) = 41 := HXI.out 41 x4
          have z4 : (((x.toNat : Nat) : Int) == 41) = false := beq_eq_false_iff_ne.2 y4
          have HS3 := Lib.hid (show Sp.scan (T.drop (i + 1)) (((i + 1 : Nat) : Int)) (o, l, n, a) = _ from (if_neg x4).symm.trans HS2.out)
          clear HS2 HXI x1 x2 x3 x4
          generalize x.toNat = xn at *
          go_wp2_with fail
          go_roundw
          case rel => exact ⟨i + 1, o, l, n, a, rfl, rfl, rfl, rfl, by go_num, by omega, by omega, HS3, trivial⟩
          case measure => simp [intOf]; omega
        · obtain rfl : i = T.length := by omega
          have hs := HS.out
          rw [List.drop_length] at hs
          unfold Sp.scan at hs
          injection hs with hs
          simp only [Prod.mk.injEq] at hs
          obtain ⟨rfl, rfl, rfl, rfl⟩ := hs
          have hcn := HCN.out
          clear HS HSC HCN hbd
          generalize (Sp.Rt.ids (Sp.treeN keys).1).length = ni at *
          have hnn : (np : Int) - 2 = (ni : Int) := by omega
          have hz5 := HB5.out.size
          clear hcn
          have HNN := Lib.hid hnn
          clear hnn
          go_upto_region 30 with (go_at_call 23; refine (HPG.out _ HB5.out).mono ?_; rintro e w6 ⟨⟨A6, c6, rfl⟩, hb6⟩; have HB6 := Lib.hid (S.out.hb.trans ((HB5.out.trans (hb6.mono HB5.out.size)).mono S.out.hb.size)); clear hb6)
          have hnn := HNN.out
          by_cases hj0 : j = 0
          · subst hj0
            have hT : T = [45] := by simpa using HQ4.out
            subst hT
            go_wp2_with fail
            go_ret
            refine ⟨?_, HB6.out⟩
            simp
            omega
          · have hT : T ≠ [45] := by
              have := HQ4.out
              simpa [hj0] using this
            have hne : ¬ (⟨T.toArray⟩ : ByteArray) = ⟨#[45]⟩ := fun e => hT (by
              have := congrArg (fun b : ByteArray => b.data.toList) e
              simpa using this)
            have hji : ((j : Int) == 0) = false := beq_eq_false_iff_ne.2 (by omega)
            go_wp2_with fail
            go_ret
            refine ⟨?_, HB6.out⟩
            simp
            exact hT
end Go.Proofs.YtlpmjeiogdlifaaGreat
namespace Go.Proofs.YtlpmjeiogdlifaaGreat.treeShapes
open Go.ChangeShapes Go.WideShapes Go.ChangeAt Go.RowKit
set_option maxRecDepth 100000 in
theorem lifted (os : Os) (started : os.Started) (H : Type) (enc : TypeId × Value → H) :
    ReturnsInHanded {} Tryz.checked os 4 .any (Rows.treeShapesSpec.pre6 enc Tryz.prog Tryz.f4 Rows.treeShapesRow.domain false) (Rows.treeShapesSpec.post enc Tryz.prog Tryz.f4 false true false false) := by
  refine returnsInHanded_of_change (C := Tryz.checked) ownKn started (by kernel_rfl) Tryz.func4
    (ChangeSpec.witness6 (enc := enc) (C := Tryz.checked) false ⟨#[], #[.int .u8 0], []⟩ 8 (by kernel_rfl) (by kernel_rfl) (by kernel_rfl) (by kernel_rfl)) ?_
  intro W base args ds gs before hval0 hW hcnd _
  have hval : ∀ (j : Nat) t v, Tryz.f4.params[j]? = some t → args[j]? = some v → Value.okWide Tryz.prog W .any base t v := hval0
  have hW' := hW
  obtain ⟨p, q, hA0, hV, rfl, hfz, hnd⟩ := hW
  have hA : DataW.TrodAll enc Tryz.prog W 0 (fun _ => true) true Tryz.f4.params.toList args.toList ds p := hA0
  rw [Tryz.params4] at hA hval
  obtain ⟨v0, vs0, d0, ds0, p0, q0, hargs, rfl, rfl, h0, rr0⟩ := trodAll_cons hA
  obtain ⟨rfl, rfl, rfl⟩ := trodAll_nil rr0
  obtain rfl : args = #[v0] := by cases args; simp_all
  obtain ⟨rfl, rfl⟩ := trodVars_none hV
  obtain ⟨a0, rfl, rfl, rfl, w0⟩ := open_int Tryz.underlying5 (hval 0 5 v0 rfl rfl) h0
  clear hA0 hval0
  simp only [List.append_nil] at hW'
  refine (shapes_walk a0 (bounds_u8 w0).1 (bounds_u8 w0).2 W).mono fun e W' ⟨he, hg⟩ => ?_
  subst he
  exact ⟨_, rfl, post_of_below (pa := []) (pv := []) hW' (fun _ _ _ => (trodAll_cons_mk (shut_bool Tryz.underlying4 _) trodAll_mk0)) (fun sp hsp => (trodAll_cons_mk (shut_int Tryz.underlying5 w0) trodAll_mk0)) (fun _ _ => rfl) (by simp)
    hg (ok_one (by kernel_rfl) rfl (okWide_bool_mk Tryz.underlying4 _))⟩
theorem o_name : Tryz.pinned.checked.prog.funcNamed Rows.treeShapesRow.func = some 4 := by kernel_rfl
theorem o_ip : (Rows.treeShapesRow.inPlace == Tryz.pinned.checked.prog.inPlace 4) = true := by kernel_rfl
theorem o_uf : (Rows.treeShapesRow.unfollowed == Tryz.pinned.checked.prog.unfollowed 4) = true := by kernel_rfl
theorem o_rc : (Rows.treeShapesRow.recurses == Tryz.pinned.checked.prog.recurses 4) = true := by kernel_rfl
theorem o_nm : (Rows.treeShapesRow.named == Tryz.pinned.checked.prog.varsNamed 4) = true := by kernel_rfl
theorem o_closed : joinedFacts Tryz.pinned.checked.prog 4 Tryz.f4 Rows.treeShapesSpec Rows.treeShapesRow = true := by
  unfold joinedFacts
  rw [o_ip, o_uf, o_rc, o_nm]
  kernel_rfl
theorem o_inst : Tryz.f4.isInstance Tryz.pinned.checked.prog Rows.treeShapesRow.origin Rows.treeShapesRow.targs := of_decide_eq_true (by kernel_rfl)
theorem o_wrap : Tryz.f4.isWrapper Tryz.pinned.checked.prog Rows.treeShapesRow.wrapper Rows.treeShapesRow.mainSum := by
  unfold Func.isWrapper
  first | (rw [if_pos (by decide +kernel)]; kernel_rfl) | (rw [if_neg (by decide +kernel)]; exact ⟨rfl, rfl⟩)
theorem over : Rows.treeShapesRow.holds Tryz.pinned (OpenSpec.ofChange Rows.treeShapesSpec) :=
  OpenClaim.holds_of_wide 4 Tryz.f4 rfl rfl rfl rfl rfl rfl rfl ⟨rfl, rfl, rfl, rfl, rfl⟩ rfl rfl rfl rfl rfl o_name Tryz.func4 o_closed o_inst o_wrap
    (fun os started H enc _ => lifted os started H enc)
theorem proved : Rows.TreeShapesSaid :=
  over
#print axioms proved
end Go.Proofs.YtlpmjeiogdlifaaGreat.treeShapes
