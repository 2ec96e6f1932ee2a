/- TreeGrown: what keys were put in are in the tree, in order, each once. The walk. TreeGrown: whatever the input: true; the input reads as it did. -/
import Derived.Test.YtlpmjeiogdlifaaGreatQB00
import Derived.Test.YtlpmjeiogdlifaaGreatQB16
import Derived.Test.YtlpmjeiogdlifaaGreatQB35
import Derived.Test.YtlpmjeiogdlifaaGreatQB36
import Derived.SizedLaws
set_option linter.unusedSimpArgs false
set_option linter.unusedVariables false
namespace Go.Proofs.YtlpmjeiogdlifaaGreat
open Go.RowKit
attribute [local go_sem low] mk_extract
attribute [local go_sem] After.cell After.frozen mk_extract_end ByteArray.mk_append_mk
namespace Sp
theorem insN_new {n : Nat} : ∀ {L : List Nat}, n ∉ L → (insN n L).length = L.length + 1
  | [], _ => rfl
  | m :: l, h => by
    have h1 : m ≠ n := fun e => h (by simp [e])
    have h2 : n ∉ l := fun e => h (by simp [e])
    unfold insN
    by_cases hm : m < n
    · rw [if_pos hm, List.length_cons, insN_new h2]; rfl
    · rw [if_neg hm, if_neg h1]; rfl
theorem insN_old {n : Nat} : ∀ {L : List Nat}, L.Pairwise (· < ·) → n ∈ L → (insN n L).length = L.length
  | m :: l, hs, h => by
    obtain ⟨h1, h2⟩ := List.pairwise_cons.1 hs
    unfold insN
    by_cases hm : m < n
    · have : n ∈ l := by
        rcases List.mem_cons.1 h with e | e
        · omega
        · exact e
      rw [if_pos hm, List.length_cons, insN_old h2 this]; rfl
    · by_cases he : m = n
      · rw [if_neg hm, if_pos he]
      · rcases List.mem_cons.1 h with e | e
        · exact absurd e.symm he
        · have := h1 n e
          omega
def belowN (i : Nat) (L : List Nat) : Nat := (L.filter fun x => decide (x < i)).length
theorem belowN_none {i : Nat} : ∀ {L : List Nat}, (∀ x ∈ L, i ≤ x) → belowN i L = 0 := fun {L} h => by
  unfold belowN
  rw [List.filter_eq_nil_iff.2 fun x hx => by have := h x hx; simp; omega]
  rfl
theorem belowN_cons {i m : Nat} {l : List Nat} : belowN i (m :: l) = (if m < i then 1 else 0) + belowN i l := by
  unfold belowN
  by_cases h : m < i
  · rw [List.filter_cons_of_pos (by simpa using h), if_pos h, List.length_cons]; omega
  · rw [List.filter_cons_of_neg (by simpa using h), if_neg h]; omega
theorem belowN_in {i : Nat} : ∀ {L : List Nat}, L.Pairwise (· < ·) → i ∈ L → belowN i L < L.length ∧ L.getD (belowN i L) 0 = i ∧ belowN (i + 1) L = belowN i L + 1
  | m :: l, hs, h => by
    obtain ⟨h1, h2⟩ := List.pairwise_cons.1 hs
    by_cases he : i = m
    · subst he
      have e0 : belowN i l = 0 := belowN_none fun x hx => by have := h1 x hx; omega
      have e1 : belowN (i + 1) l = 0 := belowN_none fun x hx => by have := h1 x hx; omega
      rw [belowN_cons, belowN_cons, e0, e1, if_neg (by omega), if_pos (by omega)]
      exact ⟨by simp, by simp, rfl⟩
    · have hi : i ∈ l := by
        rcases List.mem_cons.1 h with e | e
        · exact absurd e he
        · exact e
      have hm := h1 i hi
      obtain ⟨a1, a2, a3⟩ := belowN_in h2 hi
      rw [belowN_cons, belowN_cons, if_pos hm, if_pos (by omega)]
      refine ⟨by rw [List.length_cons]; omega, ?_, by omega⟩
      rw [Nat.add_comm, List.getD_cons_succ]
      exact a2
theorem belowN_out {i : Nat} : ∀ {L : List Nat}, i ∉ L → belowN (i + 1) L = belowN i L
  | [], _ => rfl
  | m :: l, h => by
    have h1 : m ≠ i := fun e => h (by simp [e])
    rw [belowN_cons, belowN_cons, belowN_out fun e => h (by simp [e])]
    by_cases hm : m < i
    · rw [if_pos hm, if_pos (by omega)]
    · rw [if_neg hm, if_neg (by omega)]
end Sp
abbrev BoolT9 : TypeId := 4
structure Th9 (W0 W : World) (b : Nat) (keys : List Nat) : Prop where
  hb : Below W0.heap.size W0 W
  bt : ∃ T cs, Blk W b T cs ∧ cs.size = 256 ∧ ∀ i, i < 256 → cs[i]? = some (.bool (decide (i ∈ keys)))
theorem Th9.go {W0 W W' : World} {b : Nat} {keys : List Nat} (h : Th9 W0 W b keys) (hb : Below W.heap.size W W') : Th9 W0 W' b keys := by
  obtain ⟨T, cs, h1, h2⟩ := h.bt
  exact ⟨h.hb.trans (hb.mono h.hb.size), T, cs, h1.below hb h1.lt, h2⟩
theorem Th9.cell {W0 W : World} {b : Nat} {keys : List Nat} (h : Th9 W0 W b keys) {i : Nat} (hi : i < 256) : W.cell? ⟨b, i, none⟩ = some (.bool (decide (i ∈ keys))) ∧ W.frozen? ⟨b, i, none⟩ = false ∧ b < W.heap.size := by
  obtain ⟨T, cs, h1, _, h2⟩ := h.bt
  exact ⟨(h1.cell i).trans (h2 i hi), h1.frozen i, h1.lt⟩
theorem Th9.set {W0 W : World} {b : Nat} {keys : List Nat} (h : Th9 W0 W b keys) (hb : W0.heap.size ≤ b) {k : Nat} (hk : k < 256) : Th9 W0 (W.setCell ⟨b, k, none⟩ (.bool true)) b (keys ++ [k]) := by
  obtain ⟨T, cs, h1, h2, h3⟩ := h.bt
  refine ⟨h.hb.trans ((Chg.set1 W b k _).below h.hb.size fun i hi e => by have : i = b := e; omega), T, _, h1.set_ k _, by rw [Array.size_setIfInBounds]; exact h2, fun i hi => ?_⟩
  by_cases hik : k = i
  · subst hik
    rw [Array.getElem?_setIfInBounds_self_of_lt (by omega)]
    simp
  · rw [Array.getElem?_setIfInBounds_ne hik, h3 i hi]
    have : i ≠ k := fun e => hik e.symm
    simp [this]
theorem zero2569 : Tryz.zeroCells35 = Array.replicate 256 (.bool false) := by kernel_rfl
theorem Th9.start (W : World) : Th9 W (W.alloc (.cells Tryz.zeroCells35 35)) W.heap.size [] := by
  refine ⟨(Below.refl _ _).alloc (Nat.le_refl _) _, _, _, Blk.new _ _ _, by rw [zero2569]; simp, fun i hi => ?_⟩
  rw [zero2569]
  simp [hi]
structure Fa9 (w W0 W : World) (t b : Nat) (keys : List Nat) (n : Nat) (V : List Txt) (s : Sp.Sto) (l : List Nat) : Prop where
  kn : T9 w W0 t keys n V s
  th : Th9 W0 W b l
  hb0 : W0.heap.size ≤ b
section
variable {w W0 W W' : World} {t b : Nat} {keys : List Nat} {n : Nat} {V : List Txt} {s : Sp.Sto} {l : List Nat}
theorem Fa9.go (h : Fa9 w W0 W t b keys n V s l) (hb : Below W.heap.size W W') : Fa9 w W0 W' t b keys n V s l := ⟨h.kn, h.th.go hb, h.hb0⟩
theorem Fa9.tn (h : Fa9 w W0 W t b keys n V s l) : T9 w W t keys n V s := h.kn.go h.th.hb
theorem Fa9.hb (h : Fa9 w W0 W t b keys n V s l) : Below w.heap.size w W := h.kn.hb.trans (h.th.hb.mono h.kn.hb.size)
end
theorem KeysAt.go9 {W W' : World} {A : Option Addr} {L : List Nat} (h : KeysAt W A L) (hb : Below W.heap.size W W') : KeysAt W' A L := fun j hj => by
  obtain ⟨g, e, h1, h2⟩ := h j hj
  exact ⟨g, e, Nat.lt_of_lt_of_le h1 hb.size, (hb.cell (p := ⟨g, j * 10, none⟩) h1).trans h2⟩
theorem T9.hb2 {w W W0 : World} {t : Nat} {keys : List Nat} {n : Nat} {V : List Txt} {s : Sp.Sto} (h : T9 w W t keys n V s) : Below w.heap.size w W := h.hb
set_option maxRecDepth 100000 in
set_option maxHeartbeats 1600000 in
theorem grown_walk (keys : List Nat) (A : Option Addr) (c : Nat) (w : World) (hk : U8s w A keys) (h256 : ∀ k ∈ keys, k < 256) :
    Calls Tryz.prog 3 #[.slice A keys.length c] w fun e w' => e = .returned (.bool true) ∧ Below w.heap.size w w' := by
  have HK := Lib.hid hk
  have H256 := Lib.hid h256
  have hl := Row.len hk
  rw [List.length_map] at hl
  clear hk h256
  by_cases hn : keys.length ≤ 120
  · have HGT := Lib.hid (fun W (hb : Below w.heap.size w W) => tree_any keys A c W (Row.go HK.out hb) H256.out (by omega))
    have hn0 : ¬ (120 < (keys.length : Int)) := by omega
    have hkl : keys.length ≤ 120 := by omega
    go_enter Tryz.func3, Tryz.ntmps3
    go_upto_region 6 with (first
      | (go_at_call 15; refine (known9_any _).mono ?_; rintro e w1 ⟨rfl, hb1⟩; have HB1 := Lib.hid hb1; clear hb1)
      | (go_at_call 16; refine (HGT.out _ HB1.out).mono ?_; rintro e w2 ⟨f, P, rfl, _, hd, hta, hb⟩; generalize hnp : P.length + 2 = np; have HNP := Lib.hid hnp; clear hnp; have HD := Lib.hid hd; have HTA := Lib.hid hta; have HB := Lib.hid (HB1.out.trans (hb.mono HB1.out.size)); clear hd hta hb HB1))
    clear HGT
    have hpl := HTA.out.len
    have hsm := file_small9 P
    have hnw := fun (w W : World) (M : Nat → Prop) (t f' m d : Nat) (v : Value) (hst : StAt W M t f' m d v ([[], []] ++ P.map Sp.bytes) (Sp.Sto.new (np : Int) 400 [])) hl hb => T9.of (w := w) (W := W) (M := M) (t := t) (f := f') (m := m) (d := d) (fv := v) HTA.out hl HNP.out hst hb
    have hl2 : ([[], []] ++ P.map Sp.bytes).length = P.length + 2 := by simp
    generalize [[], []] ++ P.map Sp.bytes = V at *
    obtain ⟨g, cap, c0, htx, hcap⟩ := HD.out.opn9 (by omega) (by omega)
    have HTX := Lib.hid htx
    have HSM := Lib.hid hsm
    have HNW := Lib.hid hnw
    have hV4 : V.length ≤ 400 := by omega
    clear hsm hnw htx HD HTA
    have hnp := HNP.out
    have hnp2 : (2 : Int) ≤ (np : Int) := by omega
    have hnp4 : (np : Int) ≤ 400 := by omega
    clear hnp HNP hl2 hpl
    go_upto_region 7 with (first
      | (go_at_call 18; refine (fileNew_any V g 0 cap _ HTX.out hV4 hcap HSM.out).mono ?_; rintro e w3 ⟨f', v, m, rfl, hfa, _, _, _, hb3⟩; have HFA := Lib.hid hfa; have HB3 := Lib.hid (HB.out.trans (hb3.mono HB.out.size)); clear hfa hb3)
      | (go_at_call 17; refine (stoNew_any f' m v V (np : Int) 400 (.slice none 0 0) [] _ HFA.out (nil_iv9 _)).mono ?_; rintro e w4 ⟨t, d, M, rfl, hst, _, hb4, _, _⟩; have HST := Lib.hid hst; have HB4 := Lib.hid (HB3.out.trans (hb4.mono HB3.out.size)); clear hst hb4))
    have S := Lib.hid (HNW.out w w4 M t f' m d v HST.out (by omega) HB4.out)
    clear HNW HST HB4 HFA HB3 HTX HSM HB c0
    generalize Sp.Sto.new (np : Int) 400 [] = st9 at *
    obtain ⟨rt, hrt⟩ : ∃ rt : Nat, rt = Sp.Rt.root (Sp.treeN keys).1 := ⟨_, rfl⟩
    rw [← hrt]
    have HRT := Lib.hid hrt
    clear hrt
    go_upto_region 8 with fail
    refine wp_gen (fun W => Fa9 w w4 W t w4.heap.size keys np V st9 []) ⟨S.out, Th9.start w4, Nat.le_refl _⟩ ?_
    clear S
    generalize w4.heap.size = b at *
    intro w5 hS
    have S := Lib.hid hS
    clear hS
    go_upto_region 10 with fail
    go_loopw [8, 9] (fun nv iv wr => ∃ j : Nat, j ≤ keys.length ∧ iv = .int .i64 (j : Int) ∧ nv = .int .i64 (((Sp.numsOf (keys.take j)).length : Nat) : Int) ∧ Hid (Fa9 w w4 wr t b keys np V st9 (keys.take j))) (fun _ iv _ => keys.length - (intOf iv).toNat)
    case atStart => exact ⟨0, Nat.zero_le _, rfl, rfl, S⟩
    case round =>
      obtain ⟨j, hj, rfl, rfl, S⟩ := hrel
      by_cases hlt : j < keys.length
      · obtain ⟨kb, ko, rfl, hkc⟩ := HK.out.cell S.out.hb hlt
        have hk2 := H256.out _ (show keys.getD j 0 ∈ keys by simp [List.getD, hlt])
        have htk : keys.take (j + 1) = keys.take j ++ [keys.getD j 0] := Sp.take_snoc (d := 0) hlt
        have HNX := Lib.hid htk
        have hnl : (Sp.numsOf (keys.take (j + 1))).length = if keys.getD j 0 ∈ keys.take j then (Sp.numsOf (keys.take j)).length else (Sp.numsOf (keys.take j)).length + 1 := by
          rw [htk, Sp.numsOf_snoc]
          split
          · next h => exact Sp.insN_old (Sp.numsOf_sorted _) (Sp.numsOf_mem.2 h)
          · next h => exact Sp.insN_new fun e => h (Sp.numsOf_mem.1 e)
        have hnle : (Sp.numsOf (keys.take j)).length ≤ 120 := Nat.le_trans (Sp.numsOf_len _) (by rw [List.length_take]; omega)
        have HNL := Lib.hid hnl
        clear htk hnl
        generalize hnn : (Sp.numsOf (keys.take j)).length = nn at *
        generalize keys.getD j 0 = k at *
        clear hnn
        obtain ⟨hcl, hfr, hbw⟩ := S.out.th.cell hk2
        by_cases hm : k ∈ keys.take j
        · rw [decide_eq_true hm] at hcl
          have HNE := Lib.hid (HNL.out.trans (if_pos hm))
          clear hm
          go_wp2_with fail
          refine ⟨⟨j + 1, by omega, by go_num, by rw [HNE.out], Lib.hid (HNX.out ▸ (⟨S.out.kn, S.out.th.set S.out.hb0 hk2, S.out.hb0⟩ : Fa9 w w4 _ t b keys np V st9 (keys.take j ++ [k])))⟩, by simp [intOf]; omega⟩
        · rw [decide_eq_false hm] at hcl
          have HNE := Lib.hid (HNL.out.trans (if_neg hm))
          clear hm
          go_wp2_with fail
          refine ⟨⟨j + 1, by omega, by go_num, by rw [HNE.out]; go_num, Lib.hid (HNX.out ▸ (⟨S.out.kn, S.out.th.set S.out.hb0 hk2, S.out.hb0⟩ : Fa9 w w4 _ t b keys np V st9 (keys.take j ++ [k])))⟩, by simp [intOf]; omega⟩
      · obtain rfl : j = keys.length := by omega
        have S := Lib.hid (show Fa9 w w4 wr t b keys np V st9 keys by have := S.out; rwa [List.take_length] at this)
        rw [List.take_length]
        clear hlt hj
        go_upto_region 16 with (go_at_call 19; refine (HRT.out ▸ S.out.tn.list).mono ?_; rintro e w6 ⟨⟨A6, c6, rfl, hka⟩, hs⟩; have HKA := Lib.hid hka; have S6 := Lib.hid (S.out.go hs); clear hka hs)
        clear S
        have HR := Lib.hid (HRT.out ▸ S6.out.tn.right)
        have hn9 : (Sp.numsOf keys).length ≤ 120 := Nat.le_trans (Sp.numsOf_len _) hkl
        go_upto_region 18 with (go_at_call 20; refine HR.out.mono ?_; rintro e w7 ⟨rfl, hs⟩; have S7 := Lib.hid (S6.out.go hs); have HKB := Lib.hid (HKA.out.go9 hs); clear hs)
        clear S6 HKA HR
        go_upto_region 20 with fail
        go_loopw [12, 13] (fun av iv wr => ∃ i : Nat, i ≤ 256 ∧ iv = .int .i64 (i : Int) ∧ av = .int .i64 ((Sp.belowN i (Sp.numsOf keys) : Nat) : Int) ∧ Hid (Below w7.heap.size w7 wr)) (fun _ iv _ => 256 - (intOf iv).toNat)
        case atStart => exact ⟨0, by omega, rfl, by rw [Sp.belowN_none (fun x _ => Nat.zero_le x)]; rfl, Lib.hid (Below.refl _ _)⟩
        case round =>
          obtain ⟨i, hi, rfl, rfl, HB⟩ := hrel
          by_cases hi2 : i < 256
          · have CK := Lib.hid (fun (W : World) => key_any i hi2 W)
            obtain ⟨hcl, _, hbw⟩ := (S7.out.go HB.out).th.cell hi2
            have hbz := HB.out.size
            by_cases hm : i ∈ keys
            · rw [decide_eq_true hm] at hcl
              obtain ⟨a1, a2, a3⟩ := Sp.belowN_in (Sp.numsOf_sorted keys) (Sp.numsOf_mem.2 hm)
              obtain ⟨g6, hA6, hg1, hg2⟩ := HKB.out _ a1
              rw [a2] at hg2
              have hg3 := (HB.out.cell (p := ⟨g6, _, none⟩) hg1).trans hg2
              have hgw : g6 < wr.heap.size := Nat.lt_of_lt_of_le hg1 hbz
              subst hA6
              have HA3 := Lib.hid a3
              clear a2 a3 hg1 hg2 hm
              generalize Sp.belowN i (Sp.numsOf keys) = q at *
              go_upto_region 23 with fail
              refine wp_region_row (by kernel_rfl) (by kernel_rfl) ?_
              repeat (first | go_big_quiet_skip | (go_big_quiet_step (first | (go_at_call 21; exact after_call (Nat.le_refl _) (CK.out _)))))
              refine wpQuiet_nil ?_
              intro w8 hb8
              go_wp2_with fail
              refine ⟨⟨i + 1, by omega, by go_num, by rw [HA3.out]; go_num, Lib.hid (HB.out.trans (hb8.mono hbz))⟩, by simp [intOf]; omega⟩
            · rw [decide_eq_false hm] at hcl
              have HA3 := Lib.hid (Sp.belowN_out (i := i) (mt Sp.numsOf_mem.1 hm))
              clear hm
              go_wp2_with fail
              refine ⟨⟨i + 1, by omega, by go_num, by rw [HA3.out], HB⟩, by simp [intOf]; omega⟩
          · obtain rfl : i = 256 := by omega
            go_wp2_with fail
            go_ret
            exact ⟨rfl, S7.out.hb.trans (HB.out.mono S7.out.hb.size)⟩
  · have hn1 : 120 < (keys.length : Int) := by omega
    go_enter Tryz.func3, Tryz.ntmps3
    go_wp2_with (go_at_call 15; refine (known9_any _).mono ?_; rintro e w1 ⟨rfl, hb1⟩)
    go_ret
    exact ⟨rfl, hb1⟩
end Go.Proofs.YtlpmjeiogdlifaaGreat
namespace Go.Proofs.YtlpmjeiogdlifaaGreat.treeGrown
open Go.ChangeShapes Go.WideShapes Go.ChangeAt Go.RowKit
set_option maxRecDepth 100000 in
theorem lifted (os : Os) (started : os.Started) (H : Type) (enc : TypeId × Value → H) :
    ReturnsInHanded {} Tryz.checked os 3 .any (Rows.treeGrownSpec.pre6 enc Tryz.prog Tryz.f3 Rows.treeGrownRow.domain false) (Rows.treeGrownSpec.post enc Tryz.prog Tryz.f3 false true false false) := by
  refine returnsInHanded_of_change_sized (C := Tryz.checked) ownKn started (by kernel_rfl) Tryz.func3
    (ChangeSpec.witness6 (enc := enc) (C := Tryz.checked) false ⟨#[], #[.slice none 0 0], []⟩ 8 (by kernel_rfl) (by kernel_rfl) (by kernel_rfl) (by kernel_rfl)) ?_
  intro W base args ds gs before hval0 hW hcnd hsz0 _
  have hval : ∀ (j : Nat) t v, Tryz.f3.params[j]? = some t → args[j]? = some v → Value.okWide Tryz.prog W .any base t v := hval0
  have hW' := hW
  obtain ⟨p, q, hA0, hV, rfl, hfz, hnd⟩ := hW
  have hA : DataW.TrodAll enc Tryz.prog W 0 (fun _ => true) true Tryz.f3.params.toList args.toList ds p := hA0
  have hsz : (DataW.weightsEach Tryz.prog (Tryz.f3.params.toList ++ Rows.treeGrownSpec.plain.varTypes Tryz.prog) (ds ++ gs)).all (· ≤ reachBytes) = true := hsz0
  rw [Tryz.params3] at hA hval hsz
  obtain ⟨v0, vs0, d0, ds0, p0, q0, hargs, rfl, rfl, h0, rr0⟩ := trodAll_cons hA
  obtain ⟨rfl, rfl, rfl⟩ := trodAll_nil rr0
  obtain rfl : args = #[v0] := by cases args; simp_all
  obtain ⟨rfl, rfl⟩ := trodVars_none hV
  have k0 := h0
  obtain ⟨a0, r0, c0, hv0, b0, g0⟩ := open_u8s (hval 0 22 v0 rfl rfl) h0
  clear hA0 hval0
  simp only [List.append_nil] at hW'
  rw [hv0]
  refine (grown_walk a0 r0 c0 W b0 g0).mono fun e W' ⟨he, hg⟩ => ?_
  subst he
  rw [← hv0]
  exact ⟨_, rfl, post_of_below (pa := (p0 ++ [])) (pv := []) hW' (fun _ _ _ => (trodAll_cons_mk (shut_bool Tryz.underlying4 _) trodAll_mk0)) (fun sp hsp => (trodAll_cons_mk (WideElems.Trod_stays laidKn (by kernel_rfl) (of_decide_eq_true (by kernel_rfl)) k0 (fun x hx => hg.same (hW'.lt x (by simp [hx]))) (fun x hx => hsp x (by simp [hx]))) trodAll_mk0)) (fun _ _ => rfl) (by simp)
    hg (ok_one (by kernel_rfl) rfl (okWide_bool_mk Tryz.underlying4 _))⟩
theorem o_name : Tryz.pinned.checked.prog.funcNamed Rows.treeGrownRow.func = some 3 := by kernel_rfl
theorem o_ip : (Rows.treeGrownRow.inPlace == Tryz.pinned.checked.prog.inPlace 3) = true := by kernel_rfl
theorem o_uf : (Rows.treeGrownRow.unfollowed == Tryz.pinned.checked.prog.unfollowed 3) = true := by kernel_rfl
theorem o_rc : (Rows.treeGrownRow.recurses == Tryz.pinned.checked.prog.recurses 3) = true := by kernel_rfl
theorem o_nm : (Rows.treeGrownRow.named == Tryz.pinned.checked.prog.varsNamed 3) = true := by kernel_rfl
theorem o_closed : joinedFacts Tryz.pinned.checked.prog 3 Tryz.f3 Rows.treeGrownSpec Rows.treeGrownRow = true := by
  unfold joinedFacts
  rw [o_ip, o_uf, o_rc, o_nm]
  kernel_rfl
theorem o_inst : Tryz.f3.isInstance Tryz.pinned.checked.prog Rows.treeGrownRow.origin Rows.treeGrownRow.targs := of_decide_eq_true (by kernel_rfl)
theorem o_wrap : Tryz.f3.isWrapper Tryz.pinned.checked.prog Rows.treeGrownRow.wrapper Rows.treeGrownRow.mainSum := by
  unfold Func.isWrapper
  first | (rw [if_pos (by decide +kernel)]; kernel_rfl) | (rw [if_neg (by decide +kernel)]; exact ⟨rfl, rfl⟩)
theorem over : Rows.treeGrownRow.holds Tryz.pinned (OpenSpec.ofChange Rows.treeGrownSpec) :=
  OpenClaim.holds_of_wide 3 Tryz.f3 rfl rfl rfl rfl rfl rfl rfl ⟨rfl, rfl, rfl, rfl, rfl⟩ rfl rfl rfl rfl rfl o_name Tryz.func3 o_closed o_inst o_wrap
    (fun os started H enc _ => lifted os started H enc)
theorem proved : Rows.TreeGrownSaid :=
  over
#print axioms proved
end Go.Proofs.YtlpmjeiogdlifaaGreat.treeGrown
