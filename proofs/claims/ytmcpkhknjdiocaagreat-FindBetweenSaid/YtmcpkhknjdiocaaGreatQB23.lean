/- law10's known tree. FindAll: of a tree each key that was put in is found, no other one is: the walk. FindWalks: from the first one on, one behind the other, all keys are met, each once: the walk. -/
import Derived.Test.YtmcpkhknjdiocaaGreatQB22
set_option linter.unusedSimpArgs false
set_option linter.unusedVariables false
namespace Go.Proofs.YtmcpkhknjdiocaaGreat
open Go.RowKit
attribute [local go_sem low] mk_extract
attribute [local go_sem] After.cell After.frozen mk_extract_end ByteArray.mk_append_mk
theorem TrS.none {w : World} {t : Nat} {o : Option Sp.Rt} (h : TrS w t o) : TrS w t none := by
  obtain ⟨f, m, d, last, v, V, h1, h2, _⟩ := h.ex
  exact ⟨f, m, d, last, v, V, h1, h2, fun r h => by cases h⟩
theorem FindN.yes {e : Ending} {y : Option Nat} {n : Nat} (h : FindN e y) (hy : y = some n) : ∃ V c, e = .returned (.tuple #[.agg #[.string ⟨(Sp.keyN n).toArray⟩, .int .i64 1, .string ⟨#[118]⟩, .int .i64 0, .int .i64 0, .slice V 0 c, .int .i64 0, .int .i64 0, .int .i64 0, .int .i64 0], .nilIface]) := by
  subst hy
  exact h
theorem FindN.no {e : Ending} {y : Option Nat} (h : FindN e y) (hy : y = none) : e = .returned (.tuple #[.agg itZ, .iface ErrT (.int .i64 21)]) := by
  subst hy
  exact h
set_option maxRecDepth 100000 in
set_option maxHeartbeats 1600000 in
theorem known10_any (w : World) : Calls Tryz.prog 26 #[] w fun e w' => e = .returned (.bool true) ∧ Below w.heap.size w w' := by
  have hal : Below w.heap.size w (w.alloc (.cells #[.int .u8 2, .int .u8 4, .int .u8 6] 5)) := (Below.refl _ _).alloc (Nat.le_refl _) _
  have htr : Calls Tryz.prog 27 #[.slice (some ⟨w.heap.size, 0, none⟩) 3 3] (w.alloc (.cells #[.int .u8 2, .int .u8 4, .int .u8 6] 5)) _ := tree_any [2, 4, 6] (some ⟨w.heap.size, 0, none⟩) 3 _ ⟨by simp, .inr ⟨w.heap.size, 0, rfl, (Blk.new w _ _).lt, id, fun j u hu => by
    rw [Nat.zero_add, (Blk.new w 5 _).cell]
    simpa [u8v] using hu⟩⟩ (by decide) (by decide)
  have hf0 : (if 4 ∈ Sp.numsOf [2, 4, 6] then some 4 else none) = some 4 := by decide +kernel
  have hf1 : (if 5 ∈ Sp.numsOf [2, 4, 6] then some 5 else none) = none := by decide +kernel
  have hf2 : Sp.fromN (Sp.numsOf [2, 4, 6]) 5 = some 6 := by decide +kernel
  have hf3 : Sp.fromN (Sp.numsOf [2, 4, 6]) (4 + 1) = some 6 := by decide +kernel
  have hf4 : Sp.fromN (Sp.numsOf [2, 4, 6]) (6 + 1) = none := by decide +kernel
  have hk6 : ∀ k ∈ [2, 4, 6], k < 256 := by decide
  have hkl : [2, 4, 6].length ≤ 120 := by decide
  generalize [2, 4, 6] = keys at htr hk6 hkl hf0 hf1 hf2 hf3 hf4
  have HTR := Lib.hid htr
  have HK6 := Lib.hid hk6
  have HAL := Lib.hid hal
  have HF0 := Lib.hid hf0
  have HF1 := Lib.hid hf1
  have HF2 := Lib.hid hf2
  have HF3 := Lib.hid hf3
  have HF4 := Lib.hid hf4
  clear htr hk6 hal hf0 hf1 hf2 hf3 hf4
  go_enter Tryz.func26, Tryz.ntmps26
  go_upto_region 2 with (go_at_call 27; refine HTR.out.mono ?_; rintro e w2 ⟨f, P, rfl, _, hd, hta, hb⟩; generalize hnp : P.length + 2 = np; have HNP := Lib.hid hnp; clear hnp; have HD := Lib.hid hd; have HTA := Lib.hid hta; have HB := Lib.hid (HAL.out.trans (hb.mono HAL.out.size)); clear hd hta hb HTR HAL)
  have hpl := HTA.out.len
  have hsm := file_small P
  have hnw := fun (t f' m d : Nat) (last : Int) (v : Value) (W : World) (hst : St0 W t f' m d last v ([[], []] ++ P.map Sp.bytes)) h1 h2 => TnS.of hst HTA.out h1 h2
  have hl2 : ([[], []] ++ P.map Sp.bytes).length = P.length + 2 := by simp
  generalize [[], []] ++ P.map Sp.bytes = V at *
  obtain ⟨g, cap, c0, htx, hcap⟩ := HD.out.opn (by omega) (by omega)
  have HTX := Lib.hid htx
  have HSM := Lib.hid hsm
  have HNW := Lib.hid hnw
  have hV4 : V.length ≤ 400 := by omega
  clear hsm hnw htx HD HTA
  have hnp := HNP.out
  have hnp2 : (2 : Int) ≤ (np : Int) := by omega
  have hnp4 : (np : Int) ≤ 400 := by omega
  clear hnp HNP hl2
  go_upto_region 3 with (first
    | (go_at_call 12; refine (fileNew_any V g 0 cap _ HTX.out hV4 hcap HSM.out).mono ?_; rintro e w3 ⟨f', v, m, rfl, hfa, _, _, _, hb3⟩; have HFA := Lib.hid hfa; have HB3 := Lib.hid (HB.out.trans (hb3.mono HB.out.size)); clear hfa hb3)
    | (go_at_call 28; refine (storeNew_any f' m (np : Int) v V _ HFA.out hnp2 hnp4).mono ?_; rintro e w4 ⟨t, d, rfl, hst, hb4⟩; have HST := Lib.hid hst; have HB4 := Lib.hid (HB3.out.trans (hb4.mono HB3.out.size)); clear hst hb4))
  have S := Lib.hid (show KnS w w4 t keys [] from ⟨HNW.out t f' m d (np : Int) v w4 HST.out HK6.out (by omega), fun p hp => by (cases hp), HB4.out⟩)
  clear HNW HST HB4 HFA HB3 HTX HSM HB c0
  obtain ⟨rt, hrt⟩ : ∃ rt : Nat, rt = Sp.Rt.root (Sp.treeN keys).1 := ⟨_, rfl⟩
  rw [← hrt]
  have HRT := Lib.hid hrt
  clear hrt
  have hg : ∀ W, TnS W t keys → Calls Tryz.prog 32 #[.pointer (some ⟨t, 0, none⟩), .int .i64 (rt : Int), .string ⟨#[97, 101]⟩] W fun e w' => (∃ V c, e = .returned (.tuple #[.agg #[.string ⟨#[97, 101]⟩, .int .i64 1, .string ⟨#[118]⟩, .int .i64 0, .int .i64 0, .slice V 0 c, .int .i64 0, .int .i64 0, .int .i64 0, .int .i64 0], .nilIface])) ∧ Below W.heap.size W w' := fun W h => HRT.out ▸ (getN t keys 4 (by decide) W h).mono fun e w' ⟨h1, h2⟩ => ⟨h1.yes HF0.out, h2⟩
  have HG := Lib.hid hg
  clear hg
  go_upto_region 6 with (first
    | (go_at_call 32; refine (HG.out _ S.out.tn).mono ?_; rintro e w5 ⟨⟨V5, cc5, rfl⟩, hb5⟩; replace S := Lib.hid (S.out.go hb5); clear hb5)
    | (refine wpList_new ItemT _ _ rfl rfl rfl rfl rfl rfl _ rfl (of_decide_eq_true (by kernel_rfl)) (by kernel_rfl) (by kernel_rfl) (by kernel_rfl) ?_))
  refine wp_gen (fun W => KnS w W t keys _) (S.out.new ItemT [97, 101] _) ?_
  clear HG S
  generalize w5.heap.size = b5 at *
  intro w6 hS
  have S := Lib.hid hS
  clear hS
  have hg : ∀ W, TnS W t keys → Calls Tryz.prog 32 #[.pointer (some ⟨t, 0, none⟩), .int .i64 (rt : Int), .string ⟨#[97, 102]⟩] W fun e w' => e = .returned (.tuple #[.agg itZ, .iface ErrT (.int .i64 21)]) ∧ Below W.heap.size W w' := fun W h => HRT.out ▸ (getN t keys 5 (by decide) W h).mono fun e w' ⟨h1, h2⟩ => ⟨h1.no HF1.out, h2⟩
  have HG := Lib.hid hg
  clear hg
  simp only [itZ] at *
  go_upto_region 7 with (first
    | (go_at_call 32; refine (HG.out _ S.out.tn).mono ?_; rintro e w5 ⟨rfl, hb5⟩; replace S := Lib.hid (S.out.go hb5); clear hb5)
    | (refine wpList_new ItemT _ _ rfl rfl rfl rfl rfl rfl _ rfl (of_decide_eq_true (by kernel_rfl)) (by kernel_rfl) (by kernel_rfl) (by kernel_rfl) ?_))
  refine wp_gen (fun W => KnS w W t keys _) (S.out.new ItemT _ _) ?_
  clear HG S
  generalize w5.heap.size = b6 at *
  intro w6 hS
  have S := Lib.hid hS
  clear hS
  have hg : ∀ W, TnS W t keys → Calls Tryz.prog 29 #[.pointer (some ⟨t, 0, none⟩), .int .i64 (rt : Int), .string ⟨#[97, 102]⟩] W fun e w' => (∃ V c, e = .returned (.tuple #[.agg #[.string ⟨#[97, 103]⟩, .int .i64 1, .string ⟨#[118]⟩, .int .i64 0, .int .i64 0, .slice V 0 c, .int .i64 0, .int .i64 0, .int .i64 0, .int .i64 0], .nilIface])) ∧ Below W.heap.size W w' := fun W h => HRT.out ▸ (aboveN t keys 5 (by decide) W h).mono fun e w' ⟨h1, h2⟩ => ⟨h1.yes HF2.out, h2⟩
  have HG := Lib.hid hg
  clear hg
  go_upto_region 8 with (first
    | (go_at_call 29; refine (HG.out _ S.out.tn).mono ?_; rintro e w5 ⟨⟨V7, cc7, rfl⟩, hb5⟩; replace S := Lib.hid (S.out.go hb5); clear hb5)
    | (refine wpList_new ItemT _ _ rfl rfl rfl rfl rfl rfl _ rfl (of_decide_eq_true (by kernel_rfl)) (by kernel_rfl) (by kernel_rfl) (by kernel_rfl) ?_))
  refine wp_gen (fun W => KnS w W t keys _) (S.out.new ItemT [97, 103] _) ?_
  clear HG S
  generalize w5.heap.size = b7 at *
  intro w6 hS
  have S := Lib.hid hS
  clear hS
  have hg : ∀ W, TnS W t keys → Calls Tryz.prog 31 #[.pointer (some ⟨t, 0, none⟩), .int .i64 (rt : Int), .string ⟨#[97, 101]⟩] W fun e w' => (∃ V c, e = .returned (.tuple #[.agg #[.string ⟨#[97, 103]⟩, .int .i64 1, .string ⟨#[118]⟩, .int .i64 0, .int .i64 0, .slice V 0 c, .int .i64 0, .int .i64 0, .int .i64 0, .int .i64 0], .nilIface])) ∧ Below W.heap.size W w' := fun W h => HRT.out ▸ (behindN t keys 4 (by decide) W h).mono fun e w' ⟨h1, h2⟩ => ⟨h1.yes HF3.out, h2⟩
  have HG := Lib.hid hg
  clear hg
  go_upto_region 9 with (first
    | (go_at_call 31; refine (HG.out _ S.out.tn).mono ?_; rintro e w5 ⟨⟨V8, cc8, rfl⟩, hb5⟩; replace S := Lib.hid (S.out.go hb5); clear hb5)
    | (refine wpList_new ItemT _ _ rfl rfl rfl rfl rfl rfl _ rfl (of_decide_eq_true (by kernel_rfl)) (by kernel_rfl) (by kernel_rfl) (by kernel_rfl) ?_))
  refine wp_gen (fun W => KnS w W t keys _) (S.out.new ItemT [97, 103] _) ?_
  clear HG S
  generalize w5.heap.size = b8 at *
  intro w6 hS
  have S := Lib.hid hS
  clear hS
  have hg : ∀ W, TnS W t keys → Calls Tryz.prog 31 #[.pointer (some ⟨t, 0, none⟩), .int .i64 (rt : Int), .string ⟨#[97, 103]⟩] W fun e w' => e = .returned (.tuple #[.agg itZ, .iface ErrT (.int .i64 21)]) ∧ Below W.heap.size W w' := fun W h => HRT.out ▸ (behindN t keys 6 (by decide) W h).mono fun e w' ⟨h1, h2⟩ => ⟨h1.no HF4.out, h2⟩
  have HG := Lib.hid hg
  clear hg
  simp only [itZ] at *
  go_upto_region 10 with (first
    | (go_at_call 31; refine (HG.out _ S.out.tn).mono ?_; rintro e w5 ⟨rfl, hb5⟩; replace S := Lib.hid (S.out.go hb5); clear hb5)
    | (refine wpList_new ItemT _ _ rfl rfl rfl rfl rfl rfl _ rfl (of_decide_eq_true (by kernel_rfl)) (by kernel_rfl) (by kernel_rfl) (by kernel_rfl) ?_))
  refine wp_gen (fun W => KnS w W t keys _) (S.out.new ItemT _ _) ?_
  clear HG S
  generalize w5.heap.size = b9 at *
  intro w6 hS
  have S := Lib.hid hS
  clear hS
  have hg : ∀ W, TnS W t keys → Calls Tryz.prog 32 #[.pointer (some ⟨t, 0, none⟩), .int .i64 0, .string ⟨#[97]⟩] W fun e w' => e = .returned (.tuple #[.agg itZ, .iface ErrT (.int .i64 21)]) ∧ Below W.heap.size W w' := fun W h => (get_any t none [97] W h.tr.none).mono fun e w' ⟨h1, h2⟩ => ⟨h1, h2⟩
  have HG := Lib.hid hg
  clear hg
  simp only [itZ] at *
  go_upto_region 11 with (first
    | (go_at_call 32; refine (HG.out _ S.out.tn).mono ?_; rintro e w5 ⟨rfl, hb5⟩; replace S := Lib.hid (S.out.go hb5); clear hb5)
    | (refine wpList_new ItemT _ _ rfl rfl rfl rfl rfl rfl _ rfl (of_decide_eq_true (by kernel_rfl)) (by kernel_rfl) (by kernel_rfl) (by kernel_rfl) ?_))
  refine wp_gen (fun W => KnS w W t keys _) (S.out.new ItemT _ _) ?_
  clear HG S
  generalize w5.heap.size = b10 at *
  intro w6 hS
  have S := Lib.hid hS
  have d5 := (hS.tx (b5, [97, 101]) (by simp)).2
  have d7 := (hS.tx (b7, [97, 103]) (by simp)).2
  have d8 := (hS.tx (b8, [97, 103]) (by simp)).2
  clear hS
  dsimp only at d5 d7 d8
  go_wp2_with (go_at_call 22; refine (errIs_same _ _).mono ?_; rintro e w7 ⟨rfl, rfl⟩)
  go_ret
  exact ⟨rfl, S.out.hb⟩
end Go.Proofs.YtmcpkhknjdiocaaGreat
namespace Go.Proofs.YtmcpkhknjdiocaaGreat
open Go.RowKit
attribute [local go_sem low] mk_extract
attribute [local go_sem] After.cell After.frozen mk_extract_end ByteArray.mk_append_mk
theorem getYes (t rt : Nat) (keys : List Nat) (n : Nat) (hn : n < 256) (hrt : rt = Sp.Rt.root (Sp.treeN keys).1) (hm : n ∈ keys) (w : World) (h : TnS w t keys) :
    Calls Tryz.prog 32 #[.pointer (some ⟨t, 0, none⟩), .int .i64 (rt : Int), .string ⟨(Sp.keyN n).toArray⟩] w fun e w' => (∃ V c, e = .returned (.tuple #[.agg #[.string ⟨(Sp.keyN n).toArray⟩, .int .i64 1, .string ⟨#[118]⟩, .int .i64 0, .int .i64 0, .slice V 0 c, .int .i64 0, .int .i64 0, .int .i64 0, .int .i64 0], .nilIface])) ∧ Below w.heap.size w w' := by
  subst hrt
  exact (getN t keys n hn w h).mono fun e w' ⟨h1, h2⟩ => ⟨h1.yes (if_pos (Sp.numsOf_mem.2 hm)), h2⟩
theorem getNot (t rt : Nat) (keys : List Nat) (n : Nat) (hn : n < 256) (hrt : rt = Sp.Rt.root (Sp.treeN keys).1) (hm : n ∉ keys) (w : World) (h : TnS w t keys) :
    Calls Tryz.prog 32 #[.pointer (some ⟨t, 0, none⟩), .int .i64 (rt : Int), .string ⟨(Sp.keyN n).toArray⟩] w fun e w' => e = .returned (.tuple #[.agg itZ, .iface ErrT (.int .i64 21)]) ∧ Below w.heap.size w w' := by
  subst hrt
  exact (getN t keys n hn w h).mono fun e w' ⟨h1, h2⟩ => ⟨h1.no (if_neg (fun h => hm (Sp.numsOf_mem.1 h))), h2⟩
abbrev BoolT : TypeId := 4
/-- Which numbers are there, in a row of 256. -/
structure ThS (W0 W : World) (b : Nat) (keys : List Nat) : Prop where
  hb : Below W0.heap.size W0 W
  bt : ∃ T cs, Blk W b T cs ∧ cs.size = 256 ∧ ∀ i, i < 256 → cs[i]? = some (.bool (decide (i ∈ keys)))
theorem ThS.go {W0 W W' : World} {b : Nat} {keys : List Nat} (h : ThS W0 W b keys) (hb : Below W.heap.size W W') : ThS W0 W' b keys := by
  obtain ⟨T, cs, h1, h2⟩ := h.bt
  exact ⟨h.hb.trans (hb.mono h.hb.size), T, cs, h1.below hb h1.lt, h2⟩
theorem ThS.cell {W0 W : World} {b : Nat} {keys : List Nat} (h : ThS W0 W b keys) {i : Nat} (hi : i < 256) : W.cell? ⟨b, i, none⟩ = some (.bool (decide (i ∈ keys))) ∧ W.frozen? ⟨b, i, none⟩ = false := by
  obtain ⟨T, cs, h1, _, h2⟩ := h.bt
  exact ⟨(h1.cell i).trans (h2 i hi), h1.frozen i⟩
theorem ThS.set {W0 W : World} {b : Nat} {keys : List Nat} (h : ThS W0 W b keys) (hb : W0.heap.size ≤ b) {k : Nat} (hk : k < 256) : ThS W0 (W.setCell ⟨b, k, none⟩ (.bool true)) b (keys ++ [k]) := by
  obtain ⟨T, cs, h1, h2, h3⟩ := h.bt
  refine ⟨h.hb.trans ((Chg.set1 W b k _).below h.hb.size fun i hi e => by have : i = b := e; omega), T, _, h1.set_ k _, by rw [Array.size_setIfInBounds]; exact h2, fun i hi => ?_⟩
  by_cases hik : k = i
  · subst hik
    rw [Array.getElem?_setIfInBounds_self_of_lt (by omega)]
    simp
  · rw [Array.getElem?_setIfInBounds_ne hik, h3 i hi]
    have : i ≠ k := fun e => hik e.symm
    simp [this]
theorem zero256 : Tryz.zeroCells69 = Array.replicate 256 (.bool false) := by kernel_rfl
theorem ThS.start (W : World) : ThS W (W.alloc (.cells Tryz.zeroCells69 69)) W.heap.size [] := by
  refine ⟨(Below.refl _ _).alloc (Nat.le_refl _) _, _, _, Blk.new _ _ _, by rw [zero256]; simp, fun i hi => ?_⟩
  rw [zero256]
  simp [hi]
/-- The walk's frame: the store over the tree, the row of bools, the keys. -/
structure FaS (w W0 W : World) (t b : Nat) (keys : List Nat) (l : List Nat) : Prop where
  kn : KnS w W0 t keys []
  th : ThS W0 W b l
  hb0 : W0.heap.size ≤ b
theorem FaS.go {w W0 W W' : World} {t b : Nat} {keys l : List Nat} (h : FaS w W0 W t b keys l) (hb : Below W.heap.size W W') : FaS w W0 W' t b keys l := ⟨h.kn, h.th.go hb, h.hb0⟩
theorem FaS.tn {w W0 W : World} {t b : Nat} {keys l : List Nat} (h : FaS w W0 W t b keys l) : TnS W t keys := h.kn.tn.go h.th.hb
theorem FaS.hb {w W0 W : World} {t b : Nat} {keys l : List Nat} (h : FaS w W0 W t b keys l) : Below w.heap.size w W := h.kn.hb.trans (h.th.hb.mono h.kn.hb.size)
set_option maxRecDepth 100000 in
set_option maxHeartbeats 1600000 in
theorem findAll_walk (keys : List Nat) (A : Option Addr) (c : Nat) (w : World) (hk : U8s w A keys) (h256 : ∀ k ∈ keys, k < 256) :
    Calls Tryz.prog 7 #[.slice A keys.length c] w fun e w' => e = .returned (.bool true) ∧ Below w.heap.size w w' := by
  have HK := Lib.hid hk
  have H256 := Lib.hid h256
  have hl := Row.len hk
  rw [List.length_map] at hl
  clear hk h256
  by_cases hn : keys.length ≤ 60
  · have HGT := Lib.hid (fun W (hb : Below w.heap.size w W) => tree_any keys A c W (Row.go HK.out hb) H256.out (by omega))
    have hn0 : ¬ (60 < (keys.length : Int)) := by omega
    have hkl : keys.length ≤ 120 := by omega
    go_enter Tryz.func7, Tryz.ntmps7
    go_upto_region 6 with (first
      | (go_at_call 26; refine (known10_any _).mono ?_; rintro e w1 ⟨rfl, hb1⟩; have HB1 := Lib.hid hb1; clear hb1)
      | (go_at_call 27; refine (HGT.out _ HB1.out).mono ?_; rintro e w2 ⟨f, P, rfl, _, hd, hta, hb⟩; generalize hnp : P.length + 2 = np; have HNP := Lib.hid hnp; clear hnp; have HD := Lib.hid hd; have HTA := Lib.hid hta; have HB := Lib.hid (HB1.out.trans (hb.mono HB1.out.size)); clear hd hta hb HB1))
    clear HGT
    have hpl := HTA.out.len
    have hsm := file_small P
    have hnw := fun (t f' m d : Nat) (last : Int) (v : Value) (W : World) (hst : St0 W t f' m d last v ([[], []] ++ P.map Sp.bytes)) h1 h2 => TnS.of hst HTA.out h1 h2
    have hl2 : ([[], []] ++ P.map Sp.bytes).length = P.length + 2 := by simp
    generalize [[], []] ++ P.map Sp.bytes = V at *
    obtain ⟨g, cap, c0, htx, hcap⟩ := HD.out.opn (by omega) (by omega)
    have HTX := Lib.hid htx
    have HSM := Lib.hid hsm
    have HNW := Lib.hid hnw
    have hV4 : V.length ≤ 400 := by omega
    clear hsm hnw htx HD HTA
    have hnp := HNP.out
    have hnp2 : (2 : Int) ≤ (np : Int) := by omega
    have hnp4 : (np : Int) ≤ 400 := by omega
    clear hnp HNP hl2
    go_upto_region 7 with (first
      | (go_at_call 12; refine (fileNew_any V g 0 cap _ HTX.out hV4 hcap HSM.out).mono ?_; rintro e w3 ⟨f', v, m, rfl, hfa, _, _, _, hb3⟩; have HFA := Lib.hid hfa; have HB3 := Lib.hid (HB.out.trans (hb3.mono HB.out.size)); clear hfa hb3)
      | (go_at_call 28; refine (storeNew_any f' m (np : Int) v V _ HFA.out hnp2 hnp4).mono ?_; rintro e w4 ⟨t, d, rfl, hst, hb4⟩; have HST := Lib.hid hst; have HB4 := Lib.hid (HB3.out.trans (hb4.mono HB3.out.size)); clear hst hb4))
    have S := Lib.hid (show KnS w w4 t keys [] from ⟨HNW.out t f' m d (np : Int) v w4 HST.out H256.out (by omega), fun p hp => by (cases hp), HB4.out⟩)
    clear HNW HST HB4 HFA HB3 HTX HSM HB c0
    obtain ⟨rt, hrt⟩ : ∃ rt : Nat, rt = Sp.Rt.root (Sp.treeN keys).1 := ⟨_, rfl⟩
    rw [← hrt]
    have HRT := Lib.hid hrt
    clear hrt
    go_upto_region 8 with fail
    refine wp_gen (fun W => FaS w w4 W t w4.heap.size keys []) ⟨S.out, ThS.start w4, Nat.le_refl _⟩ ?_
    clear S
    generalize w4.heap.size = b at *
    intro w5 hS
    have S := Lib.hid hS
    clear hS
    go_upto_region 9 with fail
    go_loopw [8] (fun iv wr => ∃ j : Nat, j ≤ keys.length ∧ iv = .int .i64 (j : Int) ∧ Hid (FaS w w4 wr t b keys (keys.take j))) (fun iv _ => keys.length - (intOf iv).toNat)
    case atStart => exact ⟨0, Nat.zero_le _, rfl, S⟩
    case round =>
      obtain ⟨j, hj, rfl, S⟩ := hrel
      by_cases hlt : j < keys.length
      · obtain ⟨kb, ko, rfl, hkc⟩ := HK.out.cell S.out.hb hlt
        have hk2 := H256.out _ (show keys.getD j 0 ∈ keys by simp [List.getD, hlt])
        have HNX := Lib.hid (show ∀ W, FaS w w4 W t b keys (keys.take j ++ [keys.getD j 0]) → FaS w w4 W t b keys (keys.take (j + 1)) from fun W h => by rw [Sp.take_snoc (d := 0) hlt]; exact h)
        generalize keys.getD j 0 = k at *
        obtain ⟨_, hfr⟩ := S.out.th.cell hk2
        obtain ⟨hcl, _⟩ := S.out.th.cell hk2
        go_wp2_with fail
        refine ⟨⟨j + 1, by omega, by go_num, Lib.hid (HNX.out _ ⟨S.out.kn, S.out.th.set S.out.hb0 hk2, S.out.hb0⟩)⟩, by simp [intOf]; omega⟩
      · obtain rfl : j = keys.length := by omega
        have S := Lib.hid (show FaS w w4 wr t b keys keys by have := S.out; rwa [List.take_length] at this)
        clear hlt hj
        go_upto_region 13 with fail
        go_loopw [9] (fun iv wr => ∃ i : Nat, i ≤ 256 ∧ iv = .int .i64 (i : Int) ∧ Hid (FaS w w4 wr t b keys keys)) (fun iv _ => 256 - (intOf iv).toNat)
        case atStart => exact ⟨0, by omega, rfl, S⟩
        case round =>
          obtain ⟨i, hi, rfl, S⟩ := hrel
          by_cases hi2 : i < 256
          · have CK := Lib.hid (fun (W : World) => key_any i hi2 W)
            by_cases hm : i ∈ keys
            · have HG := Lib.hid (getYes t rt keys i hi2 HRT.out hm)
              have HM := Lib.hid (show decide (i ∈ keys) = true from decide_eq_true hm)
              clear hm
              go_upto_region 16 with (first
                | (go_at_call 30; refine (CK.out _).mono ?_; rintro e w6 ⟨rfl, hb6⟩; replace S := Lib.hid (S.out.go hb6); clear hb6)
                | (go_at_call 32; refine (HG.out _ S.out.tn).mono ?_; rintro e w6 ⟨⟨V', cc, rfl⟩, hb6⟩; replace S := Lib.hid (S.out.go hb6); clear hb6)
                | (refine wpList_new ItemT _ _ rfl rfl rfl rfl rfl rfl _ rfl (of_decide_eq_true (by kernel_rfl)) (by kernel_rfl) (by kernel_rfl) (by kernel_rfl) ?_))
              refine wp_gen (fun W => FaS w w4 W t b keys keys ∧ Blk W w6.heap.size ItemT #[.string ⟨(Sp.keyN i).toArray⟩, .int .i64 1, .string ⟨#[118]⟩, .int .i64 0, .int .i64 0, .slice V' 0 cc, .int .i64 0, .int .i64 0, .int .i64 0, .int .i64 0]) ⟨S.out.go ((Below.refl _ _).alloc (Nat.le_refl _) _), Blk.new _ _ _⟩ ?_
              clear S HG
              generalize w6.heap.size = bx at *
              rintro w7 ⟨hS, hx⟩
              have S := Lib.hid hS
              have x0 := hx.cell 0
              have x2 := hx.cell 2
              have hxl := hx.lt
              have hbl : b < w7.heap.size := by obtain ⟨T, cs, h, _⟩ := hS.th.bt; exact h.lt
              have hcl := (hS.th.cell hi2).1
              rw [HM.out] at hcl
              clear hS hx
              simp at x0 x2
              refine wp_region_row (by kernel_rfl) (by kernel_rfl) ?_
              repeat (first | go_big_quiet_skip | (go_big_quiet_step (first | (go_at_call 30; exact after_call (Nat.le_refl _) (CK.out _)))))
              refine wpQuiet_nil ?_
              intro w8 hb8
              go_wp2_with fail
              refine ⟨⟨i + 1, by omega, by go_num, Lib.hid (S.out.go hb8)⟩, by simp [intOf]; omega⟩
            · have HG := Lib.hid (getNot t rt keys i hi2 HRT.out hm)
              have HM := Lib.hid (show decide (i ∈ keys) = false from decide_eq_false hm)
              clear hm
              simp only [itZ] at *
              go_upto_region 16 with (first
                | (go_at_call 30; refine (CK.out _).mono ?_; rintro e w6 ⟨rfl, hb6⟩; replace S := Lib.hid (S.out.go hb6); clear hb6)
                | (go_at_call 32; refine (HG.out _ S.out.tn).mono ?_; rintro e w6 ⟨rfl, hb6⟩; replace S := Lib.hid (S.out.go hb6); clear hb6)
                | (refine wpList_new ItemT _ _ rfl rfl rfl rfl rfl rfl _ rfl (of_decide_eq_true (by kernel_rfl)) (by kernel_rfl) (by kernel_rfl) (by kernel_rfl) ?_))
              refine wp_gen (fun W => FaS w w4 W t b keys keys) (S.out.go ((Below.refl _ _).alloc (Nat.le_refl _) _)) ?_
              clear S HG
              generalize w6.heap.size = bx at *
              intro w7 hS
              have S := Lib.hid hS
              have hbl : b < w7.heap.size := by obtain ⟨T, cs, h, _⟩ := hS.th.bt; exact h.lt
              have hcl := (hS.th.cell hi2).1
              rw [HM.out] at hcl
              clear hS
              refine wp_region_row (by kernel_rfl) (by kernel_rfl) ?_
              repeat (first | go_big_quiet_skip | (go_big_quiet_step (fail)))
              refine wpQuiet_nil ?_
              intro w8 hb8
              go_wp2_with fail
              refine ⟨⟨i + 1, by omega, by go_num, Lib.hid (S.out.go hb8)⟩, by simp [intOf]; omega⟩
          · obtain rfl : i = 256 := by omega
            go_wp2_with fail
            go_ret
            exact ⟨rfl, S.out.hb⟩
  · have hn1 : 60 < (keys.length : Int) := by omega
    go_enter Tryz.func7, Tryz.ntmps7
    go_wp2_with (go_at_call 26; refine (known10_any _).mono ?_; rintro e w1 ⟨rfl, hb1⟩)
    go_ret
    exact ⟨rfl, hb1⟩
end Go.Proofs.YtmcpkhknjdiocaaGreat
namespace Go.Proofs.YtmcpkhknjdiocaaGreat
open Go.RowKit
attribute [local go_sem low] mk_extract
attribute [local go_sem] After.cell After.frozen mk_extract_end ByteArray.mk_append_mk
/-- An item's cells and the error beside it: a number, or none. -/
def XN (cs : Array Value) (ev : Value) (y : Option Nat) : Prop := match y with
  | none => cs = itZ ∧ ev = .iface ErrT (.int .i64 21)
  | some n => ev = .nilIface ∧ ∃ V c, cs = #[.string ⟨(Sp.keyN n).toArray⟩, .int .i64 1, .string ⟨#[118]⟩, .int .i64 0, .int .i64 0, .slice V 0 c, .int .i64 0, .int .i64 0, .int .i64 0, .int .i64 0]
theorem FindN.form {e : Ending} {y : Option Nat} (h : FindN e y) : ∃ a0 a1 a2 a3 a4 a5 a6 a7 a8 a9 ev, e = .returned (.tuple #[.agg #[a0, a1, a2, a3, a4, a5, a6, a7, a8, a9], ev]) ∧ #[a0, a1, a2, a3, a4, a5, a6, a7, a8, a9].all (·.oneCell') = true ∧ XN #[a0, a1, a2, a3, a4, a5, a6, a7, a8, a9] ev y := by
  cases y with
  | none => exact ⟨_, _, _, _, _, _, _, _, _, _, _, h, by kernel_rfl, rfl, rfl⟩
  | some n =>
    obtain ⟨V, c, h⟩ := h
    exact ⟨_, _, _, _, _, _, _, _, _, _, _, h, itemV_all0 (Sp.itN n) V c, rfl, V, c, rfl⟩
theorem aboveAll (t rt : Nat) (keys : List Nat) (hrt : rt = Sp.Rt.root (Sp.treeN keys).1) (w : World) (h : TnS w t keys) :
    Calls Tryz.prog 29 #[.pointer (some ⟨t, 0, none⟩), .int .i64 (rt : Int), .string ⟨#[]⟩] w fun e w' => FindN e (Sp.fromN (Sp.numsOf keys) 0) ∧ Below w.heap.size w w' := by
  subst hrt
  refine (above_any t _ [] w h.tr).mono ?_
  rintro e w' ⟨h1, hb⟩
  rw [h.it, Sp.find_all, Sp.head_from] at h1
  exact ⟨h1.num, hb⟩
theorem behindR (t rt : Nat) (keys : List Nat) (n : Nat) (hn : n < 256) (hrt : rt = Sp.Rt.root (Sp.treeN keys).1) (w : World) (h : TnS w t keys) :
    Calls Tryz.prog 31 #[.pointer (some ⟨t, 0, none⟩), .int .i64 (rt : Int), .string ⟨(Sp.keyN n).toArray⟩] w fun e w' => FindN e (Sp.fromN (Sp.numsOf keys) (n + 1)) ∧ Below w.heap.size w w' := by
  subst hrt
  exact behindN t keys n hn w h
/-- The walk's frame, with the item that is ahead. -/
structure FwS (w W0 W : World) (t b bx : Nat) (keys : List Nat) (ev : Value) (y : Option Nat) : Prop where
  fa : FaS w W0 W t b keys keys
  bk : ∃ cs, Blk W bx ItemT cs ∧ XN cs ev y
  hx : W0.heap.size ≤ bx
  ne : bx ≠ b
theorem FwS.go {w W0 W W' : World} {t b bx : Nat} {keys : List Nat} {ev : Value} {y : Option Nat} (h : FwS w W0 W t b bx keys ev y) (hb : Below W.heap.size W W') : FwS w W0 W' t b bx keys ev y := by
  obtain ⟨cs, h1, h2⟩ := h.bk
  exact ⟨h.fa.go hb, ⟨cs, h1.below hb h1.lt, h2⟩, h.hx, h.ne⟩
theorem ThS.off {W0 W W' : World} {b g : Nat} {keys : List Nat} (h : ThS W0 W b keys) (hk : Chg (OneM g) W W') (hne : g ≠ b) (hg : W0.heap.size ≤ g) : ThS W0 W' b keys := by
  obtain ⟨T, cs, h1, h2⟩ := h.bt
  exact ⟨h.hb.trans (hk.below h.hb.size fun k hk e => by have : k = g := e; omega), T, cs, h1.chg hk (fun e => hne e.symm), h2⟩
theorem FwS.set {w W0 W : World} {t b bx : Nat} {keys : List Nat} {ev ev' : Value} {y y' : Option Nat} {cs : Array Value} (h : FwS w W0 W t b bx keys ev y) (hx : XN cs ev' y') : FwS w W0 (W.setRow bx cs) t b bx keys ev' y' := by
  obtain ⟨cs0, h1, _⟩ := h.bk
  exact ⟨⟨h.fa.kn, h.fa.th.off (chg_setRow0 W bx cs) h.ne h.hx, h.fa.hb0⟩, ⟨cs, h1.row, hx⟩, h.hx, h.ne⟩
set_option maxRecDepth 100000 in
set_option maxHeartbeats 1600000 in
theorem findWalks_walk (keys : List Nat) (A : Option Addr) (c : Nat) (w : World) (hk : U8s w A keys) (h256 : ∀ k ∈ keys, k < 256) :
    Calls Tryz.prog 5 #[.slice A keys.length c] w fun e w' => e = .returned (.bool true) ∧ Below w.heap.size w w' := by
  have HK := Lib.hid hk
  have H256 := Lib.hid h256
  have hl := Row.len hk
  rw [List.length_map] at hl
  clear hk h256
  by_cases hn : keys.length ≤ 100
  · have HGT := Lib.hid (fun W (hb : Below w.heap.size w W) => tree_any keys A c W (Row.go HK.out hb) H256.out (by omega))
    have hn0 : ¬ (100 < (keys.length : Int)) := by omega
    have hkl : keys.length ≤ 120 := by omega
    go_enter Tryz.func5, Tryz.ntmps5
    go_upto_region 6 with (first
      | (go_at_call 26; refine (known10_any _).mono ?_; rintro e w1 ⟨rfl, hb1⟩; have HB1 := Lib.hid hb1; clear hb1)
      | (go_at_call 27; refine (HGT.out _ HB1.out).mono ?_; rintro e w2 ⟨f, P, rfl, _, hd, hta, hb⟩; generalize hnp : P.length + 2 = np; have HNP := Lib.hid hnp; clear hnp; have HD := Lib.hid hd; have HTA := Lib.hid hta; have HB := Lib.hid (HB1.out.trans (hb.mono HB1.out.size)); clear hd hta hb HB1))
    clear HGT
    have hpl := HTA.out.len
    have hsm := file_small P
    have hnw := fun (t f' m d : Nat) (last : Int) (v : Value) (W : World) (hst : St0 W t f' m d last v ([[], []] ++ P.map Sp.bytes)) h1 h2 => TnS.of hst HTA.out h1 h2
    have hl2 : ([[], []] ++ P.map Sp.bytes).length = P.length + 2 := by simp
    generalize [[], []] ++ P.map Sp.bytes = V at *
    obtain ⟨g, cap, c0, htx, hcap⟩ := HD.out.opn (by omega) (by omega)
    have HTX := Lib.hid htx
    have HSM := Lib.hid hsm
    have HNW := Lib.hid hnw
    have hV4 : V.length ≤ 400 := by omega
    clear hsm hnw htx HD HTA
    have hnp := HNP.out
    have hnp2 : (2 : Int) ≤ (np : Int) := by omega
    have hnp4 : (np : Int) ≤ 400 := by omega
    clear hnp HNP hl2
    go_upto_region 7 with (first
      | (go_at_call 12; refine (fileNew_any V g 0 cap _ HTX.out hV4 hcap HSM.out).mono ?_; rintro e w3 ⟨f', v, m, rfl, hfa, _, _, _, hb3⟩; have HFA := Lib.hid hfa; have HB3 := Lib.hid (HB.out.trans (hb3.mono HB.out.size)); clear hfa hb3)
      | (go_at_call 28; refine (storeNew_any f' m (np : Int) v V _ HFA.out hnp2 hnp4).mono ?_; rintro e w4 ⟨t, d, rfl, hst, hb4⟩; have HST := Lib.hid hst; have HB4 := Lib.hid (HB3.out.trans (hb4.mono HB3.out.size)); clear hst hb4))
    have S := Lib.hid (show KnS w w4 t keys [] from ⟨HNW.out t f' m d (np : Int) v w4 HST.out H256.out (by omega), fun p hp => by (cases hp), HB4.out⟩)
    clear HNW HST HB4 HFA HB3 HTX HSM HB c0
    obtain ⟨rt, hrt⟩ : ∃ rt : Nat, rt = Sp.Rt.root (Sp.treeN keys).1 := ⟨_, rfl⟩
    rw [← hrt]
    have HRT := Lib.hid hrt
    clear hrt
    go_upto_region 8 with fail
    refine wp_gen (fun W => FaS w w4 W t w4.heap.size keys []) ⟨S.out, ThS.start w4, Nat.le_refl _⟩ ?_
    clear S
    generalize w4.heap.size = b at *
    intro w5 hS
    have S := Lib.hid hS
    clear hS
    go_upto_region 9 with fail
    go_loopw [8] (fun iv wr => ∃ j : Nat, j ≤ keys.length ∧ iv = .int .i64 (j : Int) ∧ Hid (FaS w w4 wr t b keys (keys.take j))) (fun iv _ => keys.length - (intOf iv).toNat)
    case atStart => exact ⟨0, Nat.zero_le _, rfl, S⟩
    case round =>
      obtain ⟨j, hj, rfl, S⟩ := hrel
      by_cases hlt : j < keys.length
      · obtain ⟨kb, ko, rfl, hkc⟩ := HK.out.cell S.out.hb hlt
        have hk2 := H256.out _ (show keys.getD j 0 ∈ keys by simp [List.getD, hlt])
        have HNX := Lib.hid (show ∀ W, FaS w w4 W t b keys (keys.take j ++ [keys.getD j 0]) → FaS w w4 W t b keys (keys.take (j + 1)) from fun W h => by rw [Sp.take_snoc (d := 0) hlt]; exact h)
        generalize keys.getD j 0 = k at *
        obtain ⟨_, hfr⟩ := S.out.th.cell hk2
        obtain ⟨hcl, _⟩ := S.out.th.cell hk2
        go_wp2_with fail
        refine ⟨⟨j + 1, by omega, by go_num, Lib.hid (HNX.out _ ⟨S.out.kn, S.out.th.set S.out.hb0 hk2, S.out.hb0⟩)⟩, by simp [intOf]; omega⟩
      · obtain rfl : j = keys.length := by omega
        have S := Lib.hid (show FaS w w4 wr t b keys keys by have := S.out; rwa [List.take_length] at this)
        clear hlt hj
        go_upto_region 13 with (first
          | (go_at_call 29; refine (aboveAll t rt keys HRT.out _ S.out.tn).mono ?_; rintro e w6 ⟨hfi, hb6⟩; obtain ⟨a0, a1, a2, a3, a4, a5, a6, a7, a8, a9, ev, rfl, hall, hxn⟩ := hfi.form; replace S := Lib.hid (S.out.go hb6); have HXN := Lib.hid hxn; have HAL := Lib.hid hall; clear hfi hb6 hxn hall)
          | (refine wpList_new ItemT _ _ rfl rfl rfl rfl rfl rfl _ rfl (of_decide_eq_true (by kernel_rfl)) (by kernel_rfl) (by kernel_rfl) HAL.out ?_))
        have hal : Below w6.heap.size w6 (w6.alloc (.cells #[a0, a1, a2, a3, a4, a5, a6, a7, a8, a9] ItemT)) := (Below.refl _ _).alloc (Nat.le_refl _) _
        have hbl : b < w6.heap.size := by obtain ⟨T, cs, h, _⟩ := S.out.th.bt; exact h.lt
        refine wp_gen (fun W => FwS w w4 W t b w6.heap.size keys ev (Sp.fromN (Sp.numsOf keys) 0)) ⟨S.out.go hal, ⟨_, Blk.new _ _ _, HXN.out⟩, S.out.th.hb.size, by omega⟩ ?_
        clear S HXN HAL hal hbl
        generalize w6.heap.size = bx at *
        intro w7 hS
        have S := Lib.hid hS
        clear hS
        go_upto_region 14 with fail
        go_loopw [10, 11] (fun e2 iv wr => ∃ i : Nat, i ≤ 256 ∧ iv = .int .i64 (i : Int) ∧ Hid (FwS w w4 wr t b bx keys e2 (Sp.fromN (Sp.numsOf keys) i))) (fun _ iv _ => 256 - (intOf iv).toNat)
        case atStart => exact ⟨0, by omega, rfl, S⟩
        case round =>
          obtain ⟨i, hi, rfl, S⟩ := hrel
          by_cases hi2 : i < 256
          · have hcl := (S.out.fa.th.cell hi2).1
            by_cases hm : i ∈ keys
            · rw [show decide (i ∈ keys) = true from decide_eq_true hm] at hcl
              have CK := Lib.hid (fun (W : World) => key_any i hi2 W)
              have HG := Lib.hid (behindR t rt keys i hi2 HRT.out)
              have hS := S.out
              rw [Sp.from_in (Sp.numsOf_sorted keys) (Sp.numsOf_mem.2 hm)] at hS
              have S := Lib.hid hS
              obtain ⟨cs, hbk, rfl, V', cc, rfl⟩ := hS.bk
              have x0 := hbk.cell 0
              have hxl := hbk.lt
              have hbl : b < wr.heap.size := by obtain ⟨T, cs, h, _⟩ := hS.fa.th.bt; exact h.lt
              simp at x0
              have BK0 := Lib.hid hbk
              clear hS hm hbk
              go_upto_region 17 with fail
              refine wp_region_row (by kernel_rfl) (by kernel_rfl) ?_
              repeat (first | go_big_quiet_skip | (go_big_quiet_step (first | (go_at_call 30; exact after_call (Nat.le_refl _) (CK.out _)))))
              refine wpQuiet_nil ?_
              intro w8 hb8
              have S8 := Lib.hid (S.out.go hb8)
              have BK := Lib.hid (BK0.out.below hb8 BK0.out.lt)
              have x8 : w8.cell? ⟨bx, 0, none⟩ = some (.string ⟨(Sp.keyN i).toArray⟩) := BK.out.cell 0
              clear S BK0 hb8 x0 hcl hbl
              go_wp2_with (first
                | (go_at_call 31; refine (HG.out _ S8.out.fa.tn).mono ?_; rintro e w9 ⟨hfi, hb9⟩; obtain ⟨d0, d1, d2, d3, d4, d5, d6, d7, d8, d9, ev2, rfl, hall2, hxn2⟩ := hfi.form; have S9 := Lib.hid (S8.out.go hb9); have BK9 := Lib.hid (BK.out.below hb9 BK.out.lt); have HXN := Lib.hid hxn2; have HAL := Lib.hid hall2; clear hfi hb9 hxn2 hall2)
                | (refine wpList_store_row rfl ItemT _ _ rfl bx _ rfl rfl ItemT _ BK9.out (by kernel_rfl) rfl HAL.out ?_))
              refine ⟨⟨i + 1, by omega, by go_num, Lib.hid (S9.out.set HXN.out)⟩, by simp [intOf]; omega⟩
            · rw [show decide (i ∈ keys) = false from decide_eq_false hm] at hcl
              have HFO := Lib.hid (show Sp.fromN (Sp.numsOf keys) i = Sp.fromN (Sp.numsOf keys) (i + 1) from Sp.from_out (fun h => hm (Sp.numsOf_mem.1 h)))
              clear hm
              go_wp2_with fail
              refine ⟨⟨i + 1, by omega, by go_num, by rw [← HFO.out]; exact S⟩, by simp [intOf]; omega⟩
          · obtain rfl : i = 256 := by omega
            have hS := S.out
            rw [Sp.from_top (Sp.numsOf_lt H256.out)] at hS
            obtain ⟨cs, _, _, rfl⟩ := hS.bk
            have HB := Lib.hid hS.fa.hb
            clear hS
            go_wp2_with (go_at_call 22; refine (errIs_same _ _).mono ?_; rintro e w7 ⟨rfl, rfl⟩)
            go_ret
            exact ⟨rfl, HB.out⟩
  · have hn1 : 100 < (keys.length : Int) := by omega
    go_enter Tryz.func5, Tryz.ntmps5
    go_wp2_with (go_at_call 26; refine (known10_any _).mono ?_; rintro e w1 ⟨rfl, hb1⟩)
    go_ret
    exact ⟨rfl, hb1⟩
end Go.Proofs.YtmcpkhknjdiocaaGreat
