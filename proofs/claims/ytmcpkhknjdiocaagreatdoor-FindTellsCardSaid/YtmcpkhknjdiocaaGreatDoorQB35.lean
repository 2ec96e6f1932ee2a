/- law10's known tree. FindTells: both find the same: an item, its number; the document's store over the same file. FindTells: of every tree and key: the walk. -/
import Derived.Test.YtmcpkhknjdiocaaGreatDoorQB20
import Derived.Test.YtmcpkhknjdiocaaGreatDoorQB21
import Derived.Test.YtmcpkhknjdiocaaGreatDoorQB34
set_option linter.unusedSimpArgs false
set_option linter.unusedVariables false
namespace Go.Proofs.YtmcpkhknjdiocaaGreatDoor
open Go.RowKit
attribute [local go_sem low] mk_extract
attribute [local go_sem] After.cell After.frozen mk_extract_end ByteArray.mk_append_mk
theorem TrS.none {w : World} {t : Nat} {o : Option Sp.Rt} (h : TrS w t o) : TrS w t none := by
  obtain ⟨f, m, d, last, v, V, h1, h2, _⟩ := h.ex
  exact ⟨f, m, d, last, v, V, h1, h2, fun r h => by cases h⟩
theorem FindN.yes {e : Ending} {y : Option Nat} {n : Nat} (h : FindN e y) (hy : y = some n) : ∃ V c, e = .returned (.tuple #[.agg #[.string ⟨(Sp.keyN n).toArray⟩, .int .i64 1, .string ⟨#[118]⟩, .int .i64 0, .int .i64 0, .slice V 0 c, .int .i64 0, .int .i64 0, .int .i64 0, .int .i64 0], .nilIface]) := by
  subst hy
  exact h
theorem FindN.no {e : Ending} {y : Option Nat} (h : FindN e y) (hy : y = none) : e = .returned (.tuple #[.agg itZ, .iface ErrT (.int .i64 21)]) := by
  subst hy
  exact h
set_option maxRecDepth 100000 in
set_option maxHeartbeats 1600000 in
theorem known10_any (w : World) : Calls Tryz.prog 29 #[] w fun e w' => e = .returned (.bool true) ∧ Below w.heap.size w w' := by
  have hal : Below w.heap.size w (w.alloc (.cells #[.int .u8 2, .int .u8 4, .int .u8 6] 5)) := (Below.refl _ _).alloc (Nat.le_refl _) _
  have htr : Calls Tryz.prog 30 #[.slice (some ⟨w.heap.size, 0, none⟩) 3 3] (w.alloc (.cells #[.int .u8 2, .int .u8 4, .int .u8 6] 5)) _ := tree_any [2, 4, 6] (some ⟨w.heap.size, 0, none⟩) 3 _ ⟨by simp, .inr ⟨w.heap.size, 0, rfl, (Blk.new w _ _).lt, id, fun j u hu => by
    rw [Nat.zero_add, (Blk.new w 5 _).cell]
    simpa [u8v] using hu⟩⟩ (by decide) (by decide)
  have hf0 : (if 4 ∈ Sp.numsOf [2, 4, 6] then some 4 else none) = some 4 := by decide +kernel
  have hf1 : (if 5 ∈ Sp.numsOf [2, 4, 6] then some 5 else none) = none := by decide +kernel
  have hf2 : Sp.fromN (Sp.numsOf [2, 4, 6]) 5 = some 6 := by decide +kernel
  have hf3 : Sp.fromN (Sp.numsOf [2, 4, 6]) (4 + 1) = some 6 := by decide +kernel
  have hf4 : Sp.fromN (Sp.numsOf [2, 4, 6]) (6 + 1) = none := by decide +kernel
  have hk6 : ∀ k ∈ [2, 4, 6], k < 256 := by decide
  have hkl : [2, 4, 6].length ≤ 120 := by decide
  generalize [2, 4, 6] = keys at htr hk6 hkl hf0 hf1 hf2 hf3 hf4
  have HTR := Lib.hid htr
  have HK6 := Lib.hid hk6
  have HAL := Lib.hid hal
  have HF0 := Lib.hid hf0
  have HF1 := Lib.hid hf1
  have HF2 := Lib.hid hf2
  have HF3 := Lib.hid hf3
  have HF4 := Lib.hid hf4
  clear htr hk6 hal hf0 hf1 hf2 hf3 hf4
  go_enter Tryz.func29, Tryz.ntmps29
  go_upto_region 2 with (go_at_call 30; refine HTR.out.mono ?_; rintro e w2 ⟨f, P, rfl, _, hd, hta, hb⟩; generalize hnp : P.length + 2 = np; have HNP := Lib.hid hnp; clear hnp; have HD := Lib.hid hd; have HTA := Lib.hid hta; have HB := Lib.hid (HAL.out.trans (hb.mono HAL.out.size)); clear hd hta hb HTR HAL)
  have hpl := HTA.out.len
  have hsm := file_small P
  have hnw := fun (t f' m d : Nat) (last : Int) (v : Value) (W : World) (hst : St0 W t f' m d last v ([[], []] ++ P.map Sp.bytes)) h1 h2 => TnS.of hst HTA.out h1 h2
  have hl2 : ([[], []] ++ P.map Sp.bytes).length = P.length + 2 := by simp
  generalize [[], []] ++ P.map Sp.bytes = V at *
  obtain ⟨g, cap, c0, htx, hcap⟩ := HD.out.opn (by omega) (by omega)
  have HTX := Lib.hid htx
  have HSM := Lib.hid hsm
  have HNW := Lib.hid hnw
  have hV4 : V.length ≤ 400 := by omega
  clear hsm hnw htx HD HTA
  have hnp := HNP.out
  have hnp2 : (2 : Int) ≤ (np : Int) := by omega
  have hnp4 : (np : Int) ≤ 400 := by omega
  clear hnp HNP hl2
  go_upto_region 3 with (first
    | (go_at_call 7; refine (fileNew_any V g 0 cap _ HTX.out hV4 hcap HSM.out).mono ?_; rintro e w3 ⟨f', v, m, rfl, hfa, _, _, _, hb3⟩; have HFA := Lib.hid hfa; have HB3 := Lib.hid (HB.out.trans (hb3.mono HB.out.size)); clear hfa hb3)
    | (go_at_call 31; refine (storeNew_any f' m (np : Int) v V _ HFA.out hnp2 hnp4).mono ?_; rintro e w4 ⟨t, d, rfl, hst, hb4⟩; have HST := Lib.hid hst; have HB4 := Lib.hid (HB3.out.trans (hb4.mono HB3.out.size)); clear hst hb4))
  have S := Lib.hid (show KnS w w4 t keys [] from ⟨HNW.out t f' m d (np : Int) v w4 HST.out HK6.out (by omega), fun p hp => by (cases hp), HB4.out⟩)
  clear HNW HST HB4 HFA HB3 HTX HSM HB c0
  obtain ⟨rt, hrt⟩ : ∃ rt : Nat, rt = Sp.Rt.root (Sp.treeN keys).1 := ⟨_, rfl⟩
  rw [← hrt]
  have HRT := Lib.hid hrt
  clear hrt
  have hg : ∀ W, TnS W t keys → Calls Tryz.prog 33 #[.pointer (some ⟨t, 0, none⟩), .int .i64 (rt : Int), .string ⟨#[97, 101]⟩] W fun e w' => (∃ V c, e = .returned (.tuple #[.agg #[.string ⟨#[97, 101]⟩, .int .i64 1, .string ⟨#[118]⟩, .int .i64 0, .int .i64 0, .slice V 0 c, .int .i64 0, .int .i64 0, .int .i64 0, .int .i64 0], .nilIface])) ∧ Below W.heap.size W w' := fun W h => HRT.out ▸ (getN t keys 4 (by decide) W h).mono fun e w' ⟨h1, h2⟩ => ⟨h1.yes HF0.out, h2⟩
  have HG := Lib.hid hg
  clear hg
  go_upto_region 6 with (first
    | (go_at_call 33; refine (HG.out _ S.out.tn).mono ?_; rintro e w5 ⟨⟨V5, cc5, rfl⟩, hb5⟩; replace S := Lib.hid (S.out.go hb5); clear hb5)
    | (refine wpList_new ItemT _ _ rfl rfl rfl rfl rfl rfl _ rfl (of_decide_eq_true (by kernel_rfl)) (by kernel_rfl) (by kernel_rfl) (by kernel_rfl) ?_))
  refine wp_gen (fun W => KnS w W t keys _) (S.out.new ItemT [97, 101] _) ?_
  clear HG S
  generalize w5.heap.size = b5 at *
  intro w6 hS
  have S := Lib.hid hS
  clear hS
  have hg : ∀ W, TnS W t keys → Calls Tryz.prog 33 #[.pointer (some ⟨t, 0, none⟩), .int .i64 (rt : Int), .string ⟨#[97, 102]⟩] W fun e w' => e = .returned (.tuple #[.agg itZ, .iface ErrT (.int .i64 21)]) ∧ Below W.heap.size W w' := fun W h => HRT.out ▸ (getN t keys 5 (by decide) W h).mono fun e w' ⟨h1, h2⟩ => ⟨h1.no HF1.out, h2⟩
  have HG := Lib.hid hg
  clear hg
  simp only [itZ] at *
  go_upto_region 7 with (first
    | (go_at_call 33; refine (HG.out _ S.out.tn).mono ?_; rintro e w5 ⟨rfl, hb5⟩; replace S := Lib.hid (S.out.go hb5); clear hb5)
    | (refine wpList_new ItemT _ _ rfl rfl rfl rfl rfl rfl _ rfl (of_decide_eq_true (by kernel_rfl)) (by kernel_rfl) (by kernel_rfl) (by kernel_rfl) ?_))
  refine wp_gen (fun W => KnS w W t keys _) (S.out.new ItemT _ _) ?_
  clear HG S
  generalize w5.heap.size = b6 at *
  intro w6 hS
  have S := Lib.hid hS
  clear hS
  have hg : ∀ W, TnS W t keys → Calls Tryz.prog 35 #[.pointer (some ⟨t, 0, none⟩), .int .i64 (rt : Int), .string ⟨#[97, 102]⟩] W fun e w' => (∃ V c, e = .returned (.tuple #[.agg #[.string ⟨#[97, 103]⟩, .int .i64 1, .string ⟨#[118]⟩, .int .i64 0, .int .i64 0, .slice V 0 c, .int .i64 0, .int .i64 0, .int .i64 0, .int .i64 0], .nilIface])) ∧ Below W.heap.size W w' := fun W h => HRT.out ▸ (aboveN t keys 5 (by decide) W h).mono fun e w' ⟨h1, h2⟩ => ⟨h1.yes HF2.out, h2⟩
  have HG := Lib.hid hg
  clear hg
  go_upto_region 8 with (first
    | (go_at_call 35; refine (HG.out _ S.out.tn).mono ?_; rintro e w5 ⟨⟨V7, cc7, rfl⟩, hb5⟩; replace S := Lib.hid (S.out.go hb5); clear hb5)
    | (refine wpList_new ItemT _ _ rfl rfl rfl rfl rfl rfl _ rfl (of_decide_eq_true (by kernel_rfl)) (by kernel_rfl) (by kernel_rfl) (by kernel_rfl) ?_))
  refine wp_gen (fun W => KnS w W t keys _) (S.out.new ItemT [97, 103] _) ?_
  clear HG S
  generalize w5.heap.size = b7 at *
  intro w6 hS
  have S := Lib.hid hS
  clear hS
  have hg : ∀ W, TnS W t keys → Calls Tryz.prog 37 #[.pointer (some ⟨t, 0, none⟩), .int .i64 (rt : Int), .string ⟨#[97, 101]⟩] W fun e w' => (∃ V c, e = .returned (.tuple #[.agg #[.string ⟨#[97, 103]⟩, .int .i64 1, .string ⟨#[118]⟩, .int .i64 0, .int .i64 0, .slice V 0 c, .int .i64 0, .int .i64 0, .int .i64 0, .int .i64 0], .nilIface])) ∧ Below W.heap.size W w' := fun W h => HRT.out ▸ (behindN t keys 4 (by decide) W h).mono fun e w' ⟨h1, h2⟩ => ⟨h1.yes HF3.out, h2⟩
  have HG := Lib.hid hg
  clear hg
  go_upto_region 9 with (first
    | (go_at_call 37; refine (HG.out _ S.out.tn).mono ?_; rintro e w5 ⟨⟨V8, cc8, rfl⟩, hb5⟩; replace S := Lib.hid (S.out.go hb5); clear hb5)
    | (refine wpList_new ItemT _ _ rfl rfl rfl rfl rfl rfl _ rfl (of_decide_eq_true (by kernel_rfl)) (by kernel_rfl) (by kernel_rfl) (by kernel_rfl) ?_))
  refine wp_gen (fun W => KnS w W t keys _) (S.out.new ItemT [97, 103] _) ?_
  clear HG S
  generalize w5.heap.size = b8 at *
  intro w6 hS
  have S := Lib.hid hS
  clear hS
  have hg : ∀ W, TnS W t keys → Calls Tryz.prog 37 #[.pointer (some ⟨t, 0, none⟩), .int .i64 (rt : Int), .string ⟨#[97, 103]⟩] W fun e w' => e = .returned (.tuple #[.agg itZ, .iface ErrT (.int .i64 21)]) ∧ Below W.heap.size W w' := fun W h => HRT.out ▸ (behindN t keys 6 (by decide) W h).mono fun e w' ⟨h1, h2⟩ => ⟨h1.no HF4.out, h2⟩
  have HG := Lib.hid hg
  clear hg
  simp only [itZ] at *
  go_upto_region 10 with (first
    | (go_at_call 37; refine (HG.out _ S.out.tn).mono ?_; rintro e w5 ⟨rfl, hb5⟩; replace S := Lib.hid (S.out.go hb5); clear hb5)
    | (refine wpList_new ItemT _ _ rfl rfl rfl rfl rfl rfl _ rfl (of_decide_eq_true (by kernel_rfl)) (by kernel_rfl) (by kernel_rfl) (by kernel_rfl) ?_))
  refine wp_gen (fun W => KnS w W t keys _) (S.out.new ItemT _ _) ?_
  clear HG S
  generalize w5.heap.size = b9 at *
  intro w6 hS
  have S := Lib.hid hS
  clear hS
  have hg : ∀ W, TnS W t keys → Calls Tryz.prog 33 #[.pointer (some ⟨t, 0, none⟩), .int .i64 0, .string ⟨#[97]⟩] W fun e w' => e = .returned (.tuple #[.agg itZ, .iface ErrT (.int .i64 21)]) ∧ Below W.heap.size W w' := fun W h => (get_any t none [97] W h.tr.none).mono fun e w' ⟨h1, h2⟩ => ⟨h1, h2⟩
  have HG := Lib.hid hg
  clear hg
  simp only [itZ] at *
  go_upto_region 11 with (first
    | (go_at_call 33; refine (HG.out _ S.out.tn).mono ?_; rintro e w5 ⟨rfl, hb5⟩; replace S := Lib.hid (S.out.go hb5); clear hb5)
    | (refine wpList_new ItemT _ _ rfl rfl rfl rfl rfl rfl _ rfl (of_decide_eq_true (by kernel_rfl)) (by kernel_rfl) (by kernel_rfl) (by kernel_rfl) ?_))
  refine wp_gen (fun W => KnS w W t keys _) (S.out.new ItemT _ _) ?_
  clear HG S
  generalize w5.heap.size = b10 at *
  intro w6 hS
  have S := Lib.hid hS
  have d5 := (hS.tx (b5, [97, 101]) (by simp)).2
  have d7 := (hS.tx (b7, [97, 103]) (by simp)).2
  have d8 := (hS.tx (b8, [97, 103]) (by simp)).2
  clear hS
  dsimp only at d5 d7 d8
  go_wp2_with (go_at_call 64; refine (errIs_same _ _).mono ?_; rintro e w7 ⟨rfl, rfl⟩)
  go_ret
  exact ⟨rfl, S.out.hb⟩
end Go.Proofs.YtmcpkhknjdiocaaGreatDoor
namespace Go.Proofs.YtmcpkhknjdiocaaGreatDoor
open Go.RowKit
attribute [local go_sem low] mk_extract
attribute [local go_sem] After.cell After.frozen mk_extract_end ByteArray.mk_append_mk
/-- What is compared of a pair of answers. -/
structure PairOk (ev : Value) (A : Array Value) (n : Int) (D : Array Value) : Prop where
  code : ∀ W, ErrVar W → Calls Tryz.prog 39 #[ev] W fun e w' => e = .returned (.int .i64 n) ∧ Below W.heap.size W w'
  same : ∀ W, Calls Tryz.prog 40 #[.agg A, .agg D] W fun e w' => e = .returned (.bool true) ∧ Below W.heap.size W w'
theorem sameItem_self (x : Sp.Item) : Sp.sameItem x x = true := by simp [Sp.sameItem]
theorem pairOk {B : Nat} {w : World} {A D : Array Value} {ev : Value} {n : Int} {y : Option Sp.Item} (h : FindIs B w (.returned (.tuple #[.agg A, ev])) y) (h' : DFindIs (.returned (.tuple #[.agg D, .int .i64 n])) y) (hv : ∀ z, y = some z → z.vals = []) : PairOk ev A n D := by
  cases y with
  | none =>
    have h1 : Ending.returned (.tuple #[.agg A, ev]) = .returned (.tuple #[.agg itZ, .iface ErrT (.int .i64 21)]) := h
    have h2 : Ending.returned (.tuple #[.agg D, .int .i64 n]) = .returned (.tuple #[.agg itZ, .int .i64 21]) := h'
    simp only [Ending.returned.injEq, Value.tuple.injEq, Array.mk.injEq, List.cons.injEq, Value.agg.injEq, Value.int.injEq, and_true, true_and] at h1 h2
    obtain ⟨rfl, rfl⟩ := h1
    obtain ⟨rfl, rfl⟩ := h2
    refine ⟨fun W hW => code_no 21 W hW, fun W => ?_⟩
    have h := dSameItem Sp.item0 Sp.item0 none none 0 0 (M := NoM) (N := NoM) W Row.nil_ Row.nil_
    rw [sameItem_self] at h
    exact h
  | some z =>
    obtain ⟨V, c, h1, _⟩ := h
    obtain ⟨V', c', h2⟩ := h'
    simp only [Ending.returned.injEq, Value.tuple.injEq, Array.mk.injEq, List.cons.injEq, Value.agg.injEq, Value.int.injEq, and_true, true_and] at h1 h2
    obtain ⟨rfl, rfl⟩ := h1
    obtain ⟨rfl, rfl⟩ := h2
    have hz := hv z rfl
    refine ⟨fun W hW => code_nil W, fun W => ?_⟩
    have h := dSameItem z z V V' c c' (M := NoM) (N := NoM) W (by rw [hz]; exact Row.nil_) (by rw [hz]; exact Row.nil_)
    rw [sameItem_self] at h
    exact h
/-- Items in blocks of their own. -/
def BkC (W : World) (l : List (Nat × Array Value)) : Prop := ∀ p ∈ l, Blk W p.1 ItemT p.2
theorem BkC.go {W W' : World} {l : List (Nat × Array Value)} (h : BkC W l) (hb : Below W.heap.size W W') : BkC W' l := fun p hp => (h p hp).below hb (h p hp).lt
structure FtS (w W : World) (t s : Nat) (o : Option Sp.Rt) (l : List (Nat × Array Value)) : Prop where
  tr : TrS W t o
  dt : DtS W s o
  ev : ErrVar W
  bk : BkC W l
  hb : Below w.heap.size w W
theorem FtS.go {w W W' : World} {t s : Nat} {o : Option Sp.Rt} {l : List (Nat × Array Value)} (h : FtS w W t s o l) (hb : Below W.heap.size W W') : FtS w W' t s o l := ⟨h.tr.go hb, h.dt.go hb, h.ev.go hb, h.bk.go hb, h.hb.trans (hb.mono h.hb.size)⟩
theorem FtS.new {w W : World} {t s : Nat} {o : Option Sp.Rt} {l : List (Nat × Array Value)} (h : FtS w W t s o l) (cs : Array Value) : FtS w (W.alloc (.cells cs ItemT)) t s o ((W.heap.size, cs) :: l) := by
  have hal : Below W.heap.size W (W.alloc (.cells cs ItemT)) := (Below.refl _ _).alloc (Nat.le_refl _) _
  have h2 := h.go hal
  refine ⟨h2.tr, h2.dt, h2.ev, fun p hp => ?_, h2.hb⟩
  rcases List.mem_cons.1 hp with rfl | hp
  · exact Blk.new _ _ _
  · exact h2.bk p hp
set_option maxRecDepth 100000 in
set_option maxHeartbeats 1600000 in
theorem dStoreNewL (fp : Option Addr) (last : Int) (h2 : 2 ≤ last) (h4 : last ≤ 400) (w : World) :
    Calls Tryz.prog 32 #[.pointer fp, .int .i64 last, .int .i64 400, .slice none 0 0] w fun e w' => ∃ s, e = .returned (.pointer (some ⟨s, 0, none⟩)) ∧ Blk w' s StoreT #[.pointer fp, .int .i64 last, .int .i64 400, .slice none 0 0, .slice none 0 0, .slice none 0 0, .slice none 0 0] ∧ Below w.heap.size w w' := by
  have hm1 : min last 400 = last := by omega
  have hm2 : max 2 last = last := by omega
  go_enter Tryz.func32, Tryz.ntmps32
  go_wp2_with fail
  go_loopw [10] (fun i wr => i = .int .i64 0 ∧ wr = w.alloc (.cells #[.pointer fp, .int .i64 last, .int .i64 400, .slice none 0 0, .slice none 0 0, .slice none 0 0, .slice none 0 0] StoreT)) (fun _ _ => 0)
  case atStart => exact ⟨rfl, rfl⟩
  case round =>
    obtain ⟨rfl, rfl⟩ := hrel
    go_wp2_with fail
    go_ret
    exact ⟨_, rfl, Blk.new _ _ _, (Below.refl _ _).alloc (Nat.le_refl _) _⟩
end Go.Proofs.YtmcpkhknjdiocaaGreatDoor
namespace Go.Proofs.YtmcpkhknjdiocaaGreatDoor
open Go.RowKit
attribute [local go_sem low] mk_extract
attribute [local go_sem] After.cell After.frozen mk_extract_end ByteArray.mk_append_mk
theorem vals_of {nums : List Nat} {W : Sp.Item → Bool} {z : Sp.Item} (h : (nums.map Sp.itN).find? W = some z) : z.vals = [] := by
  obtain ⟨n, _, rfl⟩ := List.mem_map.1 (List.mem_of_find?_eq_some h)
  rfl
theorem vals_get {nums : List Nat} {key : Txt} {z : Sp.Item} (h : Sp.getI (nums.map Sp.itN) key = some z) : z.vals = [] := by
  unfold Sp.getI at h
  cases hf : (nums.map Sp.itN).find? (fun y => !Sp.lt y.key key) with
  | none => rw [hf] at h; cases h
  | some y =>
    rw [hf] at h
    have h : (if y.key = key then some y else none) = some z := h
    split at h
    · obtain rfl := Option.some.inj h
      exact vals_of hf
    · cases h
set_option maxRecDepth 100000 in
set_option maxHeartbeats 8000000 in
theorem findTells_walk (keys : List Nat) (A : Option Addr) (c : Nat) (key : Txt) (hkb : key.length ≤ 9223372036854775807) (w : World) (hk : U8s w A keys) (h256 : ∀ k ∈ keys, k < 256) (hev : ErrVar w) :
    Calls Tryz.prog 4 #[.slice A keys.length c, .string ⟨key.toArray⟩] w fun e w' => e = .returned (.bool true) ∧ Below w.heap.size w w' := by
  have HK := Lib.hid hk
  have H256 := Lib.hid h256
  have HEV := Lib.hid hev
  have hl := Row.len hk
  rw [List.length_map] at hl
  clear hk h256 hev
  by_cases hn : keys.length ≤ 120
  · have hn0 : ¬ (120 < (keys.length : Int)) := by omega
    by_cases hy : key.length ≤ 20
    · have hy0 : ¬ (20 < (key.length : Int)) := by omega
      have HGT := Lib.hid (fun W (hb : Below w.heap.size w W) => tree_any keys A c W (Row.go HK.out hb) H256.out (by omega))
      go_enter Tryz.func4, Tryz.ntmps4
      go_upto_region 6 with (first
        | (go_at_call 29; refine (known10_any _).mono ?_; rintro e w1 ⟨rfl, hb1⟩; have HB1 := Lib.hid hb1; clear hb1)
        | (go_at_call 30; refine (HGT.out _ HB1.out).mono ?_; rintro e w2 ⟨f, P, rfl, _, hd, hta, hb⟩; generalize hnp : P.length + 2 = np; have HNP := Lib.hid hnp; clear hnp; have HD := Lib.hid hd; have HTA := Lib.hid hta; have HB := Lib.hid (HB1.out.trans (hb.mono HB1.out.size)); clear hd hta hb HB1))
      clear HGT
      have HD2 := Lib.hid HD.out
      have HDF := Lib.hid (show ∀ W s, DfAt W f ([[], []] ++ P.map Sp.bytes) → (∃ last : Int, Blk W s StoreT #[.pointer (some ⟨f, 0, none⟩), .int .i64 last, .int .i64 400, .slice none 0 0, .slice none 0 0, .slice none 0 0, .slice none 0 0]) → DtS W s (Sp.treeN keys).1 from fun W s h1 h2 => ⟨f, _, ⟨h2, h1, file_small P⟩, by have := HTA.out.len; simp; omega, HTA.out.filed hn⟩)
      have HIT := Lib.hid (HTA.out.items)
      have hpl := HTA.out.len
      have hsm := file_small P
      have hnw := fun (t f' m d : Nat) (last : Int) (v : Value) (W : World) (hst : St0 W t f' m d last v ([[], []] ++ P.map Sp.bytes)) h1 h2 => TnS.of hst HTA.out h1 h2
      have hl2 : ([[], []] ++ P.map Sp.bytes).length = P.length + 2 := by simp
      generalize [[], []] ++ P.map Sp.bytes = V at *
      obtain ⟨g, cap, c0, htx, hcap⟩ := HD.out.opn (by omega) (by omega)
      have HTX := Lib.hid htx
      have HSM := Lib.hid hsm
      have HNW := Lib.hid hnw
      have hV4 : V.length ≤ 400 := by omega
      clear hsm hnw htx HD HTA
      have hnp := HNP.out
      have hnp2 : (2 : Int) ≤ (np : Int) := by omega
      have hnp4 : (np : Int) ≤ 400 := by omega
      clear hnp HNP hl2
      go_upto_region 7 with (first
        | (go_at_call 7; refine (fileNew_any V g 0 cap _ HTX.out hV4 hcap HSM.out).mono ?_; rintro e w3 ⟨f', v, m, rfl, hfa, _, _, _, hb3⟩; have HFA := Lib.hid hfa; have HD3 := Lib.hid (HD2.out.go hb3); have HB3 := Lib.hid (HB.out.trans (hb3.mono HB.out.size)); clear hfa hb3 HD2)
        | (go_at_call 31; refine (storeNew_any f' m (np : Int) v V _ HFA.out hnp2 hnp4).mono ?_; rintro e w4 ⟨t, d, rfl, hst, hb4⟩; have HST := Lib.hid hst; have HD4 := Lib.hid (HD3.out.go hb4); have HB4 := Lib.hid (HB3.out.trans (hb4.mono HB3.out.size)); clear hst hb4 HD3)
        | (go_at_call 32; refine (dStoreNewL (some ⟨f, 0, none⟩) (np : Int) hnp2 hnp4 _).mono ?_; rintro e w5 ⟨s, rfl, hsb, hb5⟩; have S := Lib.hid (show FtS w w5 t s (Sp.treeN keys).1 [] from ⟨(HNW.out t f' m d (np : Int) v w4 HST.out H256.out hn).tr.go hb5, HDF.out _ _ (HD4.out.go hb5) ⟨_, hsb⟩, (HEV.out.go HB4.out).go hb5, fun p hp => by (cases hp), HB4.out.trans (hb5.mono HB4.out.size)⟩); clear hsb hb5))
      clear HNW HDF HST HD4 HB4 HFA HB3 HTX HSM HB HEV c0
      obtain ⟨rt, hrt⟩ : ∃ rt : Nat, rt = Sp.Rt.root (Sp.treeN keys).1 := ⟨_, rfl⟩
      rw [← hrt]
      have HRT := Lib.hid hrt
      clear hrt
      have hlen : (Sp.Rt.items (Sp.treeN keys).1).length ≤ 1000 := by rw [HIT.out, List.length_map]; have := Sp.numsOf_len keys; omega
      have HLEN := Lib.hid hlen
      clear hlen
      generalize (Sp.treeN keys).1 = o at *
      try simp only [itZ] at *
      obtain ⟨ya, hya⟩ : ∃ y : Option Sp.Item, y = Sp.getI (Sp.Rt.items o) key := ⟨_, rfl⟩
      have HVa := Lib.hid (show ∀ z, ya = some z → z.vals = [] from fun z hz => by rw [hya, HIT.out] at hz; exact vals_get hz)
      have HG := Lib.hid (show ∀ W l, FtS w W t s o l → Calls Tryz.prog 33 #[.pointer (some ⟨t, 0, none⟩), .int .i64 (rt : Int), .string ⟨key.toArray⟩] W fun e w' => (∃ B V, FindIs B V e ya) ∧ FtS w w' t s o l from fun W l h => by rw [HRT.out, hya]; exact (get_any t o key W h.tr).mono fun e w' ⟨h1, h2⟩ => ⟨⟨_, _, h1⟩, h.go h2⟩)
      have HD := Lib.hid (show ∀ W l, FtS w W t s o l → Calls Tryz.prog 34 #[.pointer (some ⟨s, 0, none⟩), .int .i64 (rt : Int), .string ⟨key.toArray⟩] W fun e w' => DFindIs e ya ∧ FtS w w' t s o l from fun W l h => by rw [HRT.out, hya]; exact (dGet_any s o key W h.dt HLEN.out).mono fun e w' ⟨h1, h2⟩ => ⟨h1, h.go h2⟩)
      clear hya
      go_upto_region 8 with (first
        | (go_at_call 33; refine (HG.out _ _ S.out).mono ?_; rintro e w6 ⟨⟨B, V, hfi⟩, hS⟩; obtain ⟨a0, a1, a2, a3, a4, a5, a6, a7, a8, a9, ev7, rfl, hall⟩ := hfi.form; have HFa := Lib.hid hfi; have HA := Lib.hid hall; replace S := Lib.hid hS; clear hfi hall hS)
        | (refine wpList_new ItemT _ _ rfl rfl rfl rfl rfl rfl _ rfl (of_decide_eq_true (by kernel_rfl)) (by kernel_rfl) (by kernel_rfl) HA.out ?_))
      refine wp_gen (fun W => FtS w W t s o _) (S.out.new #[a0, a1, a2, a3, a4, a5, a6, a7, a8, a9]) ?_
      clear HG S HA
      generalize w6.heap.size = b7 at *
      intro w7 hS
      have S := Lib.hid hS
      clear hS
      go_upto_region 9 with (first
        | (go_at_call 34; refine (HD.out _ _ S.out).mono ?_; rintro e w6 ⟨hfi, hS⟩; obtain ⟨d0, d1, d2, d3, d4, d5, d6, d7, d8, d9, m8, rfl, hall⟩ := hfi.form; have HPa := Lib.hid (pairOk HFa.out hfi HVa.out); have HA := Lib.hid hall; replace S := Lib.hid hS; clear hfi hall hS HFa)
        | (refine wpList_new ItemT _ _ rfl rfl rfl rfl rfl rfl _ rfl (of_decide_eq_true (by kernel_rfl)) (by kernel_rfl) (by kernel_rfl) HA.out ?_))
      refine wp_gen (fun W => FtS w W t s o _) (S.out.new #[d0, d1, d2, d3, d4, d5, d6, d7, d8, d9]) ?_
      clear HD S HA HVa
      generalize w6.heap.size = b8 at *
      intro w7 hS
      have S := Lib.hid hS
      clear hS
      obtain ⟨yf, hyf⟩ : ∃ y : Option Sp.Item, y = (Sp.Rt.items o).find? fun y => !Sp.lt y.key key := ⟨_, rfl⟩
      have HVf := Lib.hid (show ∀ z, yf = some z → z.vals = [] from fun z hz => by rw [hyf, HIT.out] at hz; exact vals_of hz)
      have HG := Lib.hid (show ∀ W l, FtS w W t s o l → Calls Tryz.prog 35 #[.pointer (some ⟨t, 0, none⟩), .int .i64 (rt : Int), .string ⟨key.toArray⟩] W fun e w' => (∃ B V, FindIs B V e yf) ∧ FtS w w' t s o l from fun W l h => by rw [HRT.out, hyf]; exact (above_any t o key W h.tr).mono fun e w' ⟨h1, h2⟩ => ⟨⟨_, _, h1⟩, h.go h2⟩)
      have HD := Lib.hid (show ∀ W l, FtS w W t s o l → Calls Tryz.prog 36 #[.pointer (some ⟨s, 0, none⟩), .int .i64 (rt : Int), .string ⟨key.toArray⟩] W fun e w' => DFindIs e yf ∧ FtS w w' t s o l from fun W l h => by rw [HRT.out, hyf]; exact (dAbove_any s o key W h.dt HLEN.out).mono fun e w' ⟨h1, h2⟩ => ⟨h1, h.go h2⟩)
      clear hyf
      go_upto_region 10 with (first
        | (go_at_call 35; refine (HG.out _ _ S.out).mono ?_; rintro e w6 ⟨⟨B, V, hfi⟩, hS⟩; obtain ⟨f0, f1, f2, f3, f4, f5, f6, f7, f8, f9, ev9, rfl, hall⟩ := hfi.form; have HFf := Lib.hid hfi; have HA := Lib.hid hall; replace S := Lib.hid hS; clear hfi hall hS)
        | (refine wpList_new ItemT _ _ rfl rfl rfl rfl rfl rfl _ rfl (of_decide_eq_true (by kernel_rfl)) (by kernel_rfl) (by kernel_rfl) HA.out ?_))
      refine wp_gen (fun W => FtS w W t s o _) (S.out.new #[f0, f1, f2, f3, f4, f5, f6, f7, f8, f9]) ?_
      clear HG S HA
      generalize w6.heap.size = b9 at *
      intro w7 hS
      have S := Lib.hid hS
      clear hS
      go_upto_region 11 with (first
        | (go_at_call 36; refine (HD.out _ _ S.out).mono ?_; rintro e w6 ⟨hfi, hS⟩; obtain ⟨g0, g1, g2, g3, g4, g5, g6, g7, g8, g9, m10, rfl, hall⟩ := hfi.form; have HPf := Lib.hid (pairOk HFf.out hfi HVf.out); have HA := Lib.hid hall; replace S := Lib.hid hS; clear hfi hall hS HFf)
        | (refine wpList_new ItemT _ _ rfl rfl rfl rfl rfl rfl _ rfl (of_decide_eq_true (by kernel_rfl)) (by kernel_rfl) (by kernel_rfl) HA.out ?_))
      refine wp_gen (fun W => FtS w W t s o _) (S.out.new #[g0, g1, g2, g3, g4, g5, g6, g7, g8, g9]) ?_
      clear HD S HA HVf
      generalize w6.heap.size = b10 at *
      intro w7 hS
      have S := Lib.hid hS
      clear hS
      obtain ⟨yh, hyh⟩ : ∃ y : Option Sp.Item, y = (Sp.Rt.items o).find? fun y => Sp.lt key y.key := ⟨_, rfl⟩
      have HVh := Lib.hid (show ∀ z, yh = some z → z.vals = [] from fun z hz => by rw [hyh, HIT.out] at hz; exact vals_of hz)
      have HG := Lib.hid (show ∀ W l, FtS w W t s o l → Calls Tryz.prog 37 #[.pointer (some ⟨t, 0, none⟩), .int .i64 (rt : Int), .string ⟨key.toArray⟩] W fun e w' => (∃ B V, FindIs B V e yh) ∧ FtS w w' t s o l from fun W l h => by rw [HRT.out, hyh]; exact (behind_any t o key W h.tr).mono fun e w' ⟨h1, h2⟩ => ⟨⟨_, _, h1⟩, h.go h2⟩)
      have HD := Lib.hid (show ∀ W l, FtS w W t s o l → Calls Tryz.prog 38 #[.pointer (some ⟨s, 0, none⟩), .int .i64 (rt : Int), .string ⟨key.toArray⟩] W fun e w' => DFindIs e yh ∧ FtS w w' t s o l from fun W l h => by rw [HRT.out, hyh]; exact (dBehind_any s o key W h.dt HLEN.out).mono fun e w' ⟨h1, h2⟩ => ⟨h1, h.go h2⟩)
      clear hyh
      go_upto_region 12 with (first
        | (go_at_call 37; refine (HG.out _ _ S.out).mono ?_; rintro e w6 ⟨⟨B, V, hfi⟩, hS⟩; obtain ⟨h0, h1, h2, h3, h4, h5, h6, h7, h8, h9, ev11, rfl, hall⟩ := hfi.form; have HFh := Lib.hid hfi; have HA := Lib.hid hall; replace S := Lib.hid hS; clear hfi hall hS)
        | (refine wpList_new ItemT _ _ rfl rfl rfl rfl rfl rfl _ rfl (of_decide_eq_true (by kernel_rfl)) (by kernel_rfl) (by kernel_rfl) HA.out ?_))
      refine wp_gen (fun W => FtS w W t s o _) (S.out.new #[h0, h1, h2, h3, h4, h5, h6, h7, h8, h9]) ?_
      clear HG S HA
      generalize w6.heap.size = b11 at *
      intro w7 hS
      have S := Lib.hid hS
      clear hS
      go_upto_region 13 with (first
        | (go_at_call 38; refine (HD.out _ _ S.out).mono ?_; rintro e w6 ⟨hfi, hS⟩; obtain ⟨k0, k1, k2, k3, k4, k5, k6, k7, k8, k9, m12, rfl, hall⟩ := hfi.form; have HPh := Lib.hid (pairOk HFh.out hfi HVh.out); have HA := Lib.hid hall; replace S := Lib.hid hS; clear hfi hall hS HFh)
        | (refine wpList_new ItemT _ _ rfl rfl rfl rfl rfl rfl _ rfl (of_decide_eq_true (by kernel_rfl)) (by kernel_rfl) (by kernel_rfl) HA.out ?_))
      refine wp_gen (fun W => FtS w W t s o _) (S.out.new #[k0, k1, k2, k3, k4, k5, k6, k7, k8, k9]) ?_
      clear HD S HA HVh
      generalize w6.heap.size = b12 at *
      intro w7 hS
      have S := Lib.hid hS
      clear hS
      have HCa := Lib.hid HPa.out.code
      have HCf := Lib.hid HPf.out.code
      have HCh := Lib.hid HPh.out.code
      have HSa := Lib.hid HPa.out.same
      have HSf := Lib.hid HPf.out.same
      have HSh := Lib.hid HPh.out.same
      have HT7 : True := trivial
      have HT8 : True := trivial
      have HT9 : True := trivial
      have HT10 : True := trivial
      have HT11 : True := trivial
      have HT12 : True := trivial
      clear HIT HRT HLEN HPa HPf HPh
      go_wp2_with (first
        | (go_at_call 39; (first | (refine (HCa.out _ S.out.ev).mono ?_; clear HCa) | (refine (HCf.out _ S.out.ev).mono ?_; clear HCf) | (refine (HCh.out _ S.out.ev).mono ?_; clear HCh)); rintro e w7 ⟨rfl, hb7⟩; replace S := Lib.hid (S.out.go hb7); clear hb7)
        | (go_at_call 40; (first | (refine (HSa.out _).mono ?_; clear HSa) | (refine (HSf.out _).mono ?_; clear HSf) | (refine (HSh.out _).mono ?_; clear HSh)); rintro e w7 ⟨rfl, hb7⟩; replace S := Lib.hid (S.out.go hb7); clear hb7)
        | (clear HT7; refine wpList_row ItemT _ rfl b7 rfl rfl ItemT _ (0, 0) _ (S.out.bk (b7, #[a0, a1, a2, a3, a4, a5, a6, a7, a8, a9]) (.tail _ (.tail _ (.tail _ (.tail _ (.tail _ (.head _))))))) Tryz.underlying83 rfl (by kernel_rfl) ?_)
        | (clear HT8; refine wpList_row ItemT _ rfl b8 rfl rfl ItemT _ (0, 0) _ (S.out.bk (b8, #[d0, d1, d2, d3, d4, d5, d6, d7, d8, d9]) (.tail _ (.tail _ (.tail _ (.tail _ (.head _)))))) Tryz.underlying83 rfl (by kernel_rfl) ?_)
        | (clear HT9; refine wpList_row ItemT _ rfl b9 rfl rfl ItemT _ (0, 0) _ (S.out.bk (b9, #[f0, f1, f2, f3, f4, f5, f6, f7, f8, f9]) (.tail _ (.tail _ (.tail _ (.head _))))) Tryz.underlying83 rfl (by kernel_rfl) ?_)
        | (clear HT10; refine wpList_row ItemT _ rfl b10 rfl rfl ItemT _ (0, 0) _ (S.out.bk (b10, #[g0, g1, g2, g3, g4, g5, g6, g7, g8, g9]) (.tail _ (.tail _ (.head _)))) Tryz.underlying83 rfl (by kernel_rfl) ?_)
        | (clear HT11; refine wpList_row ItemT _ rfl b11 rfl rfl ItemT _ (0, 0) _ (S.out.bk (b11, #[h0, h1, h2, h3, h4, h5, h6, h7, h8, h9]) (.tail _ (.head _))) Tryz.underlying83 rfl (by kernel_rfl) ?_)
        | (clear HT12; refine wpList_row ItemT _ rfl b12 rfl rfl ItemT _ (0, 0) _ (S.out.bk (b12, #[k0, k1, k2, k3, k4, k5, k6, k7, k8, k9]) (.head _)) Tryz.underlying83 rfl (by kernel_rfl) ?_))
      go_ret
      exact ⟨rfl, S.out.hb⟩
    · have hy0 : (20 < (key.length : Int)) := by omega
      go_enter Tryz.func4, Tryz.ntmps4
      go_wp2_with (go_at_call 29; refine (known10_any _).mono ?_; rintro e w1 ⟨rfl, hb1⟩)
      go_ret
      exact ⟨rfl, hb1⟩
  · have hn0 : (120 < (keys.length : Int)) := by omega
    go_enter Tryz.func4, Tryz.ntmps4
    go_wp2_with (go_at_call 29; refine (known10_any _).mono ?_; rintro e w1 ⟨rfl, hb1⟩)
    go_ret
    exact ⟨rfl, hb1⟩
end Go.Proofs.YtmcpkhknjdiocaaGreatDoor
