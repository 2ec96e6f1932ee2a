/- Values added and taken: the plain law; the law's walk. -/
import Derived.Test.YtkcfmjlcijhieaaGreatQPDBack06
import Derived.Test.YtkcfmjlcijhieaaGreatQPDBack07
import Derived.Deep.CutBlock
set_option linter.unusedSimpArgs false
set_option linter.unusedVariables false
namespace Go.Proofs.YtkcfmjlcijhieaaGreat
open Go.RowKit
attribute [local go_sem low] mk_extract
attribute [local go_sem] After.cell After.frozen mk_extract_end ByteArray.mk_append_mk
namespace Sp
def bV (k : Nat) : Txt := [UInt8.ofNat (97 + k)]
theorem bV_inj {i j : Nat} (hi : i < 16) (hj : j < 16) (h : bV i = bV j) : i = j := by
  have h1 : UInt8.ofNat (97 + i) = UInt8.ofNat (97 + j) := (List.cons.inj h).1
  have h2 := congrArg UInt8.toNat h1
  rw [UInt8.toNat_ofNat', UInt8.toNat_ofNat'] at h2
  omega
/-- Which values are there. -/
structure BkI (th : Nat → Bool) (l : List Txt) : Prop where
  srt : SrtV l
  mem : ∀ x, x ∈ l ↔ ∃ k, k < 16 ∧ th k = true ∧ x = bV k
  len : l.length ≤ 12
theorem BkI.zero : BkI (fun _ => false) [] := ⟨SrtV.nil, fun x => ⟨fun h => (by cases h), fun ⟨_, _, h, _⟩ => (by cases h)⟩, by simp⟩
theorem BkI.has {th : Nat → Bool} {l : List Txt} (h : BkI th l) {k : Nat} (hk : k < 16) : hasV l (bV k) = th k := by
  rcases ht : th k with _ | _
  · rcases hb : hasV l (bV k) with _ | _
    · rfl
    · obtain ⟨j, hj, hj2, e⟩ := (h.mem _).1 ((hasV_iff h.srt _).1 hb)
      rw [bV_inj hk hj e, hj2] at ht
      cases ht
  · exact (hasV_iff h.srt _).2 ((h.mem _).2 ⟨k, hk, ht, rfl⟩)
def updB (th : Nat → Bool) (k : Nat) (b : Bool) : Nat → Bool := fun j => if j = k then b else th j
theorem BkI.add {th : Nat → Bool} {l : List Txt} (h : BkI th l) {k : Nat} (hk : k < 16) (ht : th k = false) (hl : l.length < 12) : BkI (updB th k true) (insT (bV k) l) := by
  refine ⟨insT_srt h.srt ⟨by simp [bV], by simp [bV]⟩ (by rw [h.has hk, ht]), fun x => ?_, by rw [insT_len]; omega⟩
  rw [mem_insT, h.mem]
  constructor
  · rintro (rfl | ⟨j, hj, hj2, rfl⟩)
    · exact ⟨k, hk, if_pos rfl, rfl⟩
    · refine ⟨j, hj, ?_, rfl⟩
      unfold updB
      split
      · rfl
      · exact hj2
  · rintro ⟨j, hj, hj2, rfl⟩
    by_cases e : j = k
    · subst e; exact .inl rfl
    · unfold updB at hj2
      rw [if_neg e] at hj2
      exact .inr ⟨j, hj, hj2, rfl⟩
theorem plc_has {l : List Txt} {v : Txt} (h : hasV l v = true) : ∃ hp : plc l v < l.length, l[plc l v] = v := by
  unfold hasV at h
  rw [Bool.and_eq_true] at h
  have hp := of_decide_eq_true h.1
  have hv := of_decide_eq_true h.2
  refine ⟨hp, ?_⟩
  rw [List.getD_eq_getElem?_getD, List.getElem?_eq_getElem hp] at hv
  exact hv
theorem one_era {l : List Txt} {v : Txt} (h : hasV l v = true) (h1 : l.length = 1) : l.eraseIdx (plc l v) = [] := by
  obtain ⟨hp, _⟩ := plc_has h
  refine List.eq_nil_of_length_eq_zero ?_
  rw [List.length_eraseIdx, if_pos hp]
  omega
theorem BkI.era {th : Nat → Bool} {l : List Txt} (h : BkI th l) {k : Nat} (hk : k < 16) (ht : th k = true) : BkI (updB th k false) (l.eraseIdx (plc l (bV k))) := by
  obtain ⟨hp, hv⟩ := plc_has (by rw [h.has hk]; exact ht : hasV l (bV k) = true)
  refine ⟨era_srt h.srt _, fun x => ?_, by rw [List.length_eraseIdx, if_pos hp]; have := h.len; omega⟩
  rw [List.mem_eraseIdx_iff_getElem]
  constructor
  · rintro ⟨i, hi, hne, rfl⟩
    obtain ⟨j, hj, hj2, e⟩ := (h.mem l[i]).1 (List.getElem_mem hi)
    refine ⟨j, hj, ?_, e⟩
    unfold updB
    rw [if_neg, hj2]
    rintro rfl
    rw [← hv] at e
    rcases Nat.lt_trichotomy i (plc l (bV j)) with h1 | h1 | h1
    · have := List.pairwise_iff_getElem.1 h.srt.up _ _ hi hp h1
      rw [e, lt_irr] at this; cases this
    · exact hne h1
    · have := List.pairwise_iff_getElem.1 h.srt.up _ _ hp hi h1
      rw [e, lt_irr] at this; cases this
  · rintro ⟨j, hj, hj2, rfl⟩
    unfold updB at hj2
    by_cases e : j = k
    · rw [if_pos e] at hj2; cases hj2
    · rw [if_neg e] at hj2
      obtain ⟨i, hi, e2⟩ := List.getElem_of_mem ((h.mem (bV j)).2 ⟨j, hj, hj2, rfl⟩)
      refine ⟨i, hi, ?_, e2⟩
      rintro rfl
      rw [hv] at e2
      exact e (bV_inj hj hk e2.symm)
end Sp
abbrev BT16 : TypeId := 96
theorem StAt.oneT {W W' : World} {M : Nat → Prop} {t f m d : Nat} {fv : Value} {V : List Txt} {s : Sp.Sto} (h : StAt W M t f m d fv V s) {g : Nat} {ty : TypeId} {cs : Array Value} (hg : Blk W g ty cs) (e1 : StoT ≠ ty) (e2 : FileT ≠ ty) (e3 : StrT ≠ ty) (e4 : IntT ≠ ty) (hM : M g) (hk : Chg (OneM g) W W') : StAt W' M t f m d fv V s := by
  have hblk : ∀ {k : Nat} {u : TypeId} {cs : Array Value}, Blk W k u cs → u ≠ ty → k ≠ g := fun {k u cs'} hb hne e => hb.not_ hne _ (e ▸ hg)
  obtain ⟨uf, ua, h1, _, _⟩ := h.bt
  obtain ⟨sv, hf⟩ := h.fa.bf
  obtain ⟨D, hD, _⟩ := h.dm
  refine h.chg hk (fun k e => e ▸ hM) (hblk h1 e1) (hblk hf e2) (fun e => ?_) (fun e => ?_) (fun k hk' e => ?_) (fun k cs hb => hblk hb e4)
  · obtain ⟨es, ck, hm, _⟩ := h.fa.map
    have h2 : W.heap[g]? = _ := hg
    rw [← e, hm] at h2
    cases h2
  · exact hD.not_blk (e ▸ hg)
  · rcases h.fa.own.2 with ⟨e2, _⟩ | ⟨g', cap, cur, e2, _, hh, _⟩
    · rw [e2] at hk'; simp [Value.ownBlock] at hk'
    · rw [e2] at hk'
      have e5 : g' = k := by simpa [Value.ownBlock] using hk'
      have hh2 : Blk W g' StrT cur := hh
      exact hblk hh2 e3 (e5.trans e)
/-- The law's sixteen marks. -/
def thV (th : Nat → Bool) : Array Value := ((List.range 16).map fun k => Value.bool (th k)).toArray
theorem thV_at (th : Nat → Bool) {k : Nat} (hk : k < 16) : (thV th)[k]? = some (.bool (th k)) := by
  unfold thV
  rw [List.getElem?_toArray, List.getElem?_map, List.getElem?_range hk]
  rfl
theorem thV_set (th : Nat → Bool) (k : Nat) (b : Bool) : (thV th).setIfInBounds k (.bool b) = thV (Sp.updB th k b) := by
  unfold thV
  rw [List.setIfInBounds_toArray]
  congr 1
  refine List.ext_getElem (by simp) fun i h1 h2 => ?_
  rw [List.getElem_set]
  simp only [List.getElem_map, List.getElem_range]
  unfold Sp.updB
  by_cases e : k = i
  · rw [if_pos e, if_pos e.symm]
  · rw [if_neg e, if_neg (fun h => e h.symm)]
/-- The law's item, its marks, beside the store. -/
structure BkS (w : World) (M : Nat → Prop) (t f m d : Nat) (fv : Value) (th : Nat → Bool) (L : List Txt) (b0 b5 : Nat) (W : World) : Prop where
  ex : ∃ kind A n c dup s, Blk W b0 ItemT (itA [107] kind A n c dup) ∧ DuI L kind A n dup W ∧ Sp.DuSt L s ∧ StAt W (fun k => M k ∨ (k = b0 ∨ k = b5)) t f m d fv Sp.eV s
  bt : Blk W b5 BT16 (thV th)
  hb : Below w.heap.size w W
  ge : w.heap.size ≤ t ∧ w.heap.size ≤ d ∧ w.heap.size ≤ b0 ∧ w.heap.size ≤ b5
/-- In a round: beside them the item that is told. -/
structure YkS (w : World) (M : Nat → Prop) (t f m d : Nat) (fv : Value) (th : Nat → Bool) (L : List Txt) (b0 b5 b6 : Nat) (kind : Int) (A : Option Addr) (n : Nat) (dup : Int) (s : Sp.Sto) (X Y : Array Value) (W : World) : Prop where
  bx : Blk W b0 ItemT X
  bY : Blk W b6 ItemT Y
  bt : Blk W b5 BT16 (thV th)
  it : DuI L kind A n dup W
  du : Sp.DuSt L s
  st : StAt W (fun k => (M k ∨ (k = b0 ∨ k = b5)) ∨ k = b6) t f m d fv Sp.eV s
  hb : Below w.heap.size w W
  ge : w.heap.size ≤ t ∧ w.heap.size ≤ d ∧ w.heap.size ≤ b0 ∧ w.heap.size ≤ b5
  g6 : w.heap.size ≤ b6 ∧ b6 ≠ b0
section
variable {w W W' : World} {M : Nat → Prop} {t f m d : Nat} {fv : Value} {th : Nat → Bool} {L L' : List Txt} {b0 b5 b6 : Nat} {kind kind' dup dup' : Int} {A A' : Option Addr} {n n' c : Nat} {s s' : Sp.Sto} {X Y Z : Array Value}
theorem BkS.go (h : BkS w M t f m d fv th L b0 b5 W) (hb : Below W.heap.size W W') : BkS w M t f m d fv th L b0 b5 W' := by
  obtain ⟨kind, A, n, c, dup, s, h1, h2, h3, h4⟩ := h.ex
  exact ⟨⟨kind, A, n, c, dup, s, h1.below hb h1.lt, h2.chg (Chg.of_below (S := NoM) hb) (fun _ _ _ h => h), h3, h4.go hb⟩, h.bt.below hb h.bt.lt, h.hb.trans (hb.mono h.hb.size), h.ge⟩
theorem YkS.turn (h : YkS w M t f m d fv th L b0 b5 b6 kind A n dup s X Y W) (hI : DuI L' kind' A' n' dup' W') (hD : Sp.DuSt L' s') (hst : StAt W' (fun k => (M k ∨ (k = b0 ∨ k = b5)) ∨ k = b6) t f m d fv Sp.eV s') (hk : Chg (TwoM t d) W W') : YkS w M t f m d fv th L' b0 b5 b6 kind' A' n' dup' s' X Y W' :=
  ⟨h.bx.chg hk (h.st.not_kind (by decide) _ _ h.bx), h.bY.chg hk (h.st.not_kind (by decide) _ _ h.bY), h.bt.chg hk (h.st.not_kind (by decide) _ _ h.bt), hI, hD, hst, h.hb.trans (hk.below h.hb.size fun k hk' e => by
    have := h.ge
    rcases e with rfl | rfl <;> omega), h.ge, h.g6⟩
theorem YkS.setY (h : YkS w M t f m d fv th L b0 b5 b6 kind A n dup s X Y W) (Z : Array Value) : YkS w M t f m d fv th L b0 b5 b6 kind A n dup s X Z (W.setRow b6 Z) := by
  have hk : Chg (OneM b6) W (W.setRow b6 Z) := chg_setRowN (Chg.refl (OneM b6) W) (.inl rfl) _
  have hne : b5 ≠ b6 := fun e => h.bt.not_ (by decide) _ (e ▸ h.bY)
  exact ⟨h.bx.chg hk (fun e => h.g6.2 (show b0 = b6 from e).symm), h.bY.row, h.bt.chg hk hne, h.it.row h.bY, h.du, h.st.one h.bY (.inr rfl) hk, below_setRow h.hb h.g6.1 _, h.ge, h.g6⟩
theorem YkS.setX (h : YkS w M t f m d fv th L b0 b5 b6 kind A n dup s X Y W) (Z : Array Value) : YkS w M t f m d fv th L b0 b5 b6 kind A n dup s Z Y (W.setRow b0 Z) := by
  have hk : Chg (OneM b0) W (W.setRow b0 Z) := chg_setRowN (Chg.refl (OneM b0) W) (.inl rfl) _
  have hne : b5 ≠ b0 := fun e => h.bt.not_ (by decide) _ (e ▸ h.bx)
  exact ⟨h.bx.row, h.bY.chg hk h.g6.2, h.bt.chg hk hne, h.it.row h.bx, h.du, h.st.one h.bx (.inl (.inr (.inl rfl))) hk, below_setRow h.hb h.ge.2.2.1 _, h.ge, h.g6⟩
theorem YkS.mark (h : YkS w M t f m d fv th L b0 b5 b6 kind A n dup s X Y W) (k : Nat) (b : Bool) : YkS w M t f m d fv (Sp.updB th k b) L b0 b5 b6 kind A n dup s X Y (W.setCell ⟨b5, k, none⟩ (.bool b)) := by
  have hk := Chg.set1 W b5 k (.bool b)
  have hbt := h.bt.set_ k (.bool b)
  rw [thV_set] at hbt
  have n0 : b0 ≠ b5 := fun e => h.bx.not_ (by decide) _ (e ▸ h.bt)
  have n6 : b6 ≠ b5 := fun e => h.bY.not_ (by decide) _ (e ▸ h.bt)
  refine ⟨h.bx.far n0 _, h.bY.far n6 _, hbt, h.it.chg hk (fun k' cs hb e => ?_), h.du, h.st.oneT h.bt (by decide) (by decide) (by decide) (by decide) (.inl (.inr (.inr rfl))) hk, h.hb.trans (hk.below h.hb.size fun j hj e => ?_), h.ge, h.g6⟩
  · have e : k' = b5 := e
    subst e
    exact hb.not_ (by decide) _ h.bt
  · have : j = b5 := e
    have := h.ge
    omega
theorem YkS.go (h : YkS w M t f m d fv th L b0 b5 b6 kind A n dup s X Y W) (hb : Below W.heap.size W W') : YkS w M t f m d fv th L b0 b5 b6 kind A n dup s X Y W' :=
  h.turn (h.it.chg (Chg.of_below (S := NoM) hb) (fun _ _ _ h => h)) h.du (h.st.go hb) (Chg.of_below hb)
theorem YkS.new_ (h : BkS w M t f m d fv th L b0 b5 W) (hx : Blk W b0 ItemT X) (hI : DuI L kind A n dup W) (hD : Sp.DuSt L s) (hst : StAt W (fun k => M k ∨ (k = b0 ∨ k = b5)) t f m d fv Sp.eV s) {w1 : World} (hb : Below W.heap.size W w1) (Y : Array Value) : YkS w M t f m d fv th L b0 b5 w1.heap.size kind A n dup s X Y (w1.alloc (.cells Y ItemT)) := by
  have hal : Below w1.heap.size w1 (w1.alloc (.cells Y ItemT)) := (Below.refl _ _).alloc (Nat.le_refl _) _
  have hb2 := hb.trans (hal.mono hb.size)
  have hsz := hb.size
  have hs0 := h.hb.size
  refine ⟨hx.below hb2 hx.lt, Blk.new _ _ _, h.bt.below hb2 h.bt.lt, hI.chg (Chg.of_below (S := NoM) hb2) (fun _ _ _ h => h), hD, hst.newMs hb2 fun k e => ?_, h.hb.trans (hb2.mono hs0), h.ge, ⟨by omega, fun e => ?_⟩⟩
  · subst e
    exact ⟨hsz, by rw [World.size_alloc]; omega⟩
  · have := hx.lt
    omega
theorem YkS.done (h : YkS w M t f m d fv th L b0 b5 b6 kind A n dup s (itA [107] kind A n c dup) Y W) (hM : M t ∧ M d) : BkS w M t f m d fv th L b0 b5 W :=
  ⟨⟨kind, A, n, c, dup, s, h.bx, h.it, h.du, h.st.oldMs ⟨.inl hM.1, .inl hM.2⟩⟩, h.bt, h.hb, h.ge⟩
end
theorem take_ok (M : Nat → Prop) (t f m d : Nat) (fv : Value) (V : List Txt) (s : Sp.Sto) (k : Txt) (l : List Txt) (kind : Int) (A : Option Addr) (n c : Nat) (dup : Int) (v : Txt) (w : World) (h : StAt w M t f m d fv V s) (hV : V.length ≤ 400) (hd : Sp.DuSt l s) (hi : DuI l kind A n dup w) (hne : l ≠ []) (h12 : l.length ≤ 12) (hs : Sp.SrtV l) (hno : Sp.hasV l v = true) :
    Calls Tryz.prog 52 #[.pointer (some ⟨t, 0, none⟩), .agg (itA k kind A n c dup), .string ⟨v.toArray⟩] w fun e w' => ∃ x, e = .returned (.tuple #[x, .nilIface]) ∧ DuR M t f m d fv V k (l.eraseIdx (Sp.plc l v)) w' x ∧ Chg (TwoM t d) w w' := by
  by_cases h1 : l.length = 1
  · rw [Sp.one_era hno h1]
    exact take_last M t f m d fv V s k l kind A n c dup v w h hd hi hne h12 h1 hno
  · have : l.length ≠ 0 := fun e => hne (List.eq_nil_of_length_eq_zero e)
    exact take_more M t f m d fv V s k l kind A n c dup v w h hV hd hi hne h12 hs (by omega) hno
set_option maxRecDepth 100000 in
set_option maxHeartbeats 16000000 in
theorem back14_walk (l : List Nat) (A : Option Addr) (cA : Nat) (w : World) (hU : U8s w A l) (hlb : ∀ k ∈ l, k < 256) :
    Calls Tryz.prog 13 #[.slice A l.length cA] w fun e w' => e = .returned (.bool true) ∧ Below w.heap.size w w' := by
  have HKN := Lib.hid (known14_any w)
  by_cases hl8 : 80 < l.length
  · have hlen : l.length ≤ 9223372036854775807 := by have := hU.1; simpa using this
    go_enter Tryz.func13, Tryz.ntmps13
    go_wp2_with (go_at_call 49; refine HKN.out.mono ?_; rintro e w1 ⟨rfl, hb1⟩; have HB1 := Lib.hid hb1; clear hb1)
    go_ret
    exact ⟨by simp, HB1.out⟩
  go_enter Tryz.func13, Tryz.ntmps13
  go_upto_region 6 with (first
    | (go_at_call 49; refine HKN.out.mono ?_; rintro e w1 ⟨rfl, hb1⟩; have HB1 := Lib.hid hb1; clear hb1)
    | (go_at_call 20; refine (fileNew_any Sp.eV w1.heap.size 0 2 _ (eV_txts w1) (by decide) (by decide) Sp.eV_sz).mono ?_; rintro e w2 ⟨f, fv, m, rfl, hf, _, _, _, hb2⟩; have HF := Lib.hid hf; have HB2 := Lib.hid hb2; clear hf hb2)
    | (go_at_call 28; refine (stoNew_any f m fv Sp.eV 2 400 (.slice none 0 0) [] _ HF.out (nil_ivO _)).mono ?_; rintro e w3 ⟨t, d, M, rfl, hst, hM, hb3, ht, hd⟩; have HST := Lib.hid hst; have HB3 := Lib.hid hb3; clear hst hM hb3))
  have S0 := Lib.hid (DxS.new_ (HB1.out.alloc HB1.out.size _) HB2.out HB3.out HST.out ht hd [107])
  have HM0 := Lib.hid HST.out.hM
  clear HF HB1 HB2 HB3 HST ht hd HKN
  go_upto_region 7 with (refine wpList_new ItemT _ _ rfl rfl rfl rfl rfl rfl _ rfl (of_decide_eq_true (by kernel_rfl)) (by kernel_rfl) (by kernel_rfl) (by kernel_rfl) ?_)
  obtain ⟨b0, hb0⟩ : ∃ b, b = w3.heap.size := ⟨_, rfl⟩
  rw [← hb0] at S0 ⊢
  refine wp_gen _ S0.out ?_
  intro W1 hW1
  have S1 := Lib.hid hW1
  clear hW1 S0 hb0
  go_upto_region 10 with fail
  refine wp_gen (fun W => ∃ b5, b5 = W1.heap.size ∧ BkS w M t f m d fv (fun _ => false) [] b0 b5 W ∧ (M t ∧ M d)) ?_ ?_
  · obtain ⟨kind, A, n, c, dup, s, h1, h2, h3, h4⟩ := S1.out.ex
    have hal : Below W1.heap.size W1 (W1.alloc (.cells (thV fun _ => false) BT16)) := (Below.refl _ _).alloc (Nat.le_refl _) _
    have hsz := S1.out.hb.size
    have h5 := h4.newMs (N := fun k => k = W1.heap.size) hal fun k e => by subst e; exact ⟨Nat.le_refl _, by rw [World.size_alloc]; omega⟩
    have e5 : (fun k => (M k ∨ k = b0) ∨ k = W1.heap.size) = fun k => M k ∨ (k = b0 ∨ k = W1.heap.size) := funext fun k => propext or_assoc
    rw [e5] at h5
    have e6 : BkS w M t f m d fv (fun _ => false) [] b0 W1.heap.size (W1.alloc (.cells (thV fun _ => false) BT16)) :=
      ⟨⟨kind, A, n, c, dup, s, h1.below hal h1.lt, h2.chg (Chg.of_below (S := NoM) hal) (fun _ _ _ h => h), h3, h5⟩, Blk.new _ _ _, S1.out.hb.trans (hal.mono hsz), ⟨S1.out.ht.1, S1.out.ht.2.1, S1.out.ht.2.2, hsz⟩⟩
    exact ⟨W1.heap.size, rfl, e6, HM0.out⟩
  rintro W2 ⟨b5, hb5, hW2, hMM⟩
  rw [← hb5]
  have S2 := Lib.hid hW2
  have HMM := Lib.hid hMM
  clear hW2 S1 hb5 hMM
  go_loopw [6, 7] (fun z i wr => ∃ (j : Nat) (th : Nat → Bool) (L : List Txt), j ≤ l.length ∧ i = .int .i64 j ∧ z = .int .i64 L.length ∧ Sp.BkI th L ∧ BkS w M t f m d fv th L b0 b5 wr) (fun _ i _ => l.length - (intOf i).toNat)
  case atStart => exact ⟨0, fun _ => false, [], Nat.zero_le _, rfl, rfl, Sp.BkI.zero, S2.out⟩
  case round =>
    obtain ⟨j, th, L, hj, rfl, rfl, hbi, hs⟩ := hrel
    have S := Lib.hid hs
    have BI := Lib.hid hbi
    clear hs S2 hbi
    by_cases hjl : j < l.length
    · obtain ⟨b, off, rfl, hbl, hcl⟩ := hU.at_ hjl
      have hcell := (S.out.hb.cell (p := ⟨b, off + j, none⟩) hbl).trans (hcl j hjl)
      have hx : l.getD j 0 < 256 := hlb _ (by rw [List.getD_eq_getElem?_getD, List.getElem?_eq_getElem hjl]; exact List.getElem_mem hjl)
      clear hcl hbl
      have hx0 : 0 ≤ ((l.getD j 0 : Nat) : Int) ∧ ((l.getD j 0 : Nat) : Int) < 256 := by omega
      clear hx
      generalize ((l.getD j 0 : Nat) : Int) = x at *
      obtain ⟨hx1, hx2⟩ := hx0
      obtain ⟨q, hqe⟩ : ∃ q : Nat, x % 16 = (q : Int) := ⟨(x % 16).toNat, by omega⟩
      have hq16 : q < 16 := by omega
      have hcv := fun w => conv1k w (97 + (q : Int))
      have hcc : UInt8.ofNat (97 + (q : Int)).toNat = UInt8.ofNat (97 + q) := by congr 1
      rw [hcc] at hcv
      obtain ⟨ch, hch⟩ : ∃ ch, ch = UInt8.ofNat (97 + q) := ⟨_, rfl⟩
      rw [← hch] at hcv
      have HBV := Lib.hid (show [ch] = Sp.bV q from by rw [hch]; rfl)
      clear hch hcc
      obtain ⟨kind, A1, n1, c1, dup, s, hxb, hI, hD, hst⟩ := S.out.ex
      have HX := Lib.hid hxb
      go_upto_region 15 with fail
      go_upto_block 2 with (first
        | (refine wpList_row ItemT _ rfl b0 rfl rfl ItemT _ (0, 0) _ (HX.out.alloc _) Tryz.underlying90 rfl rfl ?_)
        | (refine wpList_new ItemT _ _ rfl rfl rfl rfl rfl rfl _ rfl (of_decide_eq_true (by kernel_rfl)) (by kernel_rfl) (by kernel_rfl) (by kernel_rfl) ?_))
      simp only [Act.put, List.setIfInBounds_toArray, List.set_cons_succ, List.set_cons_zero, World.size_alloc]
      have HY0 := Lib.hid (YkS.new_ S.out hxb hI hD hst ((Below.refl wr.heap.size wr).alloc (Nat.le_refl _) (.cells #[.int .u8 (97 + (q : Int))] 5)) (itA [107] kind A1 n1 c1 dup))
      have hcw : b < wr.heap.size := cell_lt' hcell
      refine wp_gen (fun W => YkS w M t f m d fv th L b0 b5 (wr.heap.size + 1) kind A1 n1 dup s (itA [107] kind A1 n1 c1 dup) (itA [107] kind A1 n1 c1 dup) W ∧ W.cell? ⟨b, off + j, none⟩ = some (.int .u8 x)) ⟨by have := HY0.out; rw [World.size_alloc] at this; exact this, ?_⟩ ?_
      · exact ((((Below.refl wr.heap.size wr).alloc (Nat.le_refl _) _).alloc (by rw [World.size_alloc]; omega) _).cell (p := ⟨b, off + j, none⟩) hcw).trans hcell
      rintro w3' ⟨hY, hcell3⟩
      have Y3 := Lib.hid hY
      clear hY HY0 HX hxb hI hD hst hcell hcv hcw
      obtain ⟨b6, hb6⟩ : ∃ b6, b6 = wr.heap.size + 1 := ⟨_, rfl⟩
      rw [← hb6] at Y3 ⊢
      clear hb6
      have hLb := BI.out.len
      have HASQ := Lib.hid (BI.out.has hq16)
      go_cut [6, 10, 11] (fun z e y W => ∃ (th : Nat → Bool) (L : List Txt), z = .int .i64 L.length ∧ Sp.BkI th L ∧ BkS w M t f m d fv th L b0 b5 W)
      case first =>
        as_aux_lemma =>
          by_cases hy1 : x / 16 % 2 = 1
          · by_cases hl0 : L = []
            · have hLz : (L.length : Int) = 0 := by rw [hl0]; rfl
              go_wp2_with fail
              go_roundw
              case rel => exact ⟨j + 1, th, L, by omega, by go_num, rfl, BI.out, Y3.out.done HMM.out⟩
              case measure => simp [intOf]; omega
            · have hLz : ¬ (L.length : Int) = 0 := by
                have : L.length ≠ 0 := fun e => hl0 (List.eq_nil_of_length_eq_zero e)
                omega
              rcases ht : th q with _ | _
              · as_aux_lemma =>
                  rw [ht] at HASQ
                  have HTK := Lib.hid (take_none _ t f m d fv Sp.eV s [107] L kind A1 n1 c1 dup (Sp.bV q) w3' Y3.out.st Y3.out.du Y3.out.it hl0 (by omega) HASQ.out)
                  rw [← HBV.out] at HTK
                  go_upto_region 25 with (first
                                  | (refine wpList_row ItemT _ rfl b0 rfl rfl ItemT _ (0, 0) _ Y3.out.bx Tryz.underlying90 rfl rfl ?_)
                                  | (go_at_call 52; refine HTK.out.mono ?_; rintro e w5 ⟨rfl, hst5, hk5⟩; have Y5 := Lib.hid (Y3.out.turn (Y3.out.it.chg hk5 (Y3.out.st.not_kind (by decide))) Y3.out.du hst5 hk5); clear hst5 hk5; simp only [erO])
                                  | (refine wpList_store_row rfl ItemT _ _ rfl b6 _ rfl rfl ItemT _ Y5.out.bY (by kernel_rfl) rfl (itA_all _ _ _ _ _ _) ?_))
                  refine wp_gen _ (Y5.out.setY (itA [107] kind A1 n1 c1 dup)) ?_
                  intro w6 hw6
                  have Y6 := Lib.hid hw6
                  clear hw6 Y5
                  have c5 : w6.cell? ⟨b5, q, none⟩ = some (.bool (th q)) := (Y6.out.bt.cell q).trans (thV_at th hq16)
                  rw [ht] at c5
                  have hz5 : b5 < w6.heap.size := Y6.out.bt.lt
                  refine wp_region_after (by kernel_rfl) (by kernel_rfl) w6.heap.size ?_
                  repeat (first
                    | go_big_quiet_skip
                    | (go_big_quiet_step (first | (go_at_call 26; exact after_call (Nat.le_refl _) ((errIs_same 21 _).mono fun _ _ h => ⟨h.1, h.2 ▸ Below.refl _ _⟩)))))
                  refine wpQuiet_nil ?_
                  intro w7 hb7
                  have Y7 := Lib.hid (Y6.out.go hb7)
                  clear hb7 c5
                  go_wp2_with fail
                  go_meet
                  case rel => exact ⟨th, L, rfl, BI.out, Y7.out.done HMM.out⟩
              · as_aux_lemma =>
                  rw [ht] at HASQ
                  have HTK := Lib.hid (take_ok _ t f m d fv Sp.eV s [107] L kind A1 n1 c1 dup (Sp.bV q) w3' Y3.out.st (by decide) Y3.out.du Y3.out.it hl0 (by omega) BI.out.srt HASQ.out)
                  have HER := Lib.hid (BI.out.era hq16 ht)
                  have hel : (L.eraseIdx (Sp.plc L (Sp.bV q))).length = L.length - 1 := by rw [List.length_eraseIdx, if_pos (Sp.plc_has HASQ.out).1]
                  rw [← HBV.out] at HTK HER hel
                  go_upto_region 25 with (first
                                  | (refine wpList_row ItemT _ rfl b0 rfl rfl ItemT _ (0, 0) _ Y3.out.bx Tryz.underlying90 rfl rfl ?_)
                                  | (go_at_call 52; refine HTK.out.mono ?_; rintro e w5 ⟨x5, rfl, ⟨kind', A', n', c', dup', s', rfl, hI', hD', hst'⟩, hk5⟩; have Y5 := Lib.hid (Y3.out.turn hI' hD' hst' hk5); clear hI' hD' hst' hk5; simp only [erO])
                                  | (refine wpList_store_row rfl ItemT _ _ rfl b6 _ rfl rfl ItemT _ Y5.out.bY (by kernel_rfl) rfl (itA_all _ _ _ _ _ _) ?_))
                  refine wp_gen _ (Y5.out.setY (itA [107] kind' A' n' c' dup')) ?_
                  intro w6 hw6
                  have Y6 := Lib.hid hw6
                  clear hw6 Y5
                  have c5 : w6.cell? ⟨b5, q, none⟩ = some (.bool (th q)) := (Y6.out.bt.cell q).trans (thV_at th hq16)
                  rw [ht] at c5
                  go_quiet (fail)
                  have Y7 := Lib.hid (Y6.out.go (below_drewN (Below.refl w6.heap.size w6) nq))
                  generalize w6.drewN nq = w7 at *
                  go_wp2_with (first
                    | (refine wpList_row ItemT _ rfl b6 rfl rfl ItemT _ (0, 0) _ Y7.out.bY Tryz.underlying90 rfl rfl ?_)
                    | (refine wpList_store_row rfl ItemT _ _ rfl b0 _ rfl rfl ItemT _ Y7.out.bx (by kernel_rfl) rfl (itA_all _ _ _ _ _ _) ?_; have Y8 := Lib.hid (Y7.out.setX (itA [107] kind' A' n' c' dup')); have f58 := Y8.out.bt.frozen q; have c58 := (Y8.out.bt.cell q).trans (thV_at th hq16)))
                  go_meet
                  case rel => exact ⟨Sp.updB th q false, _, by rw [hel]; congr 1; omega, HER.out, (Y8.out.mark q false).done HMM.out⟩
          · have hy0 : x / 16 % 2 = 0 := by omega
            rcases ht : th q with _ | _
            · as_aux_lemma =>
                rw [ht] at HASQ
                by_cases hl12 : L.length < 12
                · have hl12i : (L.length : Int) < 12 := by omega
                  have HTK := Lib.hid (add_ok _ t f m d fv Sp.eV s [107] L kind A1 n1 c1 dup (Sp.bV q) w3' Y3.out.st (by decide) Y3.out.du Y3.out.it BI.out.srt hl12 ⟨by simp [Sp.bV], by simp [Sp.bV]⟩ HASQ.out)
                  have HER := Lib.hid (BI.out.add hq16 ht hl12)
                  have hel : (Sp.insT (Sp.bV q) L).length = L.length + 1 := Sp.insT_len _ _
                  rw [← HBV.out] at HTK HER hel
                  go_upto_region 17 with (first
                                  | (refine wpList_row ItemT _ rfl b0 rfl rfl ItemT _ (0, 0) _ Y3.out.bx Tryz.underlying90 rfl rfl ?_)
                                  | (go_at_call 50; refine HTK.out.mono ?_; rintro e w5 ⟨x5, rfl, ⟨kind', A', n', c', dup', s', rfl, hI', hD', hst'⟩, hk5⟩; have Y5 := Lib.hid (Y3.out.turn hI' hD' hst' hk5); clear hI' hD' hst' hk5; simp only [erO])
                                  | (refine wpList_store_row rfl ItemT _ _ rfl b6 _ rfl rfl ItemT _ Y5.out.bY (by kernel_rfl) rfl (itA_all _ _ _ _ _ _) ?_))
                  refine wp_gen _ (Y5.out.setY (itA [107] kind' A' n' c' dup')) ?_
                  intro w6 hw6
                  have Y6 := Lib.hid hw6
                  clear hw6 Y5
                  have c5 : w6.cell? ⟨b5, q, none⟩ = some (.bool (th q)) := (Y6.out.bt.cell q).trans (thV_at th hq16)
                  rw [ht] at c5
                  go_quiet (fail)
                  have Y7 := Lib.hid (Y6.out.go (below_drewN (Below.refl w6.heap.size w6) nq))
                  generalize w6.drewN nq = w7 at *
                  go_wp2_with (first
                    | (refine wpList_row ItemT _ rfl b6 rfl rfl ItemT _ (0, 0) _ Y7.out.bY Tryz.underlying90 rfl rfl ?_)
                    | (refine wpList_store_row rfl ItemT _ _ rfl b0 _ rfl rfl ItemT _ Y7.out.bx (by kernel_rfl) rfl (itA_all _ _ _ _ _ _) ?_; have Y8 := Lib.hid (Y7.out.setX (itA [107] kind' A' n' c' dup')); have f58 := Y8.out.bt.frozen q; have c58 := (Y8.out.bt.cell q).trans (thV_at th hq16)))
                  go_meet
                  case rel => exact ⟨Sp.updB th q true, _, by rw [hel]; rfl, HER.out, (Y8.out.mark q true).done HMM.out⟩
                · have hl0 : L ≠ [] := fun e => by rw [e] at hl12; simp at hl12
                  have HTK := Lib.hid (add_full _ t f m d fv Sp.eV s [107] L kind A1 n1 c1 dup (Sp.bV q) w3' Y3.out.st Y3.out.du Y3.out.it hl0 (by omega) ⟨by simp [Sp.bV], by simp [Sp.bV]⟩ (by omega) HASQ.out)
                  rw [← HBV.out] at HTK
                  go_upto_region 17 with (first
                                  | (refine wpList_row ItemT _ rfl b0 rfl rfl ItemT _ (0, 0) _ Y3.out.bx Tryz.underlying90 rfl rfl ?_)
                                  | (go_at_call 50; refine HTK.out.mono ?_; rintro e w5 ⟨rfl, hst5, hk5⟩; have Y5 := Lib.hid (Y3.out.turn (Y3.out.it.chg hk5 (Y3.out.st.not_kind (by decide))) Y3.out.du hst5 hk5); clear hst5 hk5; simp only [erO])
                                  | (refine wpList_store_row rfl ItemT _ _ rfl b6 _ rfl rfl ItemT _ Y5.out.bY (by kernel_rfl) rfl (itA_all _ _ _ _ _ _) ?_))
                  refine wp_gen _ (Y5.out.setY (itA [107] kind A1 n1 c1 dup)) ?_
                  intro w6 hw6
                  have Y6 := Lib.hid hw6
                  clear hw6 Y5
                  have c5 : w6.cell? ⟨b5, q, none⟩ = some (.bool (th q)) := (Y6.out.bt.cell q).trans (thV_at th hq16)
                  rw [ht] at c5
                  go_quiet (fail)
                  have Y7 := Lib.hid (Y6.out.go (below_drewN (Below.refl w6.heap.size w6) nq))
                  generalize w6.drewN nq = w7 at *
                  go_wp2_with fail
                  go_meet
                  case rel => exact ⟨th, L, rfl, BI.out, Y7.out.done HMM.out⟩
            · as_aux_lemma =>
                rw [ht] at HASQ
                have hl0 : L ≠ [] := fun e => by have := HASQ.out; rw [e] at this; cases this
                have HTK := Lib.hid (add_has _ t f m d fv Sp.eV s [107] L kind A1 n1 c1 dup (Sp.bV q) w3' Y3.out.st Y3.out.du Y3.out.it hl0 (by omega) ⟨by simp [Sp.bV], by simp [Sp.bV]⟩ HASQ.out)
                rw [← HBV.out] at HTK
                go_upto_region 17 with (first
                                | (refine wpList_row ItemT _ rfl b0 rfl rfl ItemT _ (0, 0) _ Y3.out.bx Tryz.underlying90 rfl rfl ?_)
                                | (go_at_call 50; refine HTK.out.mono ?_; rintro e w5 ⟨rfl, hst5, hk5⟩; have Y5 := Lib.hid (Y3.out.turn (Y3.out.it.chg hk5 (Y3.out.st.not_kind (by decide))) Y3.out.du hst5 hk5); clear hst5 hk5; simp only [erO])
                                | (refine wpList_store_row rfl ItemT _ _ rfl b6 _ rfl rfl ItemT _ Y5.out.bY (by kernel_rfl) rfl (itA_all _ _ _ _ _ _) ?_))
                refine wp_gen _ (Y5.out.setY (itA [107] kind A1 n1 c1 dup)) ?_
                intro w6 hw6
                have Y6 := Lib.hid hw6
                clear hw6 Y5
                have c5 : w6.cell? ⟨b5, q, none⟩ = some (.bool (th q)) := (Y6.out.bt.cell q).trans (thV_at th hq16)
                rw [ht] at c5
                go_quiet (fail)
                have Y7 := Lib.hid (Y6.out.go (below_drewN (Below.refl w6.heap.size w6) nq))
                generalize w6.drewN nq = w7 at *
                go_wp2_with fail
                go_meet
                case rel => exact ⟨th, L, rfl, BI.out, Y7.out.done HMM.out⟩
      case rest =>
        as_aux_lemma =>
          obtain ⟨th', L', rfl, hbi', hs'⟩ := hcut
          obtain ⟨W4, rfl⟩ : ∃ W, W = wc := ⟨_, rfl⟩
          have S4 := Lib.hid hs'
          have BI2 := Lib.hid hbi'
          obtain ⟨kind2, A2, n2, c2, dup2, s', hx2, hI2, hD2, hst2⟩ := hs'.ex
          have HX := Lib.hid hx2
          have HI := Lib.hid hI2
          have HD := Lib.hid hD2
          have HST := Lib.hid hst2
          have c6 : W4.cell? ⟨b0, 6, none⟩ = some (.int .i64 dup2) := hx2.cell 6
          have c1 : W4.cell? ⟨b0, 1, none⟩ = some (.int .i64 kind2) := hx2.cell 1
          have hk2 := hI2.nz
          have hk0 := hI2.z
          have hdp := hI2.dp
          clear hbi' hs' hx2 hI2 hD2 hst2 Y3 S BI HASQ
          by_cases hl0 : L' = []
          · obtain rfl := hk0 hl0
            have hd0 : dup2 = 0 := by rw [hdp, hl0]; rfl
            have hLz : (L'.length : Int) = 0 := by rw [hl0]; rfl
            have hLn : L'.length = 0 := by omega
            rw [hd0] at c6
            have HDL := Lib.hid (show s'.dirty.length = 0 from by rw [Sp.Sto.dirty_len, (HD.out.few (by omega)).1]; rfl)
            go_wp2_with (go_at_call 36; refine (stoDirty_any _ t f m d fv Sp.eV s' _ HST.out HD.out.ok).mono ?_; rintro e we ⟨rd, rfl, hod, hbe⟩; rw [HDL.out] at hod; obtain ⟨Ad, cd, rfl⟩ := own_slice hod; have c1e := (hbe.cell (p := ⟨b0, 1, none⟩) HX.out.lt).trans c1; have HBe := Lib.hid hbe; clear hod hbe)
            go_roundw
            case rel => exact ⟨j + 1, th', L', by omega, by go_num, by rw [hLz], BI2.out, S4.out.go HBe.out⟩
            case measure => simp [intOf]; omega
          · have hne : L' ≠ [] := hl0
            obtain rfl := hk2 hne
            have hLp : 0 < L'.length := by
              rcases Nat.eq_zero_or_pos L'.length with h | h
              · exact absurd (List.eq_nil_of_length_eq_zero h) hne
              · exact h
            have hl0i : ¬ (L'.length : Int) = 0 := by omega
            by_cases hl3 : L'.length ≤ 3
            · as_aux_lemma =>
                have hl3i : ¬ (3 : Int) < L'.length := by omega
                have hd0 : dup2 = 0 := by rw [hdp]; exact if_pos hl3
                rw [hd0] at c6
                clear hdp hd0
                have HDL := Lib.hid (show s'.dirty.length = 0 from by rw [Sp.Sto.dirty_len, (HD.out.few (by omega)).1]; rfl)
                go_upto_region 33 with (go_at_call 36; refine (stoDirty_any _ t f m d fv Sp.eV s' _ HST.out HD.out.ok).mono ?_; rintro e we ⟨rd, rfl, hod, hbe⟩; rw [HDL.out] at hod; obtain ⟨Ad, cd, rfl⟩ := own_slice hod; have c1e := (hbe.cell (p := ⟨b0, 1, none⟩) HX.out.lt).trans c1; have HBe := Lib.hid hbe; clear hod hbe)
                · exfalso
                  rename_i h
                  rcases h with h | h
                  · omega
                  · have := eq_of_beq h; omega
                have HXe := Lib.hid (HX.out.below HBe.out HX.out.lt)
                have HVC := Lib.hid (duVals_any _ t f m d fv Sp.eV s' [107] L' 3 A2 n2 c2 dup2 we (HST.out.go HBe.out) HD.out (HI.out.chg (Chg.of_below (S := NoM) HBe.out) (fun _ _ _ h => h)) hne (by have := BI2.out.len; omega))
                have S5 := Lib.hid (S4.out.go HBe.out)
                go_upto_region 37 with (first
                  | (refine wpList_row ItemT _ rfl b0 rfl rfl ItemT _ (0, 0) _ HXe.out Tryz.underlying90 rfl rfl ?_)
                  | (go_at_call 51; refine HVC.out.mono ?_; rintro e w9 ⟨A5, cA5, rfl, ho5, hb5⟩; have HO5 := Lib.hid (own_tk ho5 (by have := BI2.out.len; omega)); have HB5 := Lib.hid hb5; clear ho5 hb5))
                have S6 := Lib.hid (S5.out.go HB5.out)
                clear HX HXe HVC HST HI HD S4 S5 HB5 HBe HDL c6 c1
                go_loopw [14] (fun i wr => ∃ q : Nat, q ≤ L'.length ∧ i = .int .i64 q ∧ Below w9.heap.size w9 wr) (fun i _ => L'.length - (intOf i).toNat)
                case atStart => exact ⟨0, Nat.zero_le _, rfl, Below.refl _ _⟩
                case round =>
                  obtain ⟨q2, hq2, rfl, hb⟩ := hrel
                  have BW := Lib.hid hb
                  clear hb
                  by_cases hqm : q2 < L'.length
                  · obtain ⟨bb, ob, rfl, hbl, hcl⟩ := Txts.at_ HO5.out.tx hqm
                    obtain ⟨kk, hk16, hkt, hbe⟩ := (BI2.out.mem L'[q2]).1 (List.getElem_mem hqm)
                    have hgd : L'.getD q2 [] = Sp.bV kk := by rw [List.getD_eq_getElem?_getD, List.getElem?_eq_getElem hqm]; exact hbe
                    have x1 := (BW.out.cell (p := ⟨bb, ob + q2, none⟩) hbl).trans (hcl q2 hqm)
                    rw [hgd] at x1
                    obtain ⟨ch2, hch2⟩ : ∃ ch2 : UInt8, ch2 = UInt8.ofNat (97 + kk) := ⟨_, rfl⟩
                    have hbv2 : Sp.bV kk = [ch2] := by rw [hch2]; rfl
                    rw [hbv2] at x1
                    have hcn : ((ch2.toNat : Nat) : Int) = 97 + (kk : Int) := by rw [hch2, UInt8.toNat_ofNat']; omega
                    have ct : wr.cell? ⟨b5, kk, none⟩ = some (.bool true) := by
                      have := ((S6.out.bt.below BW.out S6.out.bt.lt).cell kk).trans (thV_at th' hk16)
                      rw [hkt] at this
                      exact this
                    by_cases h20 : q2 = 0
                    · as_aux_lemma =>
                        subst h20
                        rw [Nat.add_zero] at x1
                        clear hcl hbv2 hch2
                        go_upto_region 39 with fail
                        obtain ⟨z, hz⟩ : ∃ z : Int, (ch2.toNat : Int) = z := ⟨_, rfl⟩
                        have hix : ∀ h : 0 < (ByteArray.mk #[ch2]).size, ((((ByteArray.mk #[ch2])[0]'h).toNat : Nat) : Int) = z := fun _ => hz
                        have a3 : z - 97 = (kk : Int) := by omega
                        have a8 : IntKind.u8.wrap (kk : Int) = (kk : Int) := by simp [IntKind.wrap, IntKind.bits, IntKind.signed]; omega
                        have a9 : IntKind.i64.wrap (kk : Int) = (kk : Int) := by simp [IntKind.wrap, IntKind.bits, IntKind.signed]; omega
                        have a1 : ¬ z < 97 := by omega
                        have a2 : ¬ 112 < z := by omega
                        have a4 : ((kk : Nat) : Int).toNat = kk := by omega
                        have a6 : bb < wr.heap.size := cell_lt' x1
                        have a7 : b5 < wr.heap.size := cell_lt' ct
                        clear hcn
                        go_quiet (fail)
                        have B2 := Lib.hid (BW.out.trans ((below_drewN (Below.refl wr.heap.size wr) nq).mono BW.out.size))
                        go_wp2_with fail
                        go_roundw
                        case rel => exact ⟨1, by omega, by go_num, B2.out⟩
                        case measure => simp [intOf]; omega
                    · as_aux_lemma =>
                        have x0 := (BW.out.cell (p := ⟨bb, ob + (q2 - 1), none⟩) hbl).trans (hcl (q2 - 1) (by omega))
                        have hlt : Sp.lt (L'.getD (q2 - 1) []) [ch2] = true := by
                          have h1 : q2 - 1 < L'.length := by omega
                          have := List.pairwise_iff_getElem.1 BI2.out.srt.up (q2 - 1) q2 h1 hqm (by omega)
                          rw [hbe, hbv2] at this
                          simpa [List.getD, h1] using this
                        unfold Sp.lt at hlt
                        generalize L'.getD (q2 - 1) [] = y0 at *
                        obtain ⟨r, hr⟩ : ∃ r, r = q2 - 1 := ⟨_, rfl⟩
                        rw [← hr] at x0
                        clear hcl hbv2 hch2
                        go_upto_region 39 with fail
                        obtain ⟨z, hz⟩ : ∃ z : Int, (ch2.toNat : Int) = z := ⟨_, rfl⟩
                        have hix : ∀ h : 0 < (ByteArray.mk #[ch2]).size, ((((ByteArray.mk #[ch2])[0]'h).toNat : Nat) : Int) = z := fun _ => hz
                        have a3 : z - 97 = (kk : Int) := by omega
                        have a8 : IntKind.u8.wrap (kk : Int) = (kk : Int) := by simp [IntKind.wrap, IntKind.bits, IntKind.signed]; omega
                        have a9 : IntKind.i64.wrap (kk : Int) = (kk : Int) := by simp [IntKind.wrap, IntKind.bits, IntKind.signed]; omega
                        have a1 : ¬ z < 97 := by omega
                        have a2 : ¬ 112 < z := by omega
                        have a4 : ((kk : Nat) : Int).toNat = kk := by omega
                        have a6 : bb < wr.heap.size := cell_lt' x1
                        have a7 : b5 < wr.heap.size := cell_lt' ct
                        clear hcn
                        have b1 : 0 < q2 := by omega
                        have b2 : (q2 : Int) - 1 = (r : Int) := by omega
                        have b3 : r < L'.length := by omega
                        clear hr
                        go_quiet (fail)
                        have B2 := Lib.hid (BW.out.trans ((below_drewN (Below.refl wr.heap.size wr) nq).mono BW.out.size))
                        go_wp2_with fail
                        go_roundw
                        case rel => exact ⟨q2 + 1, by omega, by go_num, B2.out⟩
                        case measure => simp [intOf]; omega
                  · go_wp2_with fail
                    go_roundw
                    case rel => exact ⟨j + 1, th', L', by omega, by go_num, rfl, BI2.out, S6.out.go BW.out⟩
                    case measure => simp [intOf]; omega
            · as_aux_lemma =>
                have hl3i : (3 : Int) < L'.length := by omega
                have hd0 : dup2 = 2 := by rw [hdp]; exact if_neg hl3
                rw [hd0] at c6
                clear hdp hd0
                have HDL := Lib.hid (show s'.dirty.length = 1 from by rw [Sp.Sto.dirty_len, (HD.out.many (by omega)).1]; rfl)
                go_upto_region 33 with (go_at_call 36; refine (stoDirty_any _ t f m d fv Sp.eV s' _ HST.out HD.out.ok).mono ?_; rintro e we ⟨rd, rfl, hod, hbe⟩; rw [HDL.out] at hod; obtain ⟨Ad, cd, rfl⟩ := own_slice hod; have c1e := (hbe.cell (p := ⟨b0, 1, none⟩) HX.out.lt).trans c1; have HBe := Lib.hid hbe; clear hod hbe)
                have HXe := Lib.hid (HX.out.below HBe.out HX.out.lt)
                have HVC := Lib.hid (duVals_any _ t f m d fv Sp.eV s' [107] L' 3 A2 n2 c2 dup2 we (HST.out.go HBe.out) HD.out (HI.out.chg (Chg.of_below (S := NoM) HBe.out) (fun _ _ _ h => h)) hne (by have := BI2.out.len; omega))
                have S5 := Lib.hid (S4.out.go HBe.out)
                go_upto_region 37 with (first
                  | (refine wpList_row ItemT _ rfl b0 rfl rfl ItemT _ (0, 0) _ HXe.out Tryz.underlying90 rfl rfl ?_)
                  | (go_at_call 51; refine HVC.out.mono ?_; rintro e w9 ⟨A5, cA5, rfl, ho5, hb5⟩; have HO5 := Lib.hid (own_tk ho5 (by have := BI2.out.len; omega)); have HB5 := Lib.hid hb5; clear ho5 hb5))
                have S6 := Lib.hid (S5.out.go HB5.out)
                clear HX HXe HVC HST HI HD S4 S5 HB5 HBe HDL c6 c1
                go_loopw [14] (fun i wr => ∃ q : Nat, q ≤ L'.length ∧ i = .int .i64 q ∧ Below w9.heap.size w9 wr) (fun i _ => L'.length - (intOf i).toNat)
                case atStart => exact ⟨0, Nat.zero_le _, rfl, Below.refl _ _⟩
                case round =>
                  obtain ⟨q2, hq2, rfl, hb⟩ := hrel
                  have BW := Lib.hid hb
                  clear hb
                  by_cases hqm : q2 < L'.length
                  · obtain ⟨bb, ob, rfl, hbl, hcl⟩ := Txts.at_ HO5.out.tx hqm
                    obtain ⟨kk, hk16, hkt, hbe⟩ := (BI2.out.mem L'[q2]).1 (List.getElem_mem hqm)
                    have hgd : L'.getD q2 [] = Sp.bV kk := by rw [List.getD_eq_getElem?_getD, List.getElem?_eq_getElem hqm]; exact hbe
                    have x1 := (BW.out.cell (p := ⟨bb, ob + q2, none⟩) hbl).trans (hcl q2 hqm)
                    rw [hgd] at x1
                    obtain ⟨ch2, hch2⟩ : ∃ ch2 : UInt8, ch2 = UInt8.ofNat (97 + kk) := ⟨_, rfl⟩
                    have hbv2 : Sp.bV kk = [ch2] := by rw [hch2]; rfl
                    rw [hbv2] at x1
                    have hcn : ((ch2.toNat : Nat) : Int) = 97 + (kk : Int) := by rw [hch2, UInt8.toNat_ofNat']; omega
                    have ct : wr.cell? ⟨b5, kk, none⟩ = some (.bool true) := by
                      have := ((S6.out.bt.below BW.out S6.out.bt.lt).cell kk).trans (thV_at th' hk16)
                      rw [hkt] at this
                      exact this
                    by_cases h20 : q2 = 0
                    · as_aux_lemma =>
                        subst h20
                        rw [Nat.add_zero] at x1
                        clear hcl hbv2 hch2
                        go_upto_region 39 with fail
                        obtain ⟨z, hz⟩ : ∃ z : Int, (ch2.toNat : Int) = z := ⟨_, rfl⟩
                        have hix : ∀ h : 0 < (ByteArray.mk #[ch2]).size, ((((ByteArray.mk #[ch2])[0]'h).toNat : Nat) : Int) = z := fun _ => hz
                        have a3 : z - 97 = (kk : Int) := by omega
                        have a8 : IntKind.u8.wrap (kk : Int) = (kk : Int) := by simp [IntKind.wrap, IntKind.bits, IntKind.signed]; omega
                        have a9 : IntKind.i64.wrap (kk : Int) = (kk : Int) := by simp [IntKind.wrap, IntKind.bits, IntKind.signed]; omega
                        have a1 : ¬ z < 97 := by omega
                        have a2 : ¬ 112 < z := by omega
                        have a4 : ((kk : Nat) : Int).toNat = kk := by omega
                        have a6 : bb < wr.heap.size := cell_lt' x1
                        have a7 : b5 < wr.heap.size := cell_lt' ct
                        clear hcn
                        go_quiet (fail)
                        have B2 := Lib.hid (BW.out.trans ((below_drewN (Below.refl wr.heap.size wr) nq).mono BW.out.size))
                        go_wp2_with fail
                        go_roundw
                        case rel => exact ⟨1, by omega, by go_num, B2.out⟩
                        case measure => simp [intOf]; omega
                    · as_aux_lemma =>
                        have x0 := (BW.out.cell (p := ⟨bb, ob + (q2 - 1), none⟩) hbl).trans (hcl (q2 - 1) (by omega))
                        have hlt : Sp.lt (L'.getD (q2 - 1) []) [ch2] = true := by
                          have h1 : q2 - 1 < L'.length := by omega
                          have := List.pairwise_iff_getElem.1 BI2.out.srt.up (q2 - 1) q2 h1 hqm (by omega)
                          rw [hbe, hbv2] at this
                          simpa [List.getD, h1] using this
                        unfold Sp.lt at hlt
                        generalize L'.getD (q2 - 1) [] = y0 at *
                        obtain ⟨r, hr⟩ : ∃ r, r = q2 - 1 := ⟨_, rfl⟩
                        rw [← hr] at x0
                        clear hcl hbv2 hch2
                        go_upto_region 39 with fail
                        obtain ⟨z, hz⟩ : ∃ z : Int, (ch2.toNat : Int) = z := ⟨_, rfl⟩
                        have hix : ∀ h : 0 < (ByteArray.mk #[ch2]).size, ((((ByteArray.mk #[ch2])[0]'h).toNat : Nat) : Int) = z := fun _ => hz
                        have a3 : z - 97 = (kk : Int) := by omega
                        have a8 : IntKind.u8.wrap (kk : Int) = (kk : Int) := by simp [IntKind.wrap, IntKind.bits, IntKind.signed]; omega
                        have a9 : IntKind.i64.wrap (kk : Int) = (kk : Int) := by simp [IntKind.wrap, IntKind.bits, IntKind.signed]; omega
                        have a1 : ¬ z < 97 := by omega
                        have a2 : ¬ 112 < z := by omega
                        have a4 : ((kk : Nat) : Int).toNat = kk := by omega
                        have a6 : bb < wr.heap.size := cell_lt' x1
                        have a7 : b5 < wr.heap.size := cell_lt' ct
                        clear hcn
                        have b1 : 0 < q2 := by omega
                        have b2 : (q2 : Int) - 1 = (r : Int) := by omega
                        have b3 : r < L'.length := by omega
                        have b4 : q2 ≤ 12 := by have := BI2.out.len; omega
                        clear hr
                        go_quiet (fail)
                        have B2 := Lib.hid (BW.out.trans ((below_drewN (Below.refl wr.heap.size wr) nq).mono BW.out.size))
                        go_wp2_with fail
                        go_roundw
                        case rel => exact ⟨q2 + 1, by omega, by go_num, B2.out⟩
                        case measure => simp [intOf]; omega
                  · go_wp2_with fail
                    go_roundw
                    case rel => exact ⟨j + 1, th', L', by omega, by go_num, rfl, BI2.out, S6.out.go BW.out⟩
                    case measure => simp [intOf]; omega
    · go_wp2_with fail
      go_ret
      exact ⟨by simp, S.out.hb⟩
end Go.Proofs.YtkcfmjlcijhieaaGreat
