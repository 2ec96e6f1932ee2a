/- Many values of a key: the item in the law's hand; the known store of law 14. Values of an elder version: plain facts; two stores over one file; the law's bytes. -/
import Derived.Test.YtkcfmjlcijhieaaGreatQB15
import Derived.Test.YtkcfmjlcijhieaaGreatQB16
import Derived.Test.YtkcfmjlcijhieaaGreatQB24
import Derived.Test.YtkcfmjlcijhieaaGreatQPDElder06
import Derived.Test.YtkcfmjlcijhieaaGreatQPDElder07
set_option linter.unusedSimpArgs false
set_option linter.unusedVariables false
namespace Go.Proofs.YtkcfmjlcijhieaaGreat
open Go.RowKit
attribute [local go_sem low] mk_extract
attribute [local go_sem] After.cell After.frozen mk_extract_end ByteArray.mk_append_mk
/-- The law's item in its block, beside the store. -/
structure DxS (w : World) (M : Nat → Prop) (t f m d : Nat) (fv : Value) (k : Txt) (l : List Txt) (b0 : Nat) (W : World) : Prop where
  ex : ∃ kind A n c dup s, Blk W b0 ItemT (itA k kind A n c dup) ∧ DuI l kind A n dup W ∧ Sp.DuSt l s ∧ StAt W (fun k => M k ∨ k = b0) t f m d fv Sp.eV s
  hb : Below w.heap.size w W
  ht : w.heap.size ≤ t ∧ w.heap.size ≤ d ∧ w.heap.size ≤ b0
section
variable {w W W1 W2 : World} {M : Nat → Prop} {t f m d : Nat} {fv : Value} {k : Txt} {l l' : List Txt} {b0 : Nat}
theorem DxS.below (h : DxS w M t f m d fv k l b0 W) (hk : Chg (TwoM t d) W W1) : Below w.heap.size w W1 :=
  h.hb.trans (hk.below h.hb.size fun k hk' e => by
    have := h.ht
    rcases e with rfl | rfl <;> omega)
theorem DxS.same (h : DxS w M t f m d fv k l b0 W) {kind dup : Int} {A : Option Addr} {n c : Nat} {s : Sp.Sto} (hx : Blk W b0 ItemT (itA k kind A n c dup)) (hI : DuI l kind A n dup W) (hD : Sp.DuSt l s) (hs : StAt W (fun k => M k ∨ k = b0) t f m d fv Sp.eV s) (hk : Chg (TwoM t d) W W1) (hst : StAt W1 (fun k => M k ∨ k = b0) t f m d fv Sp.eV s) : DxS w M t f m d fv k l b0 W1 :=
  ⟨⟨kind, A, n, c, dup, s, hx.chg hk (hs.not_kind (by decide) _ _ hx), hI.chg hk (hs.not_kind (by decide)), hD, hst⟩, h.below hk, h.ht⟩
theorem DxS.go (h : DxS w M t f m d fv k l b0 W) (hb : Below W.heap.size W W1) : DxS w M t f m d fv k l b0 W1 := by
  obtain ⟨kind, A, n, c, dup, s, h1, h2, h3, h4⟩ := h.ex
  exact h.same h1 h2 h3 h4 (Chg.of_below hb) (h4.go hb)
theorem DxS.put (h : DxS w M t f m d fv k l b0 W) {kind dup : Int} {A : Option Addr} {n c : Nat} {s : Sp.Sto} {X : Array Value} (hx : Blk W1 b0 ItemT X) (hk : Chg (TwoM t d) W W1) (hI : DuI l' kind A n dup W1) (hD : Sp.DuSt l' s) (hst : StAt W1 (fun k => M k ∨ k = b0) t f m d fv Sp.eV s) : DxS w M t f m d fv k l' b0 (W1.setRow b0 (itA k kind A n c dup)) := by
  have hkr : Chg (OneM b0) W1 (W1.setRow b0 (itA k kind A n c dup)) := chg_setRowN (Chg.refl (OneM b0) W1) (.inl rfl) _
  exact ⟨⟨kind, A, n, c, dup, s, hx.row, hI.row hx, hD, hst.one hx (.inr rfl) hkr⟩, below_setRow (h.below hk) h.ht.2.2 _, h.ht⟩
theorem DxS.new_ {w1 w2 w3 : World} (h1 : Below w.heap.size w w1) (h2 : Below w1.heap.size w1 w2) (h3 : Below w2.heap.size w2 w3) (hst : StAt w3 M t f m d fv Sp.eV (Sp.Sto.new 2 400 [])) (ht : w2.heap.size ≤ t) (hd : w2.heap.size ≤ d) (k : Txt) : DxS w M t f m d fv k [] w3.heap.size (w3.alloc (.cells (itA k 0 none 0 0 0) ItemT)) := by
  have O := OvS.new_ h1 h2 h3 hst ht hd
  have hal : Below w3.heap.size w3 (w3.alloc (.cells (itA k 0 none 0 0 0) ItemT)) := (Below.refl _ _).alloc (Nat.le_refl _) _
  exact ⟨⟨0, none, 0, 0, 0, Sp.Sto.new 2 400 [], Blk.new _ _ _, DuI.nil, Sp.DuSt.zero, O.st.newMs hal fun k e => by subst e; exact ⟨Nat.le_refl _, by rw [World.size_alloc]; omega⟩⟩, O.hb.trans (hal.mono O.hb.size), ⟨O.ht.1, O.ht.2, O.hb.size⟩⟩
end
namespace Sp
def lK : Nat → List Txt
  | 0 => []
  | k + 1 => insT [UInt8.ofNat (100 - k)] (lK k)
theorem lK_four : lK 4 = [[97], [98], [99], [100]] := by decide +kernel
theorem lK_no : ∀ k, k < 4 → hasV (lK k) [UInt8.ofNat (100 - k)] = false := by decide +kernel
theorem lK_len : ∀ k, k ≤ 4 → (lK k).length = k
  | 0, _ => rfl
  | k + 1, h => by
    show (insT _ (lK k)).length = _
    rw [insT_len, lK_len k (by omega)]
theorem lK_srt : ∀ k, k ≤ 4 → SrtV (lK k)
  | 0, _ => SrtV.nil
  | k + 1, h => insT_srt (lK_srt k (by omega)) ⟨by simp, by simp⟩ (lK_no k (by omega))
theorem lK_has : hasV (lK 4) [97] = true := by decide +kernel
theorem lK_hasb : hasV (lK 4) [98] = true := by decide +kernel
theorem lK_era : (lK 4).eraseIdx (plc (lK 4) [98]) = [[97], [99], [100]] := by decide +kernel
theorem lK_nob : hasV [[97], [99], [100]] [98] = false := by decide +kernel
end Sp
theorem lit4 (W : World) : Txts (W.alloc (.cells #[.string ⟨#[97]⟩, .string ⟨#[98]⟩, .string ⟨#[99]⟩, .string ⟨#[100]⟩] StrT)) NoM (some ⟨W.heap.size, 0, none⟩) [[97], [98], [99], [100]] := by
  have hb := Blk.new W StrT #[.string ⟨#[97]⟩, .string ⟨#[98]⟩, .string ⟨#[99]⟩, .string ⟨#[100]⟩]
  refine ⟨by simp, .inr ⟨W.heap.size, 0, rfl, hb.lt, fun h => h, fun j v hv => ?_⟩⟩
  rw [Nat.zero_add]
  refine (hb.cell j).trans ?_
  rcases j with _ | _ | _ | _ | j
  · exact hv
  · exact hv
  · exact hv
  · exact hv
  · simp at hv
theorem conv1k (w : World) (x0 : Int) : (convert 22 9 (.slice (some ⟨w.heap.size, 0, none⟩) 1 1)).run Tryz.prog (w.alloc (.cells #[.int .u8 x0] 5)) =
    .ok (.string ⟨[UInt8.ofNat x0.toNat].toArray⟩) (w.alloc (.cells #[.int .u8 x0] 5)) :=
  run_convert_bytes_arg (P := Tryz.prog) _ 22 5 Tryz.underlying22 Tryz.underlying5 w.heap.size 0 1 1 [x0] rfl (by
      intro i hi
      have h : i = 0 := by omega
      subst h
      simp [go_sem]) 9 Tryz.underlying9
theorem add_ok (M : Nat → Prop) (t f m d : Nat) (fv : Value) (V : List Txt) (s : Sp.Sto) (k : Txt) (l : List Txt) (kind : Int) (A : Option Addr) (n c : Nat) (dup : Int) (v : Txt) (w : World) (h : StAt w M t f m d fv V s) (hV : V.length ≤ 400) (hd : Sp.DuSt l s) (hi : DuI l kind A n dup w) (hs : Sp.SrtV l) (h12 : l.length < 12) (hv : 1 ≤ v.length ∧ v.length ≤ 12) (hno : Sp.hasV l v = false) :
    Calls Tryz.prog 50 #[.pointer (some ⟨t, 0, none⟩), .agg (itA k kind A n c dup), .string ⟨v.toArray⟩] w fun e w' => ∃ x, e = .returned (.tuple #[x, .nilIface]) ∧ DuR M t f m d fv V k (Sp.insT v l) w' x ∧ Chg (TwoM t d) w w' := by
  by_cases hl : l = []
  · subst hl
    exact add_first M t f m d fv V s k kind A n c dup v w h hd hi hv
  · exact add_new M t f m d fv V s k l kind A n c dup v w h hV hd hi hs hl h12 hv hno
set_option maxRecDepth 100000 in
set_option maxHeartbeats 1600000 in
theorem known14_any (w : World) : Calls Tryz.prog 49 #[] w fun e w' => e = .returned (.bool true) ∧ Below w.heap.size w w' := by
  go_enter Tryz.func49, Tryz.ntmps49
  go_upto_region 4 with (first
    | (go_at_call 20; refine (fileNew_any Sp.eV w.heap.size 0 2 _ (eV_txts w) (by decide) (by decide) Sp.eV_sz).mono ?_; rintro e w2 ⟨f, fv, m, rfl, hf, _, _, _, hb2⟩; have HF := Lib.hid hf; have HB2 := Lib.hid hb2; clear hf hb2)
    | (go_at_call 28; refine (stoNew_any f m fv Sp.eV 2 400 (.slice none 0 0) [] _ HF.out (nil_ivO _)).mono ?_; rintro e w3 ⟨t, d, M, rfl, hst, hM, hb3, ht, hd⟩; have HST := Lib.hid hst; have HB3 := Lib.hid hb3; clear hst hM hb3))
  have S0 := Lib.hid (DxS.new_ ((Below.refl _ _).alloc (Nat.le_refl _) _) HB2.out HB3.out HST.out ht hd [107])
  clear HF HB2 HB3 HST ht hd
  go_upto_region 5 with (refine wpList_new ItemT _ _ rfl rfl rfl rfl rfl rfl _ rfl (of_decide_eq_true (by kernel_rfl)) (by kernel_rfl) (by kernel_rfl) (by kernel_rfl) ?_)
  obtain ⟨b0, hb0⟩ : ∃ b, b = w3.heap.size := ⟨_, rfl⟩
  rw [← hb0] at S0 ⊢
  refine wp_gen _ S0.out ?_
  intro W1 hW1
  have S1 := Lib.hid hW1
  have S0t := Lib.hid (show w.heap.size ≤ t ∧ w.heap.size ≤ d from ⟨hW1.ht.1, hW1.ht.2.1⟩)
  clear hW1 S0 hb0
  go_wp2_with fail
  go_loopw [3] (fun i wr => ∃ j : Nat, j ≤ 4 ∧ i = .int .i64 j ∧ DxS w M t f m d fv [107] (Sp.lK j) b0 wr) (fun i _ => 4 - (intOf i).toNat)
  case atStart => exact ⟨0, by omega, rfl, S1.out⟩
  case round =>
    obtain ⟨j, hj, rfl, hs⟩ := hrel
    have S := Lib.hid hs
    clear hs S1
    by_cases hj4 : j < 4
    · have hno := Sp.lK_no j hj4
      have hlen := Sp.lK_len j hj
      have HEQ := Lib.hid (show Sp.lK (j + 1) = Sp.insT [UInt8.ofNat (100 - j)] (Sp.lK j) from rfl)
      have hcv := fun w => conv1k w (100 - (j : Int))
      have hcc : UInt8.ofNat (100 - (j : Int)).toNat = UInt8.ofNat (100 - j) := by congr 1; omega
      rw [hcc] at hcv
      obtain ⟨kind, A, n, c, dup, s, hx, hI, hD, hst⟩ := S.out.ex
      have HX := Lib.hid hx
      have HAD := Lib.hid (fun (W : World) (hb : Below wr.heap.size wr W) => add_ok _ t f m d fv Sp.eV s [107] (Sp.lK j) kind A n c dup [UInt8.ofNat (100 - j)] W (hst.go hb) (by decide) hD (hI.chg (S := NoM) (Chg.of_below hb) (fun _ _ _ h => h)) (Sp.lK_srt j hj) (by omega) ⟨by simp, by simp⟩ hno)
      have HNK := Lib.hid (hst.not_kind (ty := ItemT) (by decide))
      clear hx hI hD hst hno hlen
      rw [← HEQ.out] at HAD
      obtain ⟨l1, hl1⟩ : ∃ l1, l1 = Sp.lK (j + 1) := ⟨_, rfl⟩
      rw [← hl1] at HAD
      have HL1 := Lib.hid hl1
      clear HEQ hl1
      generalize UInt8.ofNat (100 - j) = ch at *
      go_upto_region 11 with (first
        | (refine wpList_row ItemT _ rfl b0 rfl rfl ItemT _ (0, 0) _ HX.out Tryz.underlying90 rfl rfl ?_)
        | (go_at_call 50; refine (HAD.out _ ((Below.refl _ _).alloc (Nat.le_refl _) _)).mono ?_; rintro e w5 ⟨x5, rfl, ⟨kind', A', n', c', dup', s', rfl, hI', hD', hst'⟩, hk5⟩; have K5 := Lib.hid ((Chg.of_below (S := TwoM t d) ((Below.refl wr.heap.size wr).alloc (Nat.le_refl _) _)).trans hk5); have HI := Lib.hid hI'; have HD := Lib.hid hD'; have HST := Lib.hid hst'; clear hI' hD' hst' hk5)
        | (refine wpList_new ItemT _ _ rfl rfl rfl rfl rfl rfl _ rfl (of_decide_eq_true (by kernel_rfl)) (by kernel_rfl) (by kernel_rfl) (by kernel_rfl) ?_))
      refine wp_gen (fun W => Below w5.heap.size w5 W ∧ Blk W w5.heap.size ItemT (itA [107] kind' A' n' c' dup')) ⟨(Below.refl _ _).alloc (Nat.le_refl _) _, Blk.new _ _ _⟩ ?_
      rintro w6 ⟨hb6, hy6⟩
      have HB6 := Lib.hid hb6
      have HY := Lib.hid hy6
      have HX5 := Lib.hid (HX.out.chg K5.out (HNK.out _ _ HX.out))
      have HX6 := Lib.hid (HX5.out.below hb6 HX5.out.lt)
      clear hb6 hy6 HX HX5 HNK HAD hcv
      go_wp2_with (first
        | (refine wpList_row ItemT _ rfl w5.heap.size rfl rfl ItemT _ (0, 0) _ HY.out Tryz.underlying90 rfl rfl ?_)
        | (refine wpList_store_row rfl ItemT _ _ rfl b0 _ rfl rfl ItemT _ HX6.out (by kernel_rfl) rfl (itA_all _ _ _ _ _ _) ?_))
      go_roundw
      case rel => exact ⟨j + 1, by omega, by go_num, by rw [← HL1.out]; exact S.out.put HX6.out (K5.out.trans (Chg.of_below HB6.out)) (HI.out.chg (Chg.of_below (S := NoM) HB6.out) (fun _ _ _ h => h)) HD.out (HST.out.go HB6.out)⟩
      case measure => simp [intOf]; omega
    · obtain rfl : j = 4 := by omega
      have hlen := Sp.lK_len 4 (by omega)
      have hsrt := Sp.lK_srt 4 (by omega)
      have hne : Sp.lK 4 ≠ [] := fun e => by rw [e] at hlen; simp at hlen
      obtain ⟨kind, A, n, c, dup, s, hx, hI, hD, hst⟩ := S.out.ex
      obtain ⟨L, hL⟩ : ∃ L, L = Sp.lK 4 := ⟨_, rfl⟩
      have hLf : L = [[97], [98], [99], [100]] := hL.trans Sp.lK_four
      have hha : Sp.hasV L [97] = true := by rw [hL]; exact Sp.lK_has
      have hhb : Sp.hasV L [98] = true := by rw [hL]; exact Sp.lK_hasb
      have her : L.eraseIdx (Sp.plc L [98]) = [[97], [99], [100]] := by rw [hL]; exact Sp.lK_era
      rw [← hL] at hI hD hlen hsrt hne S
      obtain rfl := hI.nz hne
      obtain rfl := hI.dp
      have hdp : Sp.duP L = 2 := by unfold Sp.duP; rw [if_neg (by omega)]
      have HX := Lib.hid hx
      have HI := Lib.hid hI
      have HST := Lib.hid hst
      have HD := Lib.hid hD
      have HLN := Lib.hid hlen
      have HLF := Lib.hid hLf
      have HER := Lib.hid her
      have HHA := Lib.hid hha
      have HHB := Lib.hid hhb
      have HSR := Lib.hid hsrt
      have HNE := Lib.hid hne
      have HDP := Lib.hid hdp
      clear hx hI hst hD hlen hLf her hha hhb hsrt hne hdp hL
      have HVC := Lib.hid (duVals_any _ t f m d fv Sp.eV s [107] L 3 A n c (Sp.duP L) wr HST.out HD.out HI.out HNE.out (by rw [HLN.out]; decide))
      go_upto_region 13 with (first
        | (refine wpList_row ItemT _ rfl b0 rfl rfl ItemT _ (0, 0) _ HX.out Tryz.underlying90 rfl rfl ?_)
        | (go_at_call 51; refine HVC.out.mono ?_; rintro e w5 ⟨A5, cA5, rfl, ho5, hb5⟩; have HO5 := Lib.hid (own_tk ho5 (by rw [HLN.out]; decide)); have HB5 := Lib.hid hb5; clear ho5 hb5))
      have HX5 := Lib.hid (HX.out.below HB5.out HX.out.lt)
      have HI5 := Lib.hid (HI.out.chg (Chg.of_below (S := NoM) HB5.out) (fun _ _ _ h => h))
      have HST5 := Lib.hid (HST.out.go HB5.out)
      have S5 := Lib.hid (S.out.go HB5.out)
      clear HX HI HST S HVC HB5
      have HAC := Lib.hid (add_has _ t f m d fv Sp.eV s [107] L 3 A n c (Sp.duP L) [97] w5 HST5.out HD.out HI5.out HNE.out (by rw [HLN.out]; decide) (by decide) HHA.out)
      go_upto_region 14 with (first
        | (refine wpList_row ItemT _ rfl b0 rfl rfl ItemT _ (0, 0) _ HX5.out Tryz.underlying90 rfl rfl ?_)
        | (go_at_call 50; refine HAC.out.mono ?_; rintro e w6 ⟨rfl, hst6, hk6⟩; have HST6 := Lib.hid hst6; have HK6 := Lib.hid hk6; clear hst6 hk6; simp only [erO])
        | (refine wpList_new ItemT _ _ rfl rfl rfl rfl rfl rfl _ rfl (of_decide_eq_true (by kernel_rfl)) (by kernel_rfl) (by kernel_rfl) (by kernel_rfl) ?_))
      have K7 := Lib.hid (fun cs => HK6.out.trans (Chg.of_below (S := TwoM t d) (((Below.refl w6.heap.size w6).alloc (Nat.le_refl _) (.cells cs ItemT) : Below w6.heap.size w6 (w6.alloc (.cells cs ItemT))))))
      refine wp_gen (fun W => Blk W b0 ItemT (itA [107] 3 A n c (Sp.duP L)) ∧ DuI L 3 A n (Sp.duP L) W ∧ StAt W (fun k => M k ∨ k = b0) t f m d fv Sp.eV s ∧ Below w.heap.size w W ∧ TxK W A5 L)
        ⟨HX5.out.chg (K7.out _) (HST5.out.not_kind (by decide) _ _ HX5.out), HI5.out.chg (K7.out _) (HST5.out.not_kind (by decide)), HST6.out.go ((Below.refl _ _).alloc (Nat.le_refl _) _), S5.out.below (K7.out _), HO5.out.chg (K7.out _) (HST5.out.not_kind (by decide))⟩ ?_
      rintro w7 ⟨hx, hI, hst, hsb, hto⟩
      have HX7 := Lib.hid hx
      have HI7 := Lib.hid hI
      have HST7 := Lib.hid hst
      have SB7 := Lib.hid hsb
      have HO7 := Lib.hid hto
      clear hx hI hst hsb hto K7 HX5 HI5 HST5 S5 HO5 HST6 HK6 HAC
      have HTC := Lib.hid (take_more _ t f m d fv Sp.eV s [107] L 3 A n c (Sp.duP L) [98] w7 HST7.out (by decide) HD.out HI7.out HNE.out (by rw [HLN.out]; decide) HSR.out (by rw [HLN.out]; decide) HHB.out)
      rw [HER.out] at HTC
      have hbt : w.heap.size ≤ t ∧ w.heap.size ≤ d := ⟨S0t.out.1, S0t.out.2⟩
      go_upto_region 15 with (first
        | (refine wpList_row ItemT _ rfl b0 rfl rfl ItemT _ (0, 0) _ HX7.out Tryz.underlying90 rfl rfl ?_)
        | (go_at_call 52; refine HTC.out.mono ?_; rintro e w8 ⟨x8, rfl, ⟨kind', A', n', c', dup', s', rfl, hI', hD', hst'⟩, hk8⟩; have HK8 := Lib.hid hk8; have HI8 := Lib.hid hI'; have HD8 := Lib.hid hD'; have HST8 := Lib.hid hst'; clear hI' hD' hst' hk8)
        | (refine wpList_new ItemT _ _ rfl rfl rfl rfl rfl rfl _ rfl (of_decide_eq_true (by kernel_rfl)) (by kernel_rfl) (by kernel_rfl) (by kernel_rfl) ?_))
      obtain rfl := HI8.out.nz (by simp)
      obtain rfl := HI8.out.dp
      obtain ⟨rfl, _⟩ := HI8.out.few (by simp)
      have hd3 : Sp.duP [[97], [99], [100]] = 0 := rfl
      rw [hd3] at HI8 ⊢
      have K9 := Lib.hid (fun cs => HK8.out.trans (Chg.of_below (S := TwoM t d) (((Below.refl w8.heap.size w8).alloc (Nat.le_refl _) (.cells cs ItemT) : Below w8.heap.size w8 (w8.alloc (.cells cs ItemT))))))
      refine wp_gen (fun W => Blk W b0 ItemT (itA [107] 3 A n c (Sp.duP L)) ∧ Blk W w8.heap.size ItemT (itA [107] 3 A' 3 c' 0) ∧ DuI [[97], [99], [100]] 3 A' 3 0 W ∧ StAt W (fun k => M k ∨ k = b0) t f m d fv Sp.eV s' ∧ Below w.heap.size w W ∧ TxK W A5 L)
        ⟨HX7.out.chg (K9.out _) (HST7.out.not_kind (by decide) _ _ HX7.out), Blk.new _ _ _, HI8.out.chg (Chg.of_below (S := NoM) ((Below.refl _ _).alloc (Nat.le_refl _) _)) (fun _ _ _ h => h), HST8.out.go ((Below.refl _ _).alloc (Nat.le_refl _) _), SB7.out.trans ((K9.out _).below SB7.out.size fun k hk' e => by rcases e with rfl | rfl <;> omega), HO7.out.chg (K9.out _) (HST7.out.not_kind (by decide))⟩ ?_
      rintro w9 ⟨hx, hy, hI, hst, hsb, hto⟩
      have HX9 := Lib.hid hx
      have HY9 := Lib.hid hy
      have HI9 := Lib.hid hI
      have HST9 := Lib.hid hst
      have SB9 := Lib.hid hsb
      have HO9 := Lib.hid hto
      clear hx hy hI hst hsb hto K9 HX7 HI7 HST7 SB7 HO7 HST8 HK8 HTC HI8 HD HHA HHB HSR HER
      have HTN := Lib.hid (take_none _ t f m d fv Sp.eV s' [107] [[97], [99], [100]] 3 A' 3 c' 0 [98] w9 HST9.out HD8.out HI9.out (by simp) (by simp) Sp.lK_nob)
      go_upto_region 16 with (first
        | (refine wpList_row ItemT _ rfl w8.heap.size rfl rfl ItemT _ (0, 0) _ HY9.out Tryz.underlying90 rfl rfl ?_)
        | (go_at_call 52; refine HTN.out.mono ?_; rintro e wa ⟨rfl, hsta, hka⟩; have HSTa := Lib.hid hsta; have HKa := Lib.hid hka; clear hsta hka; simp only [erO])
        | (refine wpList_new ItemT _ _ rfl rfl rfl rfl rfl rfl _ rfl (of_decide_eq_true (by kernel_rfl)) (by kernel_rfl) (by kernel_rfl) (by kernel_rfl) ?_))
      have Kb := Lib.hid (fun cs => HKa.out.trans (Chg.of_below (S := TwoM t d) (((Below.refl wa.heap.size wa).alloc (Nat.le_refl _) (.cells cs ItemT) : Below wa.heap.size wa (wa.alloc (.cells cs ItemT))))))
      refine wp_gen (fun W => Blk W b0 ItemT (itA [107] 3 A n c (Sp.duP L)) ∧ Blk W w8.heap.size ItemT (itA [107] 3 A' 3 c' 0) ∧ StAt W (fun k => M k ∨ k = b0) t f m d fv Sp.eV s' ∧ Below w.heap.size w W ∧ TxK W A5 L)
        ⟨HX9.out.chg (Kb.out _) (HST9.out.not_kind (by decide) _ _ HX9.out), HY9.out.chg (Kb.out _) (HST9.out.not_kind (by decide) _ _ HY9.out), HSTa.out.go ((Below.refl _ _).alloc (Nat.le_refl _) _), SB9.out.trans ((Kb.out _).below SB9.out.size fun k hk' e => by rcases e with rfl | rfl <;> omega), HO9.out.chg (Kb.out _) (HST9.out.not_kind (by decide))⟩ ?_
      rintro wb ⟨hx, hy, hst, hsb, hto⟩
      have HXb := Lib.hid hx
      have HYb := Lib.hid hy
      have HSTb := Lib.hid hst
      have SBb := Lib.hid hsb
      have HOb := Lib.hid hto
      clear hx hy hst hsb hto Kb HX9 HY9 HST9 SB9 HO9 HSTa HKa HTN
      go_upto_region 17 with (go_at_call 51; refine (vals_no t [] 0 none 0 0 0 wb (by decide)).mono ?_; rintro e wc ⟨rfl, hbc⟩; have HBc := Lib.hid hbc; clear hbc; simp only [erO])
      have xd : wc.cell? ⟨b0, 6, none⟩ = some (.int .i64 2) := by
        have := (HXb.out.below HBc.out HXb.out.lt).cell 6
        rw [HDP.out] at this
        exact this
      have yd : wc.cell? ⟨w8.heap.size, 6, none⟩ = some (.int .i64 0) := (HYb.out.below HBc.out HYb.out.lt).cell 6
      have yv : wc.cell? ⟨w8.heap.size, 5, none⟩ = some (.slice A' 3 c') := (HYb.out.below HBc.out HYb.out.lt).cell 5
      have HSTc := Lib.hid (HSTb.out.go HBc.out)
      have HOc := Lib.hid (HOb.out.chg (Chg.of_below (S := NoM) HBc.out) (fun _ _ _ h => h))
      have SBc := Lib.hid (SBb.out.trans (HBc.out.mono SBb.out.size))
      have HDL := Lib.hid (show s'.dirty.length = 0 from by rw [Sp.Sto.dirty_len, (HD8.out.few (by simp)).1]; rfl)
      have zb0 : b0 < wc.heap.size := Nat.lt_of_lt_of_le HXb.out.lt HBc.out.size
      have zb1 : w8.heap.size < wc.heap.size := Nat.lt_of_lt_of_le HYb.out.lt HBc.out.size
      clear HXb HYb HSTb HOb SBb HBc
      go_wp2_with (first
        | (go_at_call 80; refine (dSameTexts L [[97], [98], [99], [100]] A5 (some ⟨wc.heap.size, 0, none⟩) cA5 4 _ (Txts.go HOc.out.tx ((Below.refl _ _).alloc (Nat.le_refl _) _)) (lit4 wc)).mono ?_; rintro e wd ⟨rfl, hbd⟩; rw [decide_eq_true HLF.out]; have hbd2 : Below wc.heap.size wc wd := ((Below.refl wc.heap.size wc).alloc (Nat.le_refl _) _).trans (hbd.mono (by rw [World.size_alloc]; omega)); have xd2 := (hbd2.cell (p := ⟨b0, 6, none⟩) zb0).trans xd; have yd2 := (hbd2.cell (p := ⟨w8.heap.size, 6, none⟩) zb1).trans yd; have yv2 := (hbd2.cell (p := ⟨w8.heap.size, 5, none⟩) zb1).trans yv; have HSTd := Lib.hid (HSTc.out.go hbd2); have SBd := Lib.hid (SBc.out.trans (hbd2.mono SBc.out.size)); clear hbd hbd2)
        | (go_at_call_of 26 (Value.iface 55 (Value.int IntKind.i64 20)); refine (errIs_same 20 _).mono ?_; rintro e we ⟨rfl, rfl⟩)
        | (go_at_call_of 26 (Value.iface 55 (Value.int IntKind.i64 21)); refine (errIs_same 21 _).mono ?_; rintro e we ⟨rfl, rfl⟩)
        | (go_at_call_of 26 (Value.iface 55 (Value.int IntKind.i64 10)); refine (errIs_same 10 _).mono ?_; rintro e we ⟨rfl, rfl⟩)
        | (go_at_call 36; refine (stoDirty_any _ t f m d fv Sp.eV s' _ HSTd.out HD8.out.ok).mono ?_; rintro e we ⟨rd, rfl, hod, hbe⟩; rw [HDL.out] at hod; obtain ⟨Ad, cd, rfl⟩ := own_slice hod; have HBe := Lib.hid (SBd.out.trans (hbe.mono SBd.out.size)); clear hod hbe))
      go_ret
      exact ⟨by simp, HBe.out⟩
end Go.Proofs.YtkcfmjlcijhieaaGreat
namespace Go.Proofs.YtkcfmjlcijhieaaGreat
open Go.RowKit
attribute [local go_sem low] mk_extract
attribute [local go_sem] After.cell After.frozen mk_extract_end ByteArray.mk_append_mk
namespace Sp
def vE (i : Nat) : Txt := [UInt8.ofNat (98 + i)]
def lE : Nat → List Txt
  | 0 => []
  | i + 1 => insT (vE i) (lE i)
theorem lE_no : ∀ k, k < 10 → hasV (lE k) (vE k) = false := by decide +kernel
theorem lE_len : ∀ k, (lE k).length = k
  | 0 => rfl
  | k + 1 => by
    show (insT _ (lE k)).length = _
    rw [insT_len, lE_len k]
theorem lE_srt : ∀ k, k ≤ 10 → SrtV (lE k)
  | 0, _ => SrtV.nil
  | k + 1, h => insT_srt (lE_srt k (by omega)) ⟨by simp [vE], by simp [vE]⟩ (lE_no k (by omega))
theorem lE_a : ∀ k, k < 11 → hasV (lE k) [97] = false := by decide +kernel
theorem lE_has : ∀ k, k < 11 → ∀ j, j < k → hasV (lE k) (vE j) = true := by decide +kernel
theorem dp_vals {l : List Txt} (hs : SrtV l) (h4 : 4 ≤ l.length) (h12 : l.length ≤ 12) : isPage (dpPg l) = true := dp_is (isVals_of hs h4 h12)
theorem dp_read {l : List Txt} (h : isPage (dpPg l) = true) : readF (bytes (dpPg l)) = (dpPg l, none) := by
  have hr : Rng (dpPg l) := ⟨fun f hf => (by cases hf), by simp [dpPg, mt0], by simp [dpPg, mt0]⟩
  unfold readF
  rw [if_pos (readOk_bytes h hr), parse_bytes h hr]
theorem dp_len {l : List Txt} (h : isPage (dpPg l) = true) : (bytes (dpPg l)).length ≤ 4611686018427387904 := by
  rw [bytes_of h, List.length_append, le8_length]
  have := body_le h
  omega
/-- The file of the elder version. -/
def gV (l : List Txt) : List Txt := [[], [], bytes (dpPg l)]
theorem gV_ed {l : List Txt} (h : isPage (dpPg l) = true) : EdSt (gV l) l (Sto.new 3 400 []) :=
  ⟨rfl, rfl, rfl, rfl, rfl, Sto.new_ok 3 400 [], dp_read h⟩
theorem gV_sz {l : List Txt} (h : isPage (dpPg l) = true) : ∀ s ∈ gV l, s.length ≤ 4611686018427387904 := by
  intro s hs
  rcases List.mem_cons.1 hs with rfl | hs
  · simp
  rcases List.mem_cons.1 hs with rfl | hs
  · simp
  rw [List.mem_singleton.1 hs]
  exact dp_len h
end Sp
theorem gV_txts (W : World) (l : List Txt) : Txts (W.alloc (.cells #[.string ⟨#[]⟩, .string ⟨#[]⟩, .string ⟨(Sp.bytes (Sp.dpPg l)).toArray⟩] StrT)) NoM (some ⟨W.heap.size, 0, none⟩) (Sp.gV l) := by
  have hb := Blk.new W StrT #[.string ⟨#[]⟩, .string ⟨#[]⟩, .string ⟨(Sp.bytes (Sp.dpPg l)).toArray⟩]
  refine ⟨by simp [Sp.gV], .inr ⟨W.heap.size, 0, rfl, hb.lt, fun h => h, fun j v hv => ?_⟩⟩
  rw [Nat.zero_add]
  refine (hb.cell j).trans ?_
  rcases j with _ | _ | _ | j
  · exact hv
  · exact hv
  · exact hv
  · simp [Sp.gV] at hv
/-- What is done in one store, another one over the same file does not see. -/
theorem StAt.other {w w' : World} {Mu Mt : Nat → Prop} {t u f m dt du : Nat} {fv : Value} {V : List Txt} {su st : Sp.Sto} (h : StAt w Mu u f m du fv V su) (ht : StAt w Mt t f m dt fv V st) (hk : Chg (TwoM t dt) w w') (hM : Mu t ∧ Mu dt) (hn : u ≠ t ∧ u ≠ dt ∧ du ≠ t ∧ du ≠ dt) : StAt w' Mu u f m du fv V su := by
  obtain ⟨sv, hf⟩ := h.fa.bf
  obtain ⟨uf, ua, h1, _, _⟩ := ht.bt
  refine h.chg hk (fun k e => ?_) (fun e => ?_) (ht.not_kind (by decide) _ _ hf) (fun e => ?_) (fun e => ?_) (fun k hk' => ?_) (ht.not_kind (by decide))
  · rcases e with rfl | rfl
    · exact hM.1
    · exact hM.2
  · rcases e with e | e
    · exact hn.1 e
    · exact hn.2.1 e
  · rcases e with e | e
    · obtain ⟨es, ck, hm, _⟩ := h.fa.map
      have h2 : w.heap[t]? = _ := h1
      rw [← e, hm] at h2
      cases h2
    · exact ht.hm e.symm
  · rcases e with e | e
    · exact hn.2.2.1 e
    · exact hn.2.2.2 e
  · rcases h.fa.own.2 with ⟨e2, _⟩ | ⟨g', cap, cur, e2, _, hh, _⟩
    · rw [e2] at hk'; simp [Value.ownBlock] at hk'
    · rw [e2] at hk'
      have e3 : g' = k := by simpa [Value.ownBlock] using hk'
      have hh2 : Blk w g' StrT cur := hh
      exact ht.not_kind (by decide) _ _ (e3 ▸ hh2)
/-- The two stores, the law's item. -/
structure ElS (w : World) (Mt Mu : Nat → Prop) (t u g m dt du : Nat) (fv : Value) (l : List Txt) (b0 : Nat) (A : Option Addr) (n c : Nat) (W : World) : Prop where
  ts : StAt W Mt t g m dt fv (Sp.gV l) (Sp.Sto.new 3 400 [])
  us : StAt W Mu u g m du fv (Sp.gV l) (Sp.Sto.new 3 400 [])
  bx : Blk W b0 ItemT (itA [107] 3 A n c 2)
  hb : Below w.heap.size w W
  mu : Mu t ∧ Mu dt
  ne : u ≠ t ∧ u ≠ dt ∧ du ≠ t ∧ du ≠ dt
  ge : w.heap.size ≤ t ∧ w.heap.size ≤ dt
theorem ElS.go {w W W' : World} {Mt Mu : Nat → Prop} {t u g m dt du : Nat} {fv : Value} {l : List Txt} {b0 : Nat} {A : Option Addr} {n c : Nat} (h : ElS w Mt Mu t u g m dt du fv l b0 A n c W) (hb : Below W.heap.size W W') : ElS w Mt Mu t u g m dt du fv l b0 A n c W' :=
  ⟨h.ts.go hb, h.us.go hb, h.bx.below hb h.bx.lt, h.hb.trans (hb.mono h.hb.size), h.mu, h.ne, h.ge⟩
theorem ElS.set {w W : World} {Mt Mu : Nat → Prop} {t u g m dt du : Nat} {fv : Value} {l : List Txt} {b0 : Nat} {A : Option Addr} {n c : Nat} (h : ElS w Mt Mu t u g m dt du fv l b0 A n c W) (hM : Mt b0 ∧ Mu b0) (hg : w.heap.size ≤ b0) : ElS w Mt Mu t u g m dt du fv l b0 A n c (W.setCell ⟨b0, 6, none⟩ (.int .i64 2)) :=
  have hk : Chg (OneM b0) W (W.setCell ⟨b0, 6, none⟩ (.int .i64 2)) := Chg.set1 W b0 6 _
  ⟨h.ts.one h.bx hM.1 hk, h.us.one h.bx hM.2 hk, h.bx.set_ 6 (.int .i64 2), h.hb.trans ((hk.below h.hb.size fun k hk e => by have e : k = b0 := e; omega)), h.mu, h.ne, h.ge⟩
theorem ElS.newY {w W W' : World} {Mt Mu : Nat → Prop} {t u g m dt du : Nat} {fv : Value} {l : List Txt} {b0 : Nat} {A : Option Addr} {n c : Nat} (h : ElS w Mt Mu t u g m dt du fv l b0 A n c W) (hb : Below W.heap.size W W') (y : Nat) (hy : W.heap.size ≤ y ∧ y < W'.heap.size) : ElS w (fun k => Mt k ∨ k = y) (fun k => Mu k ∨ k = y) t u g m dt du fv l b0 A n c W' :=
  ⟨h.ts.newMs hb (fun k e => e ▸ hy), h.us.newMs hb (fun k e => e ▸ hy), h.bx.below hb h.bx.lt, h.hb.trans (hb.mono h.hb.size), ⟨.inl h.mu.1, .inl h.mu.2⟩, h.ne, h.ge⟩
/-- .. and the item that was told. -/
structure ElY (w : World) (Mt Mu : Nat → Prop) (t u g m dt du : Nat) (fv : Value) (l l' : List Txt) (b0 : Nat) (A : Option Addr) (n c : Nat) (y : Nat) (A' : Option Addr) (n' c' : Nat) (dup : Int) (s' : Sp.Sto) (W : World) : Prop where
  ts : StAt W Mt t g m dt fv (Sp.gV l) s'
  us : StAt W Mu u g m du fv (Sp.gV l) (Sp.Sto.new 3 400 [])
  bx : Blk W b0 ItemT (itA [107] 3 A n c 2)
  hb : Below w.heap.size w W
  by_ : Blk W y ItemT (itA [107] 3 A' n' c' dup)
  ei : EdI l' 3 A' n' dup W
  ef : Sp.EfSt l' s'
  ge : w.heap.size ≤ t ∧ w.heap.size ≤ dt
theorem ElY.go {w W W' : World} {Mt Mu : Nat → Prop} {t u g m dt du : Nat} {fv : Value} {l l' : List Txt} {b0 : Nat} {A : Option Addr} {n c y : Nat} {A' : Option Addr} {n' c' : Nat} {dup : Int} {s' : Sp.Sto} (h : ElY w Mt Mu t u g m dt du fv l l' b0 A n c y A' n' c' dup s' W) (hb : Below W.heap.size W W') : ElY w Mt Mu t u g m dt du fv l l' b0 A n c y A' n' c' dup s' W' :=
  ⟨h.ts.go hb, h.us.go hb, h.bx.below hb h.bx.lt, h.hb.trans (hb.mono h.hb.size), h.by_.below hb h.by_.lt, h.ei.chg (S := NoM) (Chg.of_below hb) (fun _ _ _ h => h), h.ef, h.ge⟩
theorem ElS.turn {w W W' : World} {Mt Mu : Nat → Prop} {t u g m dt du : Nat} {fv : Value} {l l' : List Txt} {b0 : Nat} {A : Option Addr} {n c y : Nat} {kind : Int} {A' : Option Addr} {n' c' : Nat} {dup : Int} {s' : Sp.Sto} {Y0 : Array Value} (h : ElS w Mt Mu t u g m dt du fv l b0 A n c W) (hY : Blk W y ItemT Y0) (hy : Mt y ∧ Mu y) (hyb : y ≠ b0) (hyw : w.heap.size ≤ y) (hk : Chg (TwoM t dt) W W') (hei : EdI l' kind A' n' dup W') (hef : Sp.EfSt l' s') (hst : StAt W' Mt t g m dt fv (Sp.gV l) s') :
    Blk W' y ItemT Y0 ∧ ElY w Mt Mu t u g m dt du fv l l' b0 A n c y A' n' c' dup s' (W'.setRow y (itA [107] kind A' n' c' dup)) := by
  obtain rfl := hei.k3
  have hnk := h.ts.not_kind (ty := ItemT) (by decide)
  have hY' := hY.chg hk (hnk _ _ hY)
  have hkr : Chg (OneM y) W' (W'.setRow y (itA [107] 3 A' n' c' dup)) := chg_setRowN (Chg.refl (OneM y) W') (.inl rfl) _
  have hb' : Below w.heap.size w W' := h.hb.trans (hk.below h.hb.size fun k hk' e => by
    have := h.ge
    rcases e with rfl | rfl <;> omega)
  exact ⟨hY', hst.one hY' hy.1 hkr, (h.us.other h.ts hk h.mu h.ne).one hY' hy.2 hkr, (h.bx.chg hk (hnk _ _ h.bx)).chg hkr (fun e => hyb e.symm), below_setRow hb' hyw _, hY'.row, hei.row hY', hef, h.ge⟩
theorem ElY.vals {w W : World} {Mt Mu : Nat → Prop} {t u g m dt du : Nat} {fv : Value} {l l' : List Txt} {b0 : Nat} {A : Option Addr} {n c y : Nat} {A' : Option Addr} {n' c' : Nat} {dup : Int} {s' : Sp.Sto} (h : ElY w Mt Mu t u g m dt du fv l l' b0 A n c y A' n' c' dup s' W) (h12 : l'.length ≤ 12) :
    Calls Tryz.prog 51 #[.pointer (some ⟨t, 0, none⟩), .agg (itA [107] 3 A' n' c' dup)] W fun e w' => ∃ A2 c2, e = .returned (.tuple #[.slice A2 l'.length c2, .nilIface]) ∧ Below W.heap.size W w' := by
  by_cases hl : l'.length ≤ 3
  · obtain ⟨rfl, rfl, ht⟩ := h.ei.few hl
    refine (vals_in t [107] l' A' c' W ht.tx (by omega)).mono ?_
    rintro e w' ⟨A2, c2, rfl, _, hb⟩
    exact ⟨A2, c2, rfl, hb⟩
  · obtain ⟨rfl, rfl⟩ := h.ei.many (by omega)
    refine (vals_pg Mt t g m dt fv (Sp.gV l) s' (Sp.dpPg l') [107] A' 0 c' 3 W h.ts h.ef.ok ⟨by decide, by rw [h.ef.most]; decide⟩ (by rw [h.ef.many (by omega)]; rfl) rfl).mono ?_
    rintro e w' ⟨A2, c2, rfl, _, hb⟩
    exact ⟨A2, c2, rfl, hb⟩
theorem ElY.end_ {w W W' : World} {Mt Mu : Nat → Prop} {t u g m dt du : Nat} {fv : Value} {l l' : List Txt} {b0 : Nat} {A : Option Addr} {n c y : Nat} {A' : Option Addr} {n' c' : Nat} {dup : Int} {s' : Sp.Sto} (h : ElY w Mt Mu t u g m dt du fv l l' b0 A n c y A' n' c' dup s' W) (hk : Chg (TwoM t dt) W W') : Below w.heap.size w W' :=
  h.hb.trans (hk.below h.hb.size fun k hk' e => by
    have := h.ge
    rcases e with rfl | rfl <;> omega)
set_option maxRecDepth 100000 in
set_option maxHeartbeats 1600000 in
theorem bytes14_any (M : Nat → Prop) (t f m d : Nat) (fv : Value) (V : List Txt) (s : Sp.Sto) (i : Int) (p : Sp.Page) (w : World) (h : StAt w M t f m d fv V s) (hok : s.Ok) (hn : V.length ≤ 400) (hp : s.read V i = (p, none)) :
    Calls Tryz.prog 53 #[.pointer (some ⟨t, 0, none⟩), .int .i64 i] w fun e w' => e = .returned (.string ⟨(Sp.bytes p).toArray⟩) ∧ Below w.heap.size w w' := by
  have HR := Lib.hid (stoRead_any M t f m d fv V s i w h hok hn)
  rw [hp] at HR
  clear h hp
  go_enter Tryz.func53, Tryz.ntmps53
  go_wp2_with (first
    | (go_at_call 37; refine HR.out.mono ?_; rintro e w1 ⟨r1, rfl, hp1, hb1⟩; rw [pv14]; have HP := Lib.hid hp1; have HB := Lib.hid hb1; clear hp1 hb1)
    | (refine wpList_new PageT _ _ rfl rfl rfl rfl rfl rfl _ rfl (of_decide_eq_true (by kernel_rfl)) (by kernel_rfl) (by kernel_rfl) (by kernel_rfl) ?_)
    | (refine wpList_row PageT _ rfl w1.heap.size rfl rfl PageT _ (0, 0) _ (Blk.new w1 PageT (pageV p r1).toArray) Tryz.underlying39 rfl rfl ?_)
    | (go_at_call 18; refine (dBytes_any p r1 _ (HP.out.go ((Below.refl _ _).alloc (Nat.le_refl _) _))).mono ?_; rintro e w2 ⟨rfl, hb2⟩; have HB2 := Lib.hid hb2; clear hb2))
  go_ret
  have hal : Below w1.heap.size w1 (w1.alloc (.cells (pageV p r1).toArray PageT)) := (Below.refl _ _).alloc (Nat.le_refl _) _
  exact ⟨rfl, HB.out.trans ((hal.trans (HB2.out.mono hal.size)).mono HB.out.size)⟩
end Go.Proofs.YtkcfmjlcijhieaaGreat
