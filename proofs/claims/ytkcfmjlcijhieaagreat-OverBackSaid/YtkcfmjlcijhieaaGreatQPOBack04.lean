/- Long values beside one another: the law's walk. OverBack: whatever the input: true; the input reads as it did. -/
import Derived.Test.YtkcfmjlcijhieaaGreatQB00
import Derived.Test.YtkcfmjlcijhieaaGreatQB09
import Derived.Test.YtkcfmjlcijhieaaGreatQPOBack02
import Derived.Test.YtkcfmjlcijhieaaGreatQPOBack03
import Derived.SizedLaws
set_option linter.unusedSimpArgs false
set_option linter.unusedVariables false
namespace Go.Proofs.YtkcfmjlcijhieaaGreat
open Go.RowKit
attribute [local go_sem low] mk_extract
attribute [local go_sem] After.cell After.frozen mk_extract_end ByteArray.mk_append_mk
theorem conv1 (w : World) (x0 : Int) : (convert 22 9 (.slice (some ⟨w.heap.size, 0, none⟩) 1 1)).run Tryz.prog (w.alloc (.cells #[.int .u8 x0] 5)) =
    .ok (.string ⟨[UInt8.ofNat x0.toNat].toArray⟩) (w.alloc (.cells #[.int .u8 x0] 5)) :=
  run_convert_bytes_arg (P := Tryz.prog) _ 22 5 Tryz.underlying22 Tryz.underlying5 w.heap.size 0 1 1 [x0] rfl (by
      intro i hi
      have h : i = 0 := by omega
      subst h
      simp [go_sem]) 9 Tryz.underlying9
theorem own_apart {w : World} {B B' : Nat} {e e' : TypeId} {u v : Value} {n m : Nat} {xs ys : List Value} (h1 : w.ownsRow B e 1 u n xs) (h2 : w.ownsRow B' e' 1 v m ys) (he : e ≠ e') : v.ownBlock = none ∨ v.ownBlock ≠ u.ownBlock := by
  rcases h2.2 with ⟨rfl, _⟩ | ⟨g, cap, cur, rfl, _, hg, _⟩
  · exact .inl rfl
  · refine .inr fun e2 => ?_
    rcases h1.2 with ⟨rfl, _⟩ | ⟨g', cap', cur', rfl, _, hg', _⟩
    · cases e2
    · have e3 : g = g' := by simpa [Value.ownBlock] using e2
      rw [e3, hg'] at hg
      simp only [Option.some.injEq, Obj.cells.injEq] at hg
      exact he hg.2.1
theorem own_row1 {w : World} {base : Nat} {e : TypeId} {A : Option Addr} {n c : Nat} {xs : List Value} (h : w.ownsRow base e 1 (.slice A n c) n xs) (hn : n ≤ 1000) : Row w NoM A xs := by
  have hl := h.1
  rw [Nat.mul_one] at hl
  rcases h.2 with ⟨e, h0⟩ | ⟨g, cap, cur, e, _, hh, hnc, _, hcs, ht⟩
  · rw [List.eq_nil_of_length_eq_zero (by omega : xs.length = 0)]
    exact Row.nil_
  · simp only [Value.slice.injEq] at e
    obtain ⟨rfl, _, _⟩ := e
    have hb : Blk w g _ cur := hh
    refine ⟨by omega, .inr ⟨g, 0, rfl, hb.lt, fun h => h, fun j v hv => ?_⟩⟩
    rw [Nat.zero_add]
    refine (hb.cell j).trans ?_
    have hj : j < xs.length := (List.getElem?_eq_some_iff.1 hv).1
    have : (cur.toList.take (n * 1))[j]? = xs[j]? := by rw [ht]
    rw [List.getElem?_take, if_pos (by omega), hv] at this
    rw [← Array.getElem?_toList, this]
/-- What never moves lies below. -/
structure Fix (B t f m d : Nat) (fv : Value) : Prop where
  t : t < B
  f : f < B
  m : m < B
  d : d < B
  v : ∀ k, fv.ownBlock = some k → k < B
theorem StAt.fix {W : World} {M : Nat → Prop} {t f m d : Nat} {fv : Value} {V : List Txt} {s : Sp.Sto} (h : StAt W M t f m d fv V s) : Fix W.heap.size t f m d fv := by
  obtain ⟨sv, hf⟩ := h.fa.bf
  obtain ⟨es, ck, hm, _⟩ := h.fa.map
  exact ⟨h.lt _ h.hM.1, hf.lt, (Array.getElem?_eq_some_iff.1 hm).1, h.lt _ h.hM.2, own_lt h.fa.own⟩
/-- So many are written, beside the rows that hold them. -/
structure ObS (w : World) (B : Nat) (M : Nat → Prop) (t f m d : Nat) (fv : Value) (l : List Nat) (k kn kt : Nat) (u v : Value) (s : Sp.Sto) (W : World) : Prop where
  st : OvS w M t f m d fv s W
  wr : Sp.Wrt l k s
  rn : W.ownsRow B IntT 1 u kn ((List.range kn).map fun j => iv (2 + (Sp.pO l j : Int)))
  rt : W.ownsRow B StrT 1 v kt ((List.range kt).map fun j => tv (Sp.tO l j))
  hB : B ≤ W.heap.size ∧ w.heap.size ≤ B
  fx : Fix B t f m d fv
section
variable {w W W' : World} {B : Nat} {M : Nat → Prop} {t f m d : Nat} {fv : Value} {l : List Nat} {k k' kn kt : Nat} {u v : Value} {s s' : Sp.Sto}
theorem ObS.go (h : ObS w B M t f m d fv l k kn kt u v s W) (hb : Below W.heap.size W W') : ObS w B M t f m d fv l k kn kt u v s W' :=
  ⟨h.st.go hb, h.wr, own_chg2 (S := NoM) h.rn (Chg.of_below hb) (fun _ _ h => h), own_chg2 (S := NoM) h.rt (Chg.of_below hb) (fun _ _ h => h), ⟨Nat.le_trans h.hB.1 hb.size, h.hB.2⟩, h.fx⟩
theorem ObS.turn (h : ObS w B M t f m d fv l k kn kt u v s W) (hst : StAt W' M t f m d fv Sp.eV s') (hw : Sp.Wrt l k' s') (hk : Chg (TwoM t d) W W') : ObS w B M t f m d fv l k' kn kt u v s' W' := by
  have h1 := h.fx.t
  have h2 := h.fx.d
  refine ⟨h.st.step hst hw.full.ok hk, hw, own_chg2 h.rn hk (fun j e hS => ?_), own_chg2 h.rt hk (fun j e hS => ?_), ⟨Nat.le_trans h.hB.1 hk.size, h.hB.2⟩, h.fx⟩
  · have := (h.rn.lt j e).1
    rcases hS with rfl | rfl <;> omega
  · have := (h.rt.lt j e).1
    rcases hS with rfl | rfl <;> omega
theorem OvS.grow (h : OvS w M t f m d fv s W) (hw : Sp.Wrt l k s) (hB : B ≤ W.heap.size ∧ w.heap.size ≤ B) (fx : Fix B t f m d fv) {row : Option Nat} (hg : W.grownBy W' row) (hr : ∀ k, row = some k → B ≤ k) (hs : Same W W') : OvS w M t f m d fv s W' :=
  ⟨h.st.beside hw.full.avail hw.full.freed hw.bare (Chg.of_grown hg fun k e => .inl (hr k e)) hs fx.t fx.f fx.m fx.d fx.v, h.ok, h.hb.grown hg h.hb.size (fun j e => Nat.le_trans hB.2 (hr j e)), h.ht⟩
theorem ObS.growN (h : ObS w B M t f m d fv l k kn kt u v s W) {u' : Value} (ho : W'.ownsRow B IntT 1 u' (kn + 1) (((List.range kn).map fun j => iv (2 + (Sp.pO l j : Int))) ++ [iv (2 + (Sp.pO l kn : Int))])) (hg : W.grownBy W' u.ownBlock) (hs : Same W W') : ObS w B M t f m d fv l k (kn + 1) kt u' v s W' := by
  refine ⟨h.st.grow h.wr h.hB h.fx hg (fun j e => (h.rn.lt j e).1) hs, h.wr, ?_, h.rt.kept hg (own_apart h.rn h.rt (by decide)), ⟨Nat.le_trans h.hB.1 hg.size, h.hB.2⟩, h.fx⟩
  rw [List.range_succ, List.map_append]
  exact ho
theorem ObS.growT (h : ObS w B M t f m d fv l k kn kt u v s W) {v' : Value} (ho : W'.ownsRow B StrT 1 v' (kt + 1) (((List.range kt).map fun j => tv (Sp.tO l j)) ++ [tv (Sp.tO l kt)])) (hg : W.grownBy W' v.ownBlock) (hs : Same W W') : ObS w B M t f m d fv l k kn (kt + 1) u v' s W' := by
  refine ⟨h.st.grow h.wr h.hB h.fx hg (fun j e => (h.rt.lt j e).1) hs, h.wr, h.rn.kept hg (own_apart h.rt h.rn (by decide)), ?_, ⟨Nat.le_trans h.hB.1 hg.size, h.hB.2⟩, h.fx⟩
  rw [List.range_succ, List.map_append]
  exact ho
end
set_option maxRecDepth 100000 in
set_option maxHeartbeats 1600000 in
theorem overBack_walk (l : List Nat) (A : Option Addr) (cA : Nat) (w : World) (hU : U16s w A l) (hlb : ∀ k ∈ l, k < 65536) (drop : Int) (hd0 : 0 ≤ drop) (hd1 : drop ≤ 255) :
    Calls Tryz.prog 11 #[.slice A l.length cA, .int .u8 drop] w fun e w' => e = .returned (.bool true) ∧ Below w.heap.size w w' := by
  have HKN := Lib.hid (known13_any w)
  by_cases hl8 : 8 < l.length
  · have hlen : l.length ≤ 9223372036854775807 := by have := hU.1; simpa using this
    go_enter Tryz.func11, Tryz.ntmps11
    go_wp2_with (go_at_call 44; refine HKN.out.mono ?_; rintro e w1 ⟨rfl, hb1⟩; have HB1 := Lib.hid hb1; clear hb1)
    go_ret
    exact ⟨by simp, HB1.out⟩
  obtain ⟨i0, hi0, hz0, hz1, hz2⟩ := info_parts info_int
  obtain ⟨j0, hj0, jz0, jz1, jz2⟩ := info_parts info_str
  go_enter Tryz.func11, Tryz.ntmps11
  go_upto_region 6 with (first
    | (go_at_call 44; refine HKN.out.mono ?_; rintro e w1 ⟨rfl, hb1⟩; have HB1 := Lib.hid hb1; clear hb1)
    | (go_at_call 20; refine (fileNew_any Sp.eV w1.heap.size 0 2 _ (eV_txts w1) (by decide) (by decide) Sp.eV_sz).mono ?_; rintro e w2 ⟨f, fv, m, rfl, hf, _, _, _, hb2⟩; have HF := Lib.hid hf; have HB2 := Lib.hid hb2; clear hf hb2)
    | (go_at_call 28; refine (stoNew_any f m fv Sp.eV 2 400 (.slice none 0 0) [] _ HF.out (nil_ivO _)).mono ?_; rintro e w3 ⟨t, d, M, rfl, hst, hM, hb3, ht, hd⟩; have HST := Lib.hid hst; have HB3 := Lib.hid hb3; clear hst hM hb3))
  have S0 := Lib.hid (OvS.new_ (HB1.out.alloc HB1.out.size _) HB2.out HB3.out HST.out ht hd)
  have O0 := Lib.hid (show ObS w w3.heap.size M t f m d fv l 0 0 0 (.slice none 0 0) (.slice none 0 0) Sp.e0 w3 from ⟨S0.out, Sp.Wrt.zero l, World.ownsRow_nil _ _ _ _, World.ownsRow_nil _ _ _ _, ⟨Nat.le_refl _, S0.out.hb.size⟩, S0.out.st.fix⟩)
  clear HF HB1 HB2 HB3 HST ht hd HKN S0
  obtain ⟨B, hBe⟩ : ∃ B, B = w3.heap.size := ⟨_, rfl⟩
  rw [← hBe] at O0
  clear hBe
  go_upto_region 10 with fail
  go_loopw [6, 7, 8, 9] (fun u v pg i wr => ∃ (k : Nat) (s : Sp.Sto), k ≤ l.length ∧ i = .int .i64 k ∧ pg = .int .i64 (Sp.pO l k) ∧ ObS w B M t f m d fv l k k k u v s wr) (fun _ _ _ i _ => l.length - (intOf i).toNat)
  case atStart => exact ⟨0, Sp.e0, Nat.zero_le _, rfl, rfl, O0.out⟩
  case round =>
    obtain ⟨k, s, hk, rfl, rfl, hs⟩ := hrel
    have S := Lib.hid hs
    clear hs O0
    obtain ⟨A6, c6, rfl⟩ := own_slice S.out.rn
    obtain ⟨A7, c7, rfl⟩ := own_slice S.out.rt
    by_cases hkl : k < l.length
    · obtain ⟨b, off, rfl, hbl, hcl⟩ := hU.at_ hkl
      have hcell := (S.out.st.hb.cell (p := ⟨b, off + k, none⟩) hbl).trans (hcl k hkl)
      have hx : l.getD k 0 < 65536 := hlb _ (by rw [List.getD_eq_getElem?_getD, List.getElem?_eq_getElem hkl]; exact List.getElem_mem hkl)
      have hN : 13 + ((l.getD k 0 : Nat) : Int) % 900 = (Sp.nO l k : Int) := by unfold Sp.nO; omega
      have hNb : Sp.nO l k ≤ 1000 := by unfold Sp.nO; omega
      clear hcl hbl
      have HNE := Lib.hid (show (Sp.tO l k).length = Sp.nO l k from Sp.tO_len l k)
      have HTE := Lib.hid (show Sp.tO l k = List.replicate (Sp.nO l k) (UInt8.ofNat (97 + k)) from rfl)
      have HCE := Lib.hid (show Sp.cntO (Sp.nO l k : Int) = Sp.cO l k from by unfold Sp.cO; rw [Sp.tO_len])
      have HPE := Lib.hid (show Sp.pO l (k + 1) = Sp.pO l k + Sp.cO l k from rfl)
      have hpb := Sp.pO_le l k
      have hcb := (Sp.cO_le l k).2
      generalize l.getD k 0 = x at *
      generalize Sp.nO l k = N at *
      generalize hT : Sp.tO l k = T at *
      go_upto_region 14 with fail
      obtain ⟨wo, rfl⟩ : ∃ W, W = wr := ⟨_, rfl⟩
      go_loopw [11] (fun y wr => ∃ j : Nat, j ≤ N ∧ y = .string ⟨(List.replicate j (UInt8.ofNat (97 + k))).toArray⟩ ∧ Below wo.heap.size wo wr) (fun y _ => N - strLen y)
      case atStart => exact ⟨0, Nat.zero_le _, rfl, Below.refl _ _⟩
      case round =>
        obtain ⟨j, hj, rfl, hbj⟩ := hrel
        have BJ := Lib.hid hbj
        clear hbj
        by_cases hjN : j < N
        · have hcv := fun w => conv1 w (97 + (k : Int))
          have hcc : UInt8.ofNat (97 + (k : Int)).toNat = UInt8.ofNat (97 + k) := by congr 1
          rw [hcc] at hcv
          have hxn : ¬ 9223372036854775807 < j + 1 := by omega
          have HRS := Lib.hid (show List.replicate j (UInt8.ofNat (97 + k)) ++ [UInt8.ofNat (97 + k)] = List.replicate (j + 1) (UInt8.ofNat (97 + k)) from List.replicate_succ'.symm)
          generalize UInt8.ofNat (97 + k) = ch at *
          have hRL : (List.replicate j ch).length = j := List.length_replicate
          generalize List.replicate j ch = R at *
          go_wp2_with fail
          go_roundw
          case rel => exact ⟨j + 1, by omega, by rw [← HRS.out], BJ.out.alloc BJ.out.size _⟩
          case measure =>
            show N - (R ++ [ch]).length < N - R.length
            rw [List.length_append, hRL, List.length_singleton]
            omega
        · obtain rfl : j = N := by omega
          rw [← HTE.out]
          have hTl : T.length = j := HNE.out
          have S4 := Lib.hid (S.out.go BJ.out)
          have HOW := Lib.hid (owrite_any M t f m d fv Sp.eV s T wr S4.out.st.st S4.out.st.ok (by rw [HNE.out]; omega))
          obtain ⟨s1, hw1, hwr1⟩ := S.out.wr.step (by omega : k < 8)
          rw [hT] at hw1
          rw [hw1] at HOW
          have HWR := Lib.hid hwr1
          clear S hw1 hwr1 BJ hcell
          go_upto_region 19 with (go_at_call 45; go_loud (refine HOW.out.mono ?_; rintro e w5 ⟨rfl, hst5, hk5⟩; have S5 := Lib.hid (S4.out.turn hst5 HWR.out hk5); clear hst5 hk5; simp only [erO]))
          clear S4 HOW HWR
          have hBs := S5.out.hB.1
          go_wp2_with (first
            | (at_builtin; refine wpList_append_same rfl _ _ 26 rfl B IntT i0 _ 1 8 Tryz.underlying26 hi0 hz0 hz1 hz2 rfl (by decide) (.slice A6 k c6) k _ rfl (S5.out.rn.alloc _) ⟨w5.heap.size, 0, none⟩ 1 1 [iv (2 + (Sp.pO l k : Int))] rfl rfl (cell_one_new _ _ _) (fun y hy => by rw [List.mem_singleton.1 hy]; rfl) (by simp only [maxLen]; omega) (by omega) (by rw [World.size_alloc]; omega) ?_; intro yA w6 ho6 hg6 hs6; have S6 := Lib.hid ((S5.out.go ((Below.refl _ _).alloc (Nat.le_refl _) _)).growN ho6 hg6 hs6); obtain ⟨A8, c8, rfl⟩ := own_slice ho6; have hBs6 := S6.out.hB.1; clear ho6 hg6 hs6)
            | (at_builtin; refine wpList_append_same rfl _ _ 32 rfl B StrT j0 _ 1 16 Tryz.underlying32 hj0 jz0 jz1 jz2 rfl (by decide) (.slice A7 k c7) k _ rfl (S6.out.rt.alloc _) ⟨w6.heap.size, 0, none⟩ 1 1 [tv T] rfl rfl (cell_one_new _ _ _) (fun y hy => by rw [List.mem_singleton.1 hy]; rfl) (by simp only [maxLen]; omega) (by omega) (by rw [World.size_alloc]; omega) ?_; intro yB w7 ho7 hg7 hs7; have S7 := Lib.hid ((S6.out.go ((Below.refl _ _).alloc (Nat.le_refl _) _)).growT (by rw [hT]; exact ho7) hg7 hs7); obtain ⟨A9, c9, rfl⟩ := own_slice ho7; clear ho7 hg7 hs7)
            | (go_at_call 46; refine (count_any (j : Int) _ (by omega) (by omega)).mono ?_; rintro e w8 ⟨rfl, rfl⟩; rw [HCE.out]))
          go_roundw
          case rel => exact ⟨k + 1, s1, by omega, by go_num, by rw [HPE.out, Int.natCast_add], S7.out⟩
          case measure => simp [intOf]; omega
    · obtain rfl : k = l.length := by omega
      have HIN := Lib.hid (own_row1 S.out.rn (by omega))
      have HIT := Lib.hid (own_row1 S.out.rt (by omega))
      obtain ⟨wo, rfl⟩ : ∃ W, W = wr := ⟨_, rfl⟩
      go_upto_region 21 with fail
      go_loopw [14] (fun i wr => ∃ k : Nat, k ≤ l.length ∧ i = .int .i64 k ∧ Below wo.heap.size wo wr) (fun i _ => l.length - (intOf i).toNat)
      case atStart => exact ⟨0, Nat.zero_le _, rfl, Below.refl _ _⟩
      case round =>
        obtain ⟨k, hk, rfl, hb⟩ := hrel
        have BW := Lib.hid hb
        clear hb
        by_cases hkl : k < l.length
        · obtain ⟨b6, o6, rfl, hb6, _, hc6⟩ := Row.open_ HIN.out (by simp; omega)
          obtain ⟨b7, o7, rfl, hb7, _, hc7⟩ := Row.open_ HIT.out (by simp; omega)
          have hwz : wo.heap.size ≤ wr.heap.size := BW.out.size
          have x6 : wr.cell? ⟨b6, o6 + k, none⟩ = some (.int .i64 (2 + (Sp.pO l k : Int))) := (BW.out.cell (p := ⟨b6, o6 + k, none⟩) hb6).trans (hc6 k _ (by rw [List.getElem?_map, List.getElem?_range hkl]; rfl))
          have x7 : wr.cell? ⟨b7, o7 + k, none⟩ = some (.string ⟨(Sp.tO l k).toArray⟩) := (BW.out.cell (p := ⟨b7, o7 + k, none⟩) hb7).trans (hc7 k _ (by rw [List.getElem?_map, List.getElem?_range hkl]; rfl))
          have hz6 : b6 < wr.heap.size := by omega
          have hz7 : b7 < wr.heap.size := by omega
          have HRD := Lib.hid (fun (W : World) (hW : Below wr.heap.size wr W) => (oread_any M t f m d fv Sp.eV s (2 + (Sp.pO l k : Int)) ((Sp.tO l k).length : Int) W ((S.out.st.go BW.out).go hW).st S.out.st.ok (by decide) (by rw [Sp.tO_len]; unfold Sp.nO; omega) (by have := Sp.pO_le l k; omega)))
          have hrd : s.readO Sp.eV (2 + (Sp.pO l k : Int)) ((Sp.tO l k).length : Int) = (Sp.tO l k, none) := by rw [Sp.tO_len]; exact S.out.wr.rd hkl (by omega) _
          rw [hrd] at HRD
          clear hrd hc6 hc7
          generalize Sp.tO l k = T at *
          generalize Sp.pO l k = p at *
          go_upto_region 23 with fail
          refine wp_region_after (by kernel_rfl) (by kernel_rfl) wr.heap.size ?_
          repeat (first
            | go_big_quiet_skip
            | (go_big_quiet_step (first | (go_at_call 47; exact after_call (v := .tuple #[.string ⟨T.toArray⟩, .nilIface]) (Nat.le_refl _) (HRD.out _ (After.h _))))))
          refine wpQuiet_nil ?_
          intro w9 hb9
          have y7 := (hb9.cell (p := ⟨b7, o7 + k, none⟩) hz7).trans x7
          have B9 := Lib.hid (BW.out.trans (hb9.mono hwz))
          clear hb9 x6 x7 HRD
          go_wp2_with fail
          go_roundw
          case rel => exact ⟨k + 1, by omega, by go_num, B9.out⟩
          case measure => simp [intOf]; omega
        · obtain rfl : k = l.length := by omega
          have S2 := Lib.hid (S.out.go BW.out)
          have HDL := Lib.hid (show s.dirty.length = Sp.pO l l.length from by rw [Sp.Sto.dirty_len]; exact S.out.wr.full.len)
          by_cases hl0 : l.length = 0
          · have hlp : (l.length : Int) = 0 := by omega
            go_wp2_with (go_at_call 36; refine (stoDirty_any M t f m d fv Sp.eV s _ S2.out.st.st S2.out.st.ok).mono ?_; rintro e w6 ⟨rd, rfl, hod, hbd⟩; rw [HDL.out] at hod; obtain ⟨Ad, cd, rfl⟩ := own_slice hod; have S3 := Lib.hid (S2.out.go hbd); clear hod hbd)
            go_ret
            exact ⟨by simp, S3.out.st.hb⟩
          obtain ⟨q, hq⟩ : ∃ q : Nat, drop % (l.length : Int) = q := ⟨(drop % (l.length : Int)).toNat, by have := Int.emod_nonneg drop (show (l.length : Int) ≠ 0 by omega); omega⟩
          have hql : q < l.length := by have := Int.emod_lt_of_pos drop (show (0 : Int) < (l.length : Int) by omega); omega
          have hqt : drop.tmod (l.length : Int) = (q : Int) := by rw [Int.tmod_eq_emod_of_nonneg hd0]; exact hq
          have hlp : (0 : Int) < (l.length : Int) := by omega
          go_upto_region 30 with (go_at_call 36; refine (stoDirty_any M t f m d fv Sp.eV s _ S2.out.st.st S2.out.st.ok).mono ?_; rintro e w6 ⟨rd, rfl, hod, hbd⟩; rw [HDL.out] at hod; obtain ⟨Ad, cd, rfl⟩ := own_slice hod; have S3 := Lib.hid (S2.out.go hbd); clear hod hbd)
          obtain ⟨b6, o6, rfl, hz6, _, hc6⟩ := Row.open_ (own_row1 S3.out.rn (by omega)) (by simp; omega)
          obtain ⟨b7, o7, rfl, hz7, _, hc7⟩ := Row.open_ (own_row1 S3.out.rt (by omega)) (by simp; omega)
          have x6 : w6.cell? ⟨b6, o6 + q, none⟩ = some (.int .i64 (2 + (Sp.pO l q : Int))) := hc6 q _ (by rw [List.getElem?_map, List.getElem?_range hql]; rfl)
          have x7 : w6.cell? ⟨b7, o7 + q, none⟩ = some (.string ⟨(Sp.tO l q).toArray⟩) := hc7 q _ (by rw [List.getElem?_map, List.getElem?_range hql]; rfl)
          have hn6 : ¬ TwoM t d b6 := fun e => by
            have h1 := (S3.out.rn.lt b6 rfl).1
            have h2 := S3.out.fx.t
            have h3 := S3.out.fx.d
            rcases e with e | e <;> omega
          have hn7 : ¬ TwoM t d b7 := fun e => by
            have h1 := (S3.out.rt.lt b7 rfl).1
            have h2 := S3.out.fx.t
            have h3 := S3.out.fx.d
            rcases e with e | e <;> omega
          have hTn : -1000000 ≤ ((Sp.tO l q).length : Int) ∧ ((Sp.tO l q).length : Int) ≤ 1000000 := by rw [Sp.tO_len]; unfold Sp.nO; omega
          have hpn : -1000000 ≤ 2 + (Sp.pO l q : Int) ∧ 2 + (Sp.pO l q : Int) ≤ 1000000 := by have := Sp.pO_le l q; omega
          obtain ⟨d1, d2, d3, d4⟩ := S3.out.wr.drop hql (by omega)
          have hPb := Sp.pO_le l l.length
          have HOK7 := Lib.hid d1
          have HA7 := Lib.hid d2
          have HD7 := Lib.hid (show (Sp.dropTo s (2 + (Sp.pO l q : Int)) (Sp.cO l q)).dirty.length = Sp.pO l l.length - Sp.cO l q from by rw [Sp.Sto.dirty_len]; omega)
          have hcP : Sp.cO l q ≤ Sp.pO l l.length := by omega
          have HRE := Lib.hid (show (Sp.dropTo s (2 + (Sp.pO l q : Int)) (Sp.cO l q)).readO Sp.eV (2 + (Sp.pO l q : Int)) ((Sp.tO l q).length : Int) = ([], some 12) from by rw [Sp.tO_len]; exact d4)
          have HC7 := Lib.hid (show Sp.cntO ((Sp.tO l q).length : Int) = Sp.cO l q from rfl)
          have HDRP := Lib.hid (odrop_any M t f m d fv Sp.eV s (2 + (Sp.pO l q : Int)) ((Sp.tO l q).length : Int) w6.drew (S3.out.st.st.go (Below.refl _ _).drew) S3.out.st.ok hTn hpn)
          rw [HC7.out] at HDRP
          clear d1 d2 d3 d4 hc6 hc7 S S2 HIN HIT BW hk HDL
          generalize Sp.tO l q = T at *
          generalize Sp.pO l q = p at *
          generalize Sp.cO l q = c at *
          generalize Sp.pO l l.length = P at *
          refine wp_region_in 11 10 (fun W => Below w6.heap.size w6 W) (by kernel_rfl) rfl ?_
          refine wpIn_takeV 0 [10] (.pointer (some ⟨t, 0, none⟩)) rfl (by kernel_rfl) (by kernel_rfl) (by kernel_rfl) (by kernel_rfl) (by kernel_rfl) (by kernel_rfl) (by kernel_rfl) (by rfl) (fun _ _ _ h => h) (Below.refl w6.heap.size w6).drew (fun W hW => by go_simp; all_goals first | with_reducible rfl | rfl | omega) ?_
          simp only [List.getElem_toArray, List.getElem_cons_zero, List.getElem_cons_succ, Act.put, List.setIfInBounds_toArray, List.set_cons_succ, List.set_cons_zero]
          refine wpIn_takeV 1 [3, 4, 10] (.slice (some ⟨b6, o6, none⟩) l.length c6) rfl (by kernel_rfl) (by kernel_rfl) (by kernel_rfl) (by kernel_rfl) (by kernel_rfl) (by kernel_rfl) (by kernel_rfl) (by rfl) (fun _ _ _ h => h) (Below.refl w6.heap.size w6).drew (fun W hW => by go_simp; all_goals first | with_reducible rfl | rfl | omega) ?_
          simp only [List.getElem_toArray, List.getElem_cons_zero, List.getElem_cons_succ, Act.put, List.setIfInBounds_toArray, List.set_cons_succ, List.set_cons_zero]
          refine wpIn_takeV 2 [3, 4, 10] (.int .i64 (q : Int)) rfl (by kernel_rfl) (by kernel_rfl) (by kernel_rfl) (by kernel_rfl) (by kernel_rfl) (by kernel_rfl) (by kernel_rfl) (by rfl) (fun _ _ _ h => h) (Below.refl w6.heap.size w6).drew (fun W hW => by go_simp; all_goals first | with_reducible rfl | rfl | omega) ?_
          simp only [List.getElem_toArray, List.getElem_cons_zero, List.getElem_cons_succ, Act.put, List.setIfInBounds_toArray, List.set_cons_succ, List.set_cons_zero]
          refine wpIn_takeV 3 [4, 10] (.pointer (some ⟨b6, o6 + q, none⟩)) rfl (by kernel_rfl) (by kernel_rfl) (by kernel_rfl) (by kernel_rfl) (by kernel_rfl) (by kernel_rfl) (by kernel_rfl) (by rfl) (fun _ _ _ h => h) (Below.refl w6.heap.size w6).drew (fun W hW => by go_simp; all_goals first | with_reducible rfl | rfl | omega) ?_
          simp only [List.getElem_toArray, List.getElem_cons_zero, List.getElem_cons_succ, Act.put, List.setIfInBounds_toArray, List.set_cons_succ, List.set_cons_zero]
          refine wpIn_takeV 4 [10] (.int .i64 (2 + (p : Int))) rfl (by kernel_rfl) (by kernel_rfl) (by kernel_rfl) (by kernel_rfl) (by kernel_rfl) (by kernel_rfl) (by kernel_rfl) (by rfl) (fun _ _ _ h => h) (Below.refl w6.heap.size w6).drew (fun W hW => by have hc := (hW.cell (p := ⟨b6, o6 + q, none⟩) hz6).trans x6; go_simp; all_goals first | with_reducible rfl | rfl | omega) ?_
          simp only [List.getElem_toArray, List.getElem_cons_zero, List.getElem_cons_succ, Act.put, List.setIfInBounds_toArray, List.set_cons_succ, List.set_cons_zero]
          refine wpIn_takeV 5 [7, 8, 9, 10] (.slice (some ⟨b7, o7, none⟩) l.length c7) rfl (by kernel_rfl) (by kernel_rfl) (by kernel_rfl) (by kernel_rfl) (by kernel_rfl) (by kernel_rfl) (by kernel_rfl) (by rfl) (fun _ _ _ h => h) (Below.refl w6.heap.size w6).drew (fun W hW => by go_simp; all_goals first | with_reducible rfl | rfl | omega) ?_
          simp only [List.getElem_toArray, List.getElem_cons_zero, List.getElem_cons_succ, Act.put, List.setIfInBounds_toArray, List.set_cons_succ, List.set_cons_zero]
          refine wpIn_takeV 6 [7, 8, 9, 10] (.int .i64 (q : Int)) rfl (by kernel_rfl) (by kernel_rfl) (by kernel_rfl) (by kernel_rfl) (by kernel_rfl) (by kernel_rfl) (by kernel_rfl) (by rfl) (fun _ _ _ h => h) (Below.refl w6.heap.size w6).drew (fun W hW => by go_simp; all_goals first | with_reducible rfl | rfl | omega) ?_
          simp only [List.getElem_toArray, List.getElem_cons_zero, List.getElem_cons_succ, Act.put, List.setIfInBounds_toArray, List.set_cons_succ, List.set_cons_zero]
          refine wpIn_takeV 7 [8, 9, 10] (.pointer (some ⟨b7, o7 + q, none⟩)) rfl (by kernel_rfl) (by kernel_rfl) (by kernel_rfl) (by kernel_rfl) (by kernel_rfl) (by kernel_rfl) (by kernel_rfl) (by rfl) (fun _ _ _ h => h) (Below.refl w6.heap.size w6).drew (fun W hW => by go_simp; all_goals first | with_reducible rfl | rfl | omega) ?_
          simp only [List.getElem_toArray, List.getElem_cons_zero, List.getElem_cons_succ, Act.put, List.setIfInBounds_toArray, List.set_cons_succ, List.set_cons_zero]
          refine wpIn_takeV 8 [9, 10] (.string ⟨T.toArray⟩) rfl (by kernel_rfl) (by kernel_rfl) (by kernel_rfl) (by kernel_rfl) (by kernel_rfl) (by kernel_rfl) (by kernel_rfl) (by rfl) (fun _ _ _ h => h) (Below.refl w6.heap.size w6).drew (fun W hW => by have hc := (hW.cell (p := ⟨b7, o7 + q, none⟩) hz7).trans x7; go_simp; all_goals first | with_reducible rfl | rfl | omega) ?_
          simp only [List.getElem_toArray, List.getElem_cons_zero, List.getElem_cons_succ, Act.put, List.setIfInBounds_toArray, List.set_cons_succ, List.set_cons_zero]
          refine wpIn_takeV 9 [10] (.int .i64 (T.length : Int)) rfl (by kernel_rfl) (by kernel_rfl) (by kernel_rfl) (by kernel_rfl) (by kernel_rfl) (by kernel_rfl) (by kernel_rfl) (by rfl) (fun _ _ _ h => h) (Below.refl w6.heap.size w6).drew (fun W hW => by go_simp; all_goals first | with_reducible rfl | rfl | omega) ?_
          simp only [List.getElem_toArray, List.getElem_cons_zero, List.getElem_cons_succ, Act.put, List.setIfInBounds_toArray, List.set_cons_succ, List.set_cons_zero]
          refine wpIn_one 10 rfl (by kernel_rfl) (fun _ => (Below.refl w6.heap.size w6).drew) (by rfl) ?_
          go_simp
          refine HDRP.out.mono ?_
          rintro e w7 ⟨rfl, hst7, hk7⟩
          have hk67 : Chg (TwoM t d) w6 w7 := (Chg.of_below (S := TwoM t d) (Below.refl w6.heap.size w6).drew).trans hk7
          have S7 := Lib.hid (S3.out.st.step hst7 HOK7.out hk67)
          have z6 : b6 < w7.heap.size := Nat.lt_of_lt_of_le hz6 hk67.size
          have z7 : b7 < w7.heap.size := Nat.lt_of_lt_of_le hz7 hk67.size
          have y6 : w7.cell? ⟨b6, o6 + q, none⟩ = some (.int .i64 (2 + (p : Int))) := (hk67.cell hz6 hn6).trans x6
          have y7 : w7.cell? ⟨b7, o7 + q, none⟩ = some (.string ⟨T.toArray⟩) := (hk67.cell hz7 hn7).trans x7
          have HRD := Lib.hid (fun (W : World) (hW : Below w7.heap.size w7 W) => (oread_any M t f m d fv Sp.eV (Sp.dropTo s (2 + (p : Int)) c) (2 + (p : Int)) (T.length : Int) W ((S7.out.go hW).st) S7.out.ok (by decide) hTn hpn))
          rw [HRE.out] at HRD
          clear hst7 hk7 hk67 x6 x7 hz6 hz7 hn6 hn7 HDRP HRE S3
          simp only [List.getElem_toArray, List.getElem_cons_zero, List.getElem_cons_succ, Act.put, List.setIfInBounds_toArray, List.set_cons_succ, List.set_cons_zero]
          refine wpIn_done (by kernel_rfl) (by kernel_rfl) ?_ _
          generalize Sp.dropTo s (2 + (p : Int)) c = s7 at *
          go_upto_region 31 with fail
          refine wp_region_after (by kernel_rfl) (by kernel_rfl) w7.heap.size ?_
          repeat (first
            | go_big_quiet_skip
            | (go_big_quiet_step (first | (go_at_call 47; exact after_call (v := .tuple #[.string ⟨#[]⟩, .iface 55 (.int .i64 12)]) (Nat.le_refl _) (HRD.out _ (After.h _))))))
          refine wpQuiet_nil ?_
          intro w8 hb8
          have S8 := Lib.hid (S7.out.go hb8)
          have x7 := (hb8.cell (p := ⟨b7, o7 + q, none⟩) z7).trans y7
          have hz7 : b7 < w8.heap.size := Nat.lt_of_lt_of_le z7 hb8.size
          clear hb8 y6 y7 HRD S7 z6 z7
          go_upto_region 32 with fail
          refine wp_region_in 30 29 (fun W => Below w8.heap.size w8 W) (by kernel_rfl) rfl ?_
          refine wpIn_take 0 (.iface 55 (.int .i64 12)) rfl (by kernel_rfl) (by kernel_rfl) (by kernel_rfl) (by kernel_rfl) (by kernel_rfl) (by rfl) (fun _ _ _ h => h) (Below.refl w8.heap.size w8).drew (fun W hW => by go_simp; all_goals first | with_reducible rfl | rfl | omega) ?_
          simp only [List.getElem_toArray, List.getElem_cons_zero, List.getElem_cons_succ, Act.put, List.setIfInBounds_toArray, List.set_cons_succ, List.set_cons_zero]
          refine wpIn_take 1 (.iface 55 (.int .i64 12)) rfl (by kernel_rfl) (by kernel_rfl) (by kernel_rfl) (by kernel_rfl) (by kernel_rfl) (by rfl) (fun _ _ _ h => h) (Below.refl w8.heap.size w8).drew (fun W hW => by go_simp; all_goals first | with_reducible rfl | rfl | omega) ?_
          simp only [List.getElem_toArray, List.getElem_cons_zero, List.getElem_cons_succ, Act.put, List.setIfInBounds_toArray, List.set_cons_succ, List.set_cons_zero]
          refine wpIn_one 2 rfl (by kernel_rfl) (fun _ => (Below.refl w8.heap.size w8).drew) (by rfl) ?_
          go_simp
          refine (errIs_same 12 _).mono ?_
          rintro e wq ⟨rfl, rfl⟩
          simp only [List.getElem_toArray, List.getElem_cons_zero, List.getElem_cons_succ, Act.put, List.setIfInBounds_toArray, List.set_cons_succ, List.set_cons_zero]
          refine wpIn_take 3 (.bool true) rfl (by kernel_rfl) (by kernel_rfl) (by kernel_rfl) (by kernel_rfl) (by kernel_rfl) (by rfl) (fun _ _ _ h => h) (Below.refl w8.heap.size w8).drew (fun W hW => by go_simp; all_goals first | with_reducible rfl | rfl | omega) ?_
          simp only [List.getElem_toArray, List.getElem_cons_zero, List.getElem_cons_succ, Act.put, List.setIfInBounds_toArray, List.set_cons_succ, List.set_cons_zero]
          refine wpIn_take 4 (.pointer (some ⟨t, 0, none⟩)) rfl (by kernel_rfl) (by kernel_rfl) (by kernel_rfl) (by kernel_rfl) (by kernel_rfl) (by rfl) (fun _ _ _ h => h) (Below.refl w8.heap.size w8).drew (fun W hW => by go_simp; all_goals first | with_reducible rfl | rfl | omega) ?_
          simp only [List.getElem_toArray, List.getElem_cons_zero, List.getElem_cons_succ, Act.put, List.setIfInBounds_toArray, List.set_cons_succ, List.set_cons_zero]
          refine wpIn_take 7 (.int .i64 (P : Int)) rfl (by kernel_rfl) (by kernel_rfl) (by kernel_rfl) (by kernel_rfl) (by kernel_rfl) (by rfl) (fun _ _ _ h => h) (Below.refl w8.heap.size w8).drew (fun W hW => by go_simp; all_goals first | with_reducible rfl | rfl | omega) ?_
          simp only [List.getElem_toArray, List.getElem_cons_zero, List.getElem_cons_succ, Act.put, List.setIfInBounds_toArray, List.set_cons_succ, List.set_cons_zero]
          refine wpIn_take 8 (.slice (some ⟨b7, o7, none⟩) l.length c7) rfl (by kernel_rfl) (by kernel_rfl) (by kernel_rfl) (by kernel_rfl) (by kernel_rfl) (by rfl) (fun _ _ _ h => h) (Below.refl w8.heap.size w8).drew (fun W hW => by go_simp; all_goals first | with_reducible rfl | rfl | omega) ?_
          simp only [List.getElem_toArray, List.getElem_cons_zero, List.getElem_cons_succ, Act.put, List.setIfInBounds_toArray, List.set_cons_succ, List.set_cons_zero]
          refine wpIn_take 9 (.int .i64 (q : Int)) rfl (by kernel_rfl) (by kernel_rfl) (by kernel_rfl) (by kernel_rfl) (by kernel_rfl) (by rfl) (fun _ _ _ h => h) (Below.refl w8.heap.size w8).drew (fun W hW => by go_simp; all_goals first | with_reducible rfl | rfl | omega) ?_
          simp only [List.getElem_toArray, List.getElem_cons_zero, List.getElem_cons_succ, Act.put, List.setIfInBounds_toArray, List.set_cons_succ, List.set_cons_zero]
          refine wpIn_take 10 (.pointer (some ⟨b7, o7 + q, none⟩)) rfl (by kernel_rfl) (by kernel_rfl) (by kernel_rfl) (by kernel_rfl) (by kernel_rfl) (by rfl) (fun _ _ _ h => h) (Below.refl w8.heap.size w8).drew (fun W hW => by go_simp; all_goals first | with_reducible rfl | rfl | omega) ?_
          simp only [List.getElem_toArray, List.getElem_cons_zero, List.getElem_cons_succ, Act.put, List.setIfInBounds_toArray, List.set_cons_succ, List.set_cons_zero]
          refine wpIn_take 11 (.string ⟨T.toArray⟩) rfl (by kernel_rfl) (by kernel_rfl) (by kernel_rfl) (by kernel_rfl) (by kernel_rfl) (by rfl) (fun _ _ _ h => h) (Below.refl w8.heap.size w8).drew (fun W hW => by have hc := (hW.cell (p := ⟨b7, o7 + q, none⟩) hz7).trans x7; go_simp; all_goals first | with_reducible rfl | rfl | omega) ?_
          simp only [List.getElem_toArray, List.getElem_cons_zero, List.getElem_cons_succ, Act.put, List.setIfInBounds_toArray, List.set_cons_succ, List.set_cons_zero]
          refine wpIn_take 12 (.int .i64 (T.length : Int)) rfl (by kernel_rfl) (by kernel_rfl) (by kernel_rfl) (by kernel_rfl) (by kernel_rfl) (by rfl) (fun _ _ _ h => h) (Below.refl w8.heap.size w8).drew (fun W hW => by go_simp; all_goals first | with_reducible rfl | rfl | omega) ?_
          simp only [List.getElem_toArray, List.getElem_cons_zero, List.getElem_cons_succ, Act.put, List.setIfInBounds_toArray, List.set_cons_succ, List.set_cons_zero]
          refine wpIn_one 5 rfl (by kernel_rfl) (fun _ => (Below.refl w8.heap.size w8).drew) (by rfl) ?_
          go_simp
          refine (stoDirty_any M t f m d fv Sp.eV s7 _ (S8.out.st.go (Below.refl w8.heap.size w8).drew) S8.out.ok).mono ?_
          rintro e w9 ⟨rd, rfl, hod, hbd⟩
          rw [HD7.out] at hod
          obtain ⟨Ad, cd, rfl⟩ := own_slice hod
          have hB9 : Below w8.heap.size w8 w9 := Below.trans (Below.refl w8.heap.size w8).drew (hbd.mono ((Below.refl w8.heap.size w8).drew).size)
          clear hod hbd
          simp only [List.getElem_toArray, List.getElem_cons_zero, List.getElem_cons_succ, Act.put, List.setIfInBounds_toArray, List.set_cons_succ, List.set_cons_zero]
          refine wpIn_take 6 (.int .i64 ((P : Int) - (c : Int))) rfl (by kernel_rfl) (by kernel_rfl) (by kernel_rfl) (by kernel_rfl) (by kernel_rfl) (by rfl) (fun _ _ _ h => h) hB9 (fun W hW => by go_simp; all_goals first | with_reducible rfl | rfl | omega) ?_
          simp only [List.getElem_toArray, List.getElem_cons_zero, List.getElem_cons_succ, Act.put, List.setIfInBounds_toArray, List.set_cons_succ, List.set_cons_zero]
          refine wpIn_one 13 rfl (by kernel_rfl) (fun _ => hB9) (by rfl) ?_
          go_simp
          refine (count_any (T.length : Int) _ (by omega) (by omega)).mono ?_
          rintro e wc ⟨rfl, rfl⟩
          rw [HC7.out]
          simp only [List.getElem_toArray, List.getElem_cons_zero, List.getElem_cons_succ, Act.put, List.setIfInBounds_toArray, List.set_cons_succ, List.set_cons_zero]
          refine wpIn_take 14 (.int .i64 ((P : Int) - (c : Int))) rfl (by kernel_rfl) (by kernel_rfl) (by kernel_rfl) (by kernel_rfl) (by kernel_rfl) (by rfl) (fun _ _ _ h => h) hB9 (fun W hW => by have hw : IntKind.i64.wrap ((P : Int) - (c : Int)) = (P : Int) - (c : Int) := (by simp only [IntKind.wrap_i64]; omega); go_simp; all_goals first | with_reducible rfl | rfl | omega) ?_
          simp only [List.getElem_toArray, List.getElem_cons_zero, List.getElem_cons_succ, Act.put, List.setIfInBounds_toArray, List.set_cons_succ, List.set_cons_zero]
          refine wpIn_take 15 (.bool true) rfl (by kernel_rfl) (by kernel_rfl) (by kernel_rfl) (by kernel_rfl) (by kernel_rfl) (by rfl) (fun _ _ _ h => h) hB9 (fun W hW => by go_simp; all_goals first | with_reducible rfl | rfl | omega) ?_
          simp only [List.getElem_toArray, List.getElem_cons_zero, List.getElem_cons_succ, Act.put, List.setIfInBounds_toArray, List.set_cons_succ, List.set_cons_zero]
          refine wpIn_take 16 (.bool true) rfl (by kernel_rfl) (by kernel_rfl) (by kernel_rfl) (by kernel_rfl) (by kernel_rfl) (by rfl) (fun _ _ _ h => h) hB9 (fun W hW => by go_simp; all_goals first | with_reducible rfl | rfl | omega) ?_
          simp only [List.getElem_toArray, List.getElem_cons_zero, List.getElem_cons_succ, Act.put, List.setIfInBounds_toArray, List.set_cons_succ, List.set_cons_zero]
          refine wpIn_take 17 (.bool true) rfl (by kernel_rfl) (by kernel_rfl) (by kernel_rfl) (by kernel_rfl) (by kernel_rfl) (by rfl) (fun _ _ _ h => h) hB9 (fun W hW => by go_simp; all_goals first | with_reducible rfl | rfl | omega) ?_
          simp only [List.getElem_toArray, List.getElem_cons_zero, List.getElem_cons_succ, Act.put, List.setIfInBounds_toArray, List.set_cons_succ, List.set_cons_zero]
          refine wpIn_take 18 (.pointer (some ⟨t, 0, none⟩)) rfl (by kernel_rfl) (by kernel_rfl) (by kernel_rfl) (by kernel_rfl) (by kernel_rfl) (by rfl) (fun _ _ _ h => h) hB9 (fun W hW => by go_simp; all_goals first | with_reducible rfl | rfl | omega) ?_
          simp only [List.getElem_toArray, List.getElem_cons_zero, List.getElem_cons_succ, Act.put, List.setIfInBounds_toArray, List.set_cons_succ, List.set_cons_zero]
          refine wpIn_take 21 (.slice (some ⟨b7, o7, none⟩) l.length c7) rfl (by kernel_rfl) (by kernel_rfl) (by kernel_rfl) (by kernel_rfl) (by kernel_rfl) (by rfl) (fun _ _ _ h => h) hB9 (fun W hW => by go_simp; all_goals first | with_reducible rfl | rfl | omega) ?_
          simp only [List.getElem_toArray, List.getElem_cons_zero, List.getElem_cons_succ, Act.put, List.setIfInBounds_toArray, List.set_cons_succ, List.set_cons_zero]
          refine wpIn_take 22 (.int .i64 (q : Int)) rfl (by kernel_rfl) (by kernel_rfl) (by kernel_rfl) (by kernel_rfl) (by kernel_rfl) (by rfl) (fun _ _ _ h => h) hB9 (fun W hW => by go_simp; all_goals first | with_reducible rfl | rfl | omega) ?_
          simp only [List.getElem_toArray, List.getElem_cons_zero, List.getElem_cons_succ, Act.put, List.setIfInBounds_toArray, List.set_cons_succ, List.set_cons_zero]
          refine wpIn_take 23 (.pointer (some ⟨b7, o7 + q, none⟩)) rfl (by kernel_rfl) (by kernel_rfl) (by kernel_rfl) (by kernel_rfl) (by kernel_rfl) (by rfl) (fun _ _ _ h => h) hB9 (fun W hW => by go_simp; all_goals first | with_reducible rfl | rfl | omega) ?_
          simp only [List.getElem_toArray, List.getElem_cons_zero, List.getElem_cons_succ, Act.put, List.setIfInBounds_toArray, List.set_cons_succ, List.set_cons_zero]
          refine wpIn_take 24 (.string ⟨T.toArray⟩) rfl (by kernel_rfl) (by kernel_rfl) (by kernel_rfl) (by kernel_rfl) (by kernel_rfl) (by rfl) (fun _ _ _ h => h) hB9 (fun W hW => by have hc := (hW.cell (p := ⟨b7, o7 + q, none⟩) hz7).trans x7; go_simp; all_goals first | with_reducible rfl | rfl | omega) ?_
          simp only [List.getElem_toArray, List.getElem_cons_zero, List.getElem_cons_succ, Act.put, List.setIfInBounds_toArray, List.set_cons_succ, List.set_cons_zero]
          refine wpIn_take 25 (.int .i64 (T.length : Int)) rfl (by kernel_rfl) (by kernel_rfl) (by kernel_rfl) (by kernel_rfl) (by kernel_rfl) (by rfl) (fun _ _ _ h => h) hB9 (fun W hW => by go_simp; all_goals first | with_reducible rfl | rfl | omega) ?_
          simp only [List.getElem_toArray, List.getElem_cons_zero, List.getElem_cons_succ, Act.put, List.setIfInBounds_toArray, List.set_cons_succ, List.set_cons_zero]
          refine wpIn_one 19 rfl (by kernel_rfl) (fun _ => hB9) (by rfl) ?_
          go_simp
          refine (stoAvail_any M t f m d fv Sp.eV s7 _ (S8.out.st.go hB9)).mono ?_
          rintro e wa ⟨ra, rfl, hoa, hba⟩
          rw [HA7.out] at hoa
          obtain ⟨Aa, ca, rfl⟩ := own_slice hoa
          have hBa : Below w8.heap.size w8 wa := hB9.trans (hba.mono hB9.size)
          clear hoa hba
          simp only [List.getElem_toArray, List.getElem_cons_zero, List.getElem_cons_succ, Act.put, List.setIfInBounds_toArray, List.set_cons_succ, List.set_cons_zero]
          refine wpIn_take 20 (.int .i64 (c : Int)) rfl (by kernel_rfl) (by kernel_rfl) (by kernel_rfl) (by kernel_rfl) (by kernel_rfl) (by rfl) (fun _ _ _ h => h) hBa (fun W hW => by go_simp; all_goals first | with_reducible rfl | rfl | omega) ?_
          simp only [List.getElem_toArray, List.getElem_cons_zero, List.getElem_cons_succ, Act.put, List.setIfInBounds_toArray, List.set_cons_succ, List.set_cons_zero]
          refine wpIn_one 26 rfl (by kernel_rfl) (fun _ => hBa) (by rfl) ?_
          go_simp
          refine (count_any (T.length : Int) _ (by omega) (by omega)).mono ?_
          rintro e wc ⟨rfl, rfl⟩
          rw [HC7.out]
          simp only [List.getElem_toArray, List.getElem_cons_zero, List.getElem_cons_succ, Act.put, List.setIfInBounds_toArray, List.set_cons_succ, List.set_cons_zero]
          refine wpIn_take 27 (.bool true) rfl (by kernel_rfl) (by kernel_rfl) (by kernel_rfl) (by kernel_rfl) (by kernel_rfl) (by rfl) (fun _ _ _ h => h) hBa (fun W hW => by go_simp; all_goals first | with_reducible rfl | rfl | omega) ?_
          simp only [List.getElem_toArray, List.getElem_cons_zero, List.getElem_cons_succ, Act.put, List.setIfInBounds_toArray, List.set_cons_succ, List.set_cons_zero]
          refine wpIn_take 28 (.bool true) rfl (by kernel_rfl) (by kernel_rfl) (by kernel_rfl) (by kernel_rfl) (by kernel_rfl) (by rfl) (fun _ _ _ h => h) hBa (fun W hW => by go_simp; all_goals first | with_reducible rfl | rfl | omega) ?_
          simp only [List.getElem_toArray, List.getElem_cons_zero, List.getElem_cons_succ, Act.put, List.setIfInBounds_toArray, List.set_cons_succ, List.set_cons_zero]
          refine wpIn_one 29 rfl (by kernel_rfl) (fun _ => hBa) (by rfl) ?_
          go_simp
          refine wpIn_done (by kernel_rfl) (by kernel_rfl) ?_ _
          go_wp2_with fail
          go_ret
          exact ⟨by simp, S8.out.hb.trans (hBa.mono S8.out.hb.size)⟩
end Go.Proofs.YtkcfmjlcijhieaaGreat
namespace Go.Proofs.YtkcfmjlcijhieaaGreat.overBack
open Go.ChangeShapes Go.WideShapes Go.ChangeAt Go.RowKit
set_option maxRecDepth 100000 in
theorem lifted (os : Os) (started : os.Started) (H : Type) (enc : TypeId × Value → H) :
    ReturnsInHanded {} Tryz.checked os 11 .any (Rows.overBackSpec.pre6 enc Tryz.prog Tryz.f11 Rows.overBackRow.domain false) (Rows.overBackSpec.post enc Tryz.prog Tryz.f11 false true false false) := by
  refine returnsInHanded_of_change_sized (C := Tryz.checked) ownKn started (by kernel_rfl) Tryz.func11
    (ChangeSpec.witness6 (enc := enc) (C := Tryz.checked) false ⟨#[], #[.slice none 0 0, .int .u8 0], []⟩ 8 (by kernel_rfl) (by kernel_rfl) (by kernel_rfl) (by kernel_rfl)) ?_
  intro W base args ds gs before hval0 hW hcnd hsz0 _
  have hval : ∀ (j : Nat) t v, Tryz.f11.params[j]? = some t → args[j]? = some v → Value.okWide Tryz.prog W .any base t v := hval0
  have hW' := hW
  obtain ⟨p, q, hA0, hV, rfl, hfz, hnd⟩ := hW
  have hA : DataW.TrodAll enc Tryz.prog W 0 (fun _ => true) true Tryz.f11.params.toList args.toList ds p := hA0
  have hsz : (DataW.weightsEach Tryz.prog (Tryz.f11.params.toList ++ Rows.overBackSpec.plain.varTypes Tryz.prog) (ds ++ gs)).all (· ≤ reachBytes) = true := hsz0
  rw [Tryz.params11] at hA hval hsz
  obtain ⟨v0, vs0, d0, ds0, p0, q0, hargs, rfl, rfl, h0, rr0⟩ := trodAll_cons hA
  obtain ⟨v1, vs1, d1, ds1, p1, q1, rfl, rfl, rfl, h1, rr1⟩ := trodAll_cons rr0
  obtain ⟨rfl, rfl, rfl⟩ := trodAll_nil rr1
  obtain rfl : args = #[v0, v1] := by cases args; simp_all
  obtain ⟨rfl, rfl⟩ := trodVars_none hV
  have k0 := h0
  obtain ⟨a0, r0, c0, hv0, b0, g0⟩ := open_u16s (hval 0 83 v0 rfl rfl) h0
  obtain ⟨a1, rfl, rfl, rfl, w1⟩ := open_int Tryz.underlying5 (hval 1 5 v1 rfl rfl) h1
  clear hA0 hval0
  simp only [List.append_nil] at hW'
  rw [hv0]
  refine (overBack_walk a0 r0 c0 W b0 g0 a1 (bounds_u8 w1).1 (bounds_u8 w1).2).mono fun e W' ⟨he, hg⟩ => ?_
  subst he
  rw [← hv0]
  exact ⟨_, rfl, post_of_below (pa := (p0 ++ ([] ++ []))) (pv := []) hW' (fun _ _ _ => (trodAll_cons_mk (shut_bool Tryz.underlying4 _) trodAll_mk0)) (fun sp hsp => (trodAll_cons_mk (WideElems.Trod_stays laidKn (by kernel_rfl) (of_decide_eq_true (by kernel_rfl)) k0 (fun x hx => hg.same (hW'.lt x (by simp [hx]))) (fun x hx => hsp x (by simp [hx]))) (trodAll_cons_mk (shut_int Tryz.underlying5 w1) trodAll_mk0))) (fun _ _ => rfl) (by simp)
    hg (ok_one (by kernel_rfl) rfl (okWide_bool_mk Tryz.underlying4 _))⟩
theorem over : Rows.overBackRow.holds Tryz.pinned (OpenSpec.ofChange Rows.overBackSpec) :=
  OpenClaim.holds_of_wide 11 Tryz.f11 rfl rfl rfl rfl rfl rfl rfl ⟨rfl, rfl, rfl, rfl, rfl⟩ rfl rfl rfl rfl rfl (by kernel_rfl) Tryz.func11 (by kernel_rfl)
    (of_decide_eq_true (by kernel_rfl)) (by unfold Func.isWrapper; first | (rw [if_pos (by decide +kernel)]; kernel_rfl) | (rw [if_neg (by decide +kernel)]; exact ⟨rfl, rfl⟩))
    (fun os started H enc _ => lifted os started H enc)
theorem proved : Rows.OverBackSaid :=
  over
#print axioms proved
end Go.Proofs.YtkcfmjlcijhieaaGreat.overBack
