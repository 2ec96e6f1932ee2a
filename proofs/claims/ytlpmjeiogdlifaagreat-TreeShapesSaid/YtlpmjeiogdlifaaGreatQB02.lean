/- Reading: an item. Reading: an item, of kinds 3 and 4. Reading: an item, of whatever kind. -/
import Derived.Test.YtlpmjeiogdlifaaGreatQB01
set_option linter.unusedSimpArgs false
set_option linter.unusedVariables false
namespace Go.Proofs.YtlpmjeiogdlifaaGreat
open Go.RowKit
attribute [local go_sem low] mk_extract
attribute [local go_sem] After.cell After.frozen mk_extract_end ByteArray.mk_append_mk
namespace Sp
theorem Cut.vals_len (c : Cut) : c.vals.2.s.length ≤ c.s.length := by
  have h : ∀ n : Nat, (eachN textStep n ([], c.num.2)).2.s.length ≤ c.num.2.s.length := by
    intro n
    induction n with
    | zero => exact Nat.le_refl _
    | succ n ih =>
      have e : eachN textStep (n + 1) ([], c.num.2) = if (eachN textStep n ([], c.num.2)).2.bad = true then eachN textStep n ([], c.num.2) else textStep (eachN textStep n ([], c.num.2)).1 (eachN textStep n ([], c.num.2)).2 := rfl
      rw [e]
      split
      · exact ih
      · exact Nat.le_trans (Cut.text_len _) ih
  exact Nat.le_trans (h _) c.num_len
def Cut.item (c : Cut) : Item × Cut :=
  if c.text.2.num.1 = 1 then (⟨c.text.1, c.text.2.num.1, c.text.2.num.2.text.1, 0, 0, [], 0, root0⟩, c.text.2.num.2.text.2)
  else if c.text.2.num.1 = 2 then (⟨c.text.1, c.text.2.num.1, [], c.text.2.num.2.num.1, c.text.2.num.2.num.2.num.1, [], 0, root0⟩, c.text.2.num.2.num.2.num.2)
  else if c.text.2.num.1 = 3 then (⟨c.text.1, c.text.2.num.1, [], 0, 0, c.text.2.num.2.vals.1, c.text.2.num.2.vals.2.num.1, root0⟩, c.text.2.num.2.vals.2.num.2)
  else if c.text.2.num.1 = 4 then (⟨c.text.1, c.text.2.num.1, [], 0, 0, [], 0, c.text.2.num.2.root.1⟩, c.text.2.num.2.root.2)
  else (⟨c.text.1, c.text.2.num.1, [], 0, 0, [], 0, root0⟩, c.text.2.num.2)
end Sp
theorem Blk.at10 {w : World} {g : Nat} {t : TypeId} {a b c d e f a' b' c' d' : Value} (h : Blk w g t #[a, b, c, d, e, f, a', b', c', d']) :
    (w.cell? ⟨g, 0, none⟩ = some a ∧ w.cell? ⟨g, 1, none⟩ = some b ∧ w.cell? ⟨g, 2, none⟩ = some c ∧ w.cell? ⟨g, 3, none⟩ = some d ∧ w.cell? ⟨g, 4, none⟩ = some e ∧ w.cell? ⟨g, 5, none⟩ = some f ∧ w.cell? ⟨g, 6, none⟩ = some a' ∧ w.cell? ⟨g, 7, none⟩ = some b' ∧ w.cell? ⟨g, 8, none⟩ = some c' ∧ w.cell? ⟨g, 9, none⟩ = some d') ∧
    (w.frozen? ⟨g, 0, none⟩ = false ∧ w.frozen? ⟨g, 1, none⟩ = false ∧ w.frozen? ⟨g, 2, none⟩ = false ∧ w.frozen? ⟨g, 3, none⟩ = false ∧ w.frozen? ⟨g, 4, none⟩ = false ∧ w.frozen? ⟨g, 5, none⟩ = false ∧ w.frozen? ⟨g, 6, none⟩ = false ∧ w.frozen? ⟨g, 7, none⟩ = false ∧ w.frozen? ⟨g, 8, none⟩ = false ∧ w.frozen? ⟨g, 9, none⟩ = false) := by
  refine ⟨⟨?_, ?_, ?_, ?_, ?_, ?_, ?_, ?_, ?_, ?_⟩, h.frozen 0, h.frozen 1, h.frozen 2, h.frozen 3, h.frozen 4, h.frozen 5, h.frozen 6, h.frozen 7, h.frozen 8, h.frozen 9⟩
  · simpa using h.cell 0
  · simpa using h.cell 1
  · simpa using h.cell 2
  · simpa using h.cell 3
  · simpa using h.cell 4
  · simpa using h.cell 5
  · simpa using h.cell 6
  · simpa using h.cell 7
  · simpa using h.cell 8
  · simpa using h.cell 9
set_option maxRecDepth 100000 in
set_option maxHeartbeats 1600000 in
theorem rdItem1 (g : Nat) (c : Sp.Cut) (w : World) (hs : c.s.length ≤ 4611686018427387904) (hc : CutAt w g c.s c.bad) (hkd : c.text.2.num.1 = 1) :
    Calls Tryz.prog 175 #[.agg #[.pointer (some ⟨g, 0, none⟩)]] w fun e w' => ∃ V cv, e = .returned (.agg (itemV c.item.1 V cv).toArray) ∧ TRow w' w.heap.size StrT V (c.item.1.vals.map tv) ∧ CutAt w' g c.item.2.s c.item.2.bad ∧ Chg (OneM g) w w' := by
  have Hc := Lib.hid hc
  have hg := hc.lt
  have hn0 : ¬ w.heap.size = g := by omega
  have hn1 : ¬ w.heap.size + 1 = g := by omega
  have l1 := Nat.le_trans c.text_len hs
  have l2 := Nat.le_trans c.text.2.num_len l1
  have HI := Lib.hid (show c.item = (⟨c.text.1, c.text.2.num.1, c.text.2.num.2.text.1, 0, 0, [], 0, Sp.root0⟩, c.text.2.num.2.text.2) by unfold Sp.Cut.item; rw [if_pos hkd])
  clear hc
  have B0 := Lib.hid ((Blk.new w 184 #[.pointer (some ⟨g, 0, none⟩)]).alloc (.cells #[.string ⟨#[]⟩, .int .i64 0, .string ⟨#[]⟩, .int .i64 0, .int .i64 0, .slice none 0 0, .int .i64 0, .int .i64 0, .int .i64 0, .int .i64 0] 45))
  have L0 := Lib.hid (blk_second w (.cells #[.pointer (some ⟨g, 0, none⟩)] 184) 45 #[.string ⟨#[]⟩, .int .i64 0, .string ⟨#[]⟩, .int .i64 0, .int .i64 0, .slice none 0 0, .int .i64 0, .int .i64 0, .int .i64 0, .int .i64 0])
  have b0 := B0.out.at1
  have e1 : (c.text.2.num.1 == 1) = true := by rw [beq_iff_eq]; omega
  clear hkd
  go_enter Tryz.func175, Tryz.ntmps175
  go_wp2_with fail
  refine (cutText_any g c.s c.bad _ hs ((Hc.out.alloc _).alloc _)).mono ?_
  rintro e w1 ⟨rfl, hc1, hk1⟩
  have B1 := Lib.hid ((B0.out.chg hk1 hn0).alloc (.cells #[.string ⟨c.text.1.toArray⟩, .int .i64 0, .string ⟨#[]⟩, .int .i64 0, .int .i64 0, .slice none 0 0, .int .i64 0, .int .i64 0, .int .i64 0, .int .i64 0] 45))
  have L1 := Lib.hid ((L0.out.chg hk1 hn1).alloc (.cells #[.string ⟨c.text.1.toArray⟩, .int .i64 0, .string ⟨#[]⟩, .int .i64 0, .int .i64 0, .slice none 0 0, .int .i64 0, .int .i64 0, .int .i64 0, .int .i64 0] 45))
  have b1 := (B0.out.chg hk1 hn0).at1
  have X1 := Lib.hid (Blk.new w1 45 #[.string ⟨c.text.1.toArray⟩, .int .i64 0, .string ⟨#[]⟩, .int .i64 0, .int .i64 0, .slice none 0 0, .int .i64 0, .int .i64 0, .int .i64 0, .int .i64 0])
  have Hc1 := Lib.hid (hc1.alloc (.cells #[.string ⟨c.text.1.toArray⟩, .int .i64 0, .string ⟨#[]⟩, .int .i64 0, .int .i64 0, .slice none 0 0, .int .i64 0, .int .i64 0, .int .i64 0, .int .i64 0] 45))
  have hz1 := hk1.size
  simp only [World.size_alloc] at hz1
  have hw1 : w.heap.size < w1.heap.size := by omega
  have hX : ¬ w1.heap.size = g := by omega
  have K1 := Lib.hid ((Chg.trans (((Chg.refl (OneM g) w).alloc _).alloc _) hk1).alloc (.cells #[.string ⟨c.text.1.toArray⟩, .int .i64 0, .string ⟨#[]⟩, .int .i64 0, .int .i64 0, .slice none 0 0, .int .i64 0, .int .i64 0, .int .i64 0, .int .i64 0] 45))
  clear hc1 hk1
  go_wp2_with fail
  refine (rdNum_any g c.text.2.s c.text.2.bad _ l1 Hc1.out).mono ?_
  rintro e w2 ⟨rfl, hc2, hk2⟩
  have B2 := Lib.hid (B1.out.chg hk2 hn0)
  have L2 := Lib.hid (L1.out.chg hk2 hn1)
  have X2 := Lib.hid (X1.out.chg hk2 hX)
  have b2 := B2.out.at1
  obtain ⟨⟨xa2, xb2, xc2, xd2, xe2, xf2, xg2, xh2, xi2, xj2⟩, ya2, yb2, yc2, yd2, ye2, yf2, yg2, yh2, yi2, yj2⟩ := X2.out.at10
  have Hc2 := Lib.hid hc2
  have K2 := Lib.hid (K1.out.trans hk2)
  have hxz2 : w1.heap.size < w2.heap.size := by have := hk2.size; simp only [World.size_alloc, World.size_setCell] at this; omega
  clear hc2 hk2
  have B2 := Lib.hid (B2.out.far (p := ⟨w1.heap.size, 1, none⟩) (by simp only; omega) (.int .i64 c.text.2.num.1))
  have L2 := Lib.hid (L2.out.far (p := ⟨w1.heap.size, 1, none⟩) (by simp only; omega) (.int .i64 c.text.2.num.1))
  have X2 := Lib.hid (X2.out.set_ 1 (.int .i64 c.text.2.num.1))
  have Hc2 := Lib.hid (Hc2.out.far (p := ⟨w1.heap.size, 1, none⟩) (fun e => hX e.symm) (.int .i64 c.text.2.num.1))
  have K2 := Lib.hid (K2.out.setCell (p := ⟨w1.heap.size, 1, none⟩) (.inr (by simp only; omega)) (.int .i64 c.text.2.num.1))
  go_wp2_with fail
  refine (cutText_any g c.text.2.num.2.s c.text.2.num.2.bad _ l2 Hc2.out).mono ?_
  rintro e w3 ⟨rfl, hc3, hk3⟩
  have B3 := Lib.hid (B2.out.chg hk3 hn0)
  have L3 := Lib.hid (L2.out.chg hk3 hn1)
  have X3 := Lib.hid (X2.out.chg hk3 hX)
  have b3 := B3.out.at1
  obtain ⟨⟨xa3, xb3, xc3, xd3, xe3, xf3, xg3, xh3, xi3, xj3⟩, ya3, yb3, yc3, yd3, ye3, yf3, yg3, yh3, yi3, yj3⟩ := X3.out.at10
  have Hc3 := Lib.hid hc3
  have K3 := Lib.hid (K2.out.trans hk3)
  have hxz3 : w1.heap.size < w3.heap.size := by have := hk3.size; simp only [World.size_alloc, World.size_setCell] at this; omega
  clear hc3 hk3
  have B3 := Lib.hid (B3.out.far (p := ⟨w1.heap.size, 2, none⟩) (by simp only; omega) (.string ⟨c.text.2.num.2.text.1.toArray⟩))
  have L3 := Lib.hid (L3.out.far (p := ⟨w1.heap.size, 2, none⟩) (by simp only; omega) (.string ⟨c.text.2.num.2.text.1.toArray⟩))
  have X3 := Lib.hid (X3.out.set_ 2 (.string ⟨c.text.2.num.2.text.1.toArray⟩))
  have Hc3 := Lib.hid (Hc3.out.far (p := ⟨w1.heap.size, 2, none⟩) (fun e => hX e.symm) (.string ⟨c.text.2.num.2.text.1.toArray⟩))
  have K3 := Lib.hid (K3.out.setCell (p := ⟨w1.heap.size, 2, none⟩) (.inr (by simp only; omega)) (.string ⟨c.text.2.num.2.text.1.toArray⟩))
  have l3 := Nat.le_trans c.text.2.num.2.text_len l2
  obtain ⟨⟨za, zb, zc, zd, ze, zf, zg, zh, zi, zj⟩, wa, wb, wc, wd, we, wf, wg, wh, wi, wj⟩ := L3.out.at10
  go_wp2
  rw [HI.out]
  refine bodyPost_ret (v := .agg (itemV (⟨c.text.1, c.text.2.num.1, c.text.2.num.2.text.1, 0, 0, [], 0, Sp.root0⟩, c.text.2.num.2.text.2).1 none 0).toArray) (by simp [results, Tryz.results175, go_sem, za, zb, zc, zd, ze, zf, zg, zh, zi, zj, wa, wb, wc, wd, we, wf, wg, wh, wi, wj, itemV, Sp.root0]) rfl ⟨none, 0, rfl, ?_, ?_, ?_⟩
  · exact ⟨by simp, .inl rfl⟩
  · unfold CutAt; iterate 10 (refine Blk.far ?_ (fun e => hn1 e.symm) _)
    exact Hc3.out
  · iterate 10 (refine Chg.setCell ?_ (.inr (by simp only; omega)) _)
    exact K3.out
set_option maxRecDepth 100000 in
set_option maxHeartbeats 1600000 in
theorem rdItem2 (g : Nat) (c : Sp.Cut) (w : World) (hs : c.s.length ≤ 4611686018427387904) (hc : CutAt w g c.s c.bad) (hkd : c.text.2.num.1 = 2) :
    Calls Tryz.prog 175 #[.agg #[.pointer (some ⟨g, 0, none⟩)]] w fun e w' => ∃ V cv, e = .returned (.agg (itemV c.item.1 V cv).toArray) ∧ TRow w' w.heap.size StrT V (c.item.1.vals.map tv) ∧ CutAt w' g c.item.2.s c.item.2.bad ∧ Chg (OneM g) w w' := by
  have Hc := Lib.hid hc
  have hg := hc.lt
  have hn0 : ¬ w.heap.size = g := by omega
  have hn1 : ¬ w.heap.size + 1 = g := by omega
  have l1 := Nat.le_trans c.text_len hs
  have l2 := Nat.le_trans c.text.2.num_len l1
  have HI := Lib.hid (show c.item = (⟨c.text.1, c.text.2.num.1, [], c.text.2.num.2.num.1, c.text.2.num.2.num.2.num.1, [], 0, Sp.root0⟩, c.text.2.num.2.num.2.num.2) by unfold Sp.Cut.item; rw [if_neg (by omega), if_pos hkd])
  clear hc
  have B0 := Lib.hid ((Blk.new w 184 #[.pointer (some ⟨g, 0, none⟩)]).alloc (.cells #[.string ⟨#[]⟩, .int .i64 0, .string ⟨#[]⟩, .int .i64 0, .int .i64 0, .slice none 0 0, .int .i64 0, .int .i64 0, .int .i64 0, .int .i64 0] 45))
  have L0 := Lib.hid (blk_second w (.cells #[.pointer (some ⟨g, 0, none⟩)] 184) 45 #[.string ⟨#[]⟩, .int .i64 0, .string ⟨#[]⟩, .int .i64 0, .int .i64 0, .slice none 0 0, .int .i64 0, .int .i64 0, .int .i64 0, .int .i64 0])
  have b0 := B0.out.at1
  have e1 : (c.text.2.num.1 == 1) = false := by rw [beq_eq_false_iff_ne]; omega
  have e2 : (c.text.2.num.1 == 2) = true := by rw [beq_iff_eq]; omega
  clear hkd
  go_enter Tryz.func175, Tryz.ntmps175
  go_wp2_with fail
  refine (cutText_any g c.s c.bad _ hs ((Hc.out.alloc _).alloc _)).mono ?_
  rintro e w1 ⟨rfl, hc1, hk1⟩
  have B1 := Lib.hid ((B0.out.chg hk1 hn0).alloc (.cells #[.string ⟨c.text.1.toArray⟩, .int .i64 0, .string ⟨#[]⟩, .int .i64 0, .int .i64 0, .slice none 0 0, .int .i64 0, .int .i64 0, .int .i64 0, .int .i64 0] 45))
  have L1 := Lib.hid ((L0.out.chg hk1 hn1).alloc (.cells #[.string ⟨c.text.1.toArray⟩, .int .i64 0, .string ⟨#[]⟩, .int .i64 0, .int .i64 0, .slice none 0 0, .int .i64 0, .int .i64 0, .int .i64 0, .int .i64 0] 45))
  have b1 := (B0.out.chg hk1 hn0).at1
  have X1 := Lib.hid (Blk.new w1 45 #[.string ⟨c.text.1.toArray⟩, .int .i64 0, .string ⟨#[]⟩, .int .i64 0, .int .i64 0, .slice none 0 0, .int .i64 0, .int .i64 0, .int .i64 0, .int .i64 0])
  have Hc1 := Lib.hid (hc1.alloc (.cells #[.string ⟨c.text.1.toArray⟩, .int .i64 0, .string ⟨#[]⟩, .int .i64 0, .int .i64 0, .slice none 0 0, .int .i64 0, .int .i64 0, .int .i64 0, .int .i64 0] 45))
  have hz1 := hk1.size
  simp only [World.size_alloc] at hz1
  have hw1 : w.heap.size < w1.heap.size := by omega
  have hX : ¬ w1.heap.size = g := by omega
  have K1 := Lib.hid ((Chg.trans (((Chg.refl (OneM g) w).alloc _).alloc _) hk1).alloc (.cells #[.string ⟨c.text.1.toArray⟩, .int .i64 0, .string ⟨#[]⟩, .int .i64 0, .int .i64 0, .slice none 0 0, .int .i64 0, .int .i64 0, .int .i64 0, .int .i64 0] 45))
  clear hc1 hk1
  go_wp2_with fail
  refine (rdNum_any g c.text.2.s c.text.2.bad _ l1 Hc1.out).mono ?_
  rintro e w2 ⟨rfl, hc2, hk2⟩
  have B2 := Lib.hid (B1.out.chg hk2 hn0)
  have L2 := Lib.hid (L1.out.chg hk2 hn1)
  have X2 := Lib.hid (X1.out.chg hk2 hX)
  have b2 := B2.out.at1
  obtain ⟨⟨xa2, xb2, xc2, xd2, xe2, xf2, xg2, xh2, xi2, xj2⟩, ya2, yb2, yc2, yd2, ye2, yf2, yg2, yh2, yi2, yj2⟩ := X2.out.at10
  have Hc2 := Lib.hid hc2
  have K2 := Lib.hid (K1.out.trans hk2)
  have hxz2 : w1.heap.size < w2.heap.size := by have := hk2.size; simp only [World.size_alloc, World.size_setCell] at this; omega
  clear hc2 hk2
  have B2 := Lib.hid (B2.out.far (p := ⟨w1.heap.size, 1, none⟩) (by simp only; omega) (.int .i64 c.text.2.num.1))
  have L2 := Lib.hid (L2.out.far (p := ⟨w1.heap.size, 1, none⟩) (by simp only; omega) (.int .i64 c.text.2.num.1))
  have X2 := Lib.hid (X2.out.set_ 1 (.int .i64 c.text.2.num.1))
  have Hc2 := Lib.hid (Hc2.out.far (p := ⟨w1.heap.size, 1, none⟩) (fun e => hX e.symm) (.int .i64 c.text.2.num.1))
  have K2 := Lib.hid (K2.out.setCell (p := ⟨w1.heap.size, 1, none⟩) (.inr (by simp only; omega)) (.int .i64 c.text.2.num.1))
  go_wp2_with fail
  refine (rdNum_any g c.text.2.num.2.s c.text.2.num.2.bad _ l2 Hc2.out).mono ?_
  rintro e w3 ⟨rfl, hc3, hk3⟩
  have B3 := Lib.hid (B2.out.chg hk3 hn0)
  have L3 := Lib.hid (L2.out.chg hk3 hn1)
  have X3 := Lib.hid (X2.out.chg hk3 hX)
  have b3 := B3.out.at1
  obtain ⟨⟨xa3, xb3, xc3, xd3, xe3, xf3, xg3, xh3, xi3, xj3⟩, ya3, yb3, yc3, yd3, ye3, yf3, yg3, yh3, yi3, yj3⟩ := X3.out.at10
  have Hc3 := Lib.hid hc3
  have K3 := Lib.hid (K2.out.trans hk3)
  have hxz3 : w1.heap.size < w3.heap.size := by have := hk3.size; simp only [World.size_alloc, World.size_setCell] at this; omega
  clear hc3 hk3
  have B3 := Lib.hid (B3.out.far (p := ⟨w1.heap.size, 3, none⟩) (by simp only; omega) (.int .i64 c.text.2.num.2.num.1))
  have L3 := Lib.hid (L3.out.far (p := ⟨w1.heap.size, 3, none⟩) (by simp only; omega) (.int .i64 c.text.2.num.2.num.1))
  have X3 := Lib.hid (X3.out.set_ 3 (.int .i64 c.text.2.num.2.num.1))
  have Hc3 := Lib.hid (Hc3.out.far (p := ⟨w1.heap.size, 3, none⟩) (fun e => hX e.symm) (.int .i64 c.text.2.num.2.num.1))
  have K3 := Lib.hid (K3.out.setCell (p := ⟨w1.heap.size, 3, none⟩) (.inr (by simp only; omega)) (.int .i64 c.text.2.num.2.num.1))
  have l3 := Nat.le_trans c.text.2.num.2.num_len l2
  go_wp2_with fail
  refine (rdNum_any g c.text.2.num.2.num.2.s c.text.2.num.2.num.2.bad _ l3 Hc3.out).mono ?_
  rintro e w4 ⟨rfl, hc4, hk4⟩
  have B4 := Lib.hid (B3.out.chg hk4 hn0)
  have L4 := Lib.hid (L3.out.chg hk4 hn1)
  have X4 := Lib.hid (X3.out.chg hk4 hX)
  have b4 := B4.out.at1
  obtain ⟨⟨xa4, xb4, xc4, xd4, xe4, xf4, xg4, xh4, xi4, xj4⟩, ya4, yb4, yc4, yd4, ye4, yf4, yg4, yh4, yi4, yj4⟩ := X4.out.at10
  have Hc4 := Lib.hid hc4
  have K4 := Lib.hid (K3.out.trans hk4)
  have hxz4 : w1.heap.size < w4.heap.size := by have := hk4.size; simp only [World.size_alloc, World.size_setCell] at this; omega
  clear hc4 hk4
  have B4 := Lib.hid (B4.out.far (p := ⟨w1.heap.size, 4, none⟩) (by simp only; omega) (.int .i64 c.text.2.num.2.num.2.num.1))
  have L4 := Lib.hid (L4.out.far (p := ⟨w1.heap.size, 4, none⟩) (by simp only; omega) (.int .i64 c.text.2.num.2.num.2.num.1))
  have X4 := Lib.hid (X4.out.set_ 4 (.int .i64 c.text.2.num.2.num.2.num.1))
  have Hc4 := Lib.hid (Hc4.out.far (p := ⟨w1.heap.size, 4, none⟩) (fun e => hX e.symm) (.int .i64 c.text.2.num.2.num.2.num.1))
  have K4 := Lib.hid (K4.out.setCell (p := ⟨w1.heap.size, 4, none⟩) (.inr (by simp only; omega)) (.int .i64 c.text.2.num.2.num.2.num.1))
  have l4 := Nat.le_trans c.text.2.num.2.num.2.num_len l3
  obtain ⟨⟨za, zb, zc, zd, ze, zf, zg, zh, zi, zj⟩, wa, wb, wc, wd, we, wf, wg, wh, wi, wj⟩ := L4.out.at10
  go_wp2
  rw [HI.out]
  refine bodyPost_ret (v := .agg (itemV (⟨c.text.1, c.text.2.num.1, [], c.text.2.num.2.num.1, c.text.2.num.2.num.2.num.1, [], 0, Sp.root0⟩, c.text.2.num.2.num.2.num.2).1 none 0).toArray) (by simp [results, Tryz.results175, go_sem, za, zb, zc, zd, ze, zf, zg, zh, zi, zj, wa, wb, wc, wd, we, wf, wg, wh, wi, wj, itemV, Sp.root0]) rfl ⟨none, 0, rfl, ?_, ?_, ?_⟩
  · exact ⟨by simp, .inl rfl⟩
  · unfold CutAt; iterate 10 (refine Blk.far ?_ (fun e => hn1 e.symm) _)
    exact Hc4.out
  · iterate 10 (refine Chg.setCell ?_ (.inr (by simp only; omega)) _)
    exact K4.out
end Go.Proofs.YtlpmjeiogdlifaaGreat
namespace Go.Proofs.YtlpmjeiogdlifaaGreat
open Go.RowKit
attribute [local go_sem low] mk_extract
attribute [local go_sem] After.cell After.frozen mk_extract_end ByteArray.mk_append_mk
set_option maxRecDepth 100000 in
set_option maxHeartbeats 1600000 in
theorem rdItem3 (g : Nat) (c : Sp.Cut) (w : World) (hs : c.s.length ≤ 4611686018427387904) (hc : CutAt w g c.s c.bad) (hkd : c.text.2.num.1 = 3) :
    Calls Tryz.prog 175 #[.agg #[.pointer (some ⟨g, 0, none⟩)]] w fun e w' => ∃ V cv, e = .returned (.agg (itemV c.item.1 V cv).toArray) ∧ TRow w' w.heap.size StrT V (c.item.1.vals.map tv) ∧ CutAt w' g c.item.2.s c.item.2.bad ∧ Chg (OneM g) w w' := by
  have Hc := Lib.hid hc
  have hg := hc.lt
  have hn0 : ¬ w.heap.size = g := by omega
  have hn1 : ¬ w.heap.size + 1 = g := by omega
  have l1 := Nat.le_trans c.text_len hs
  have l2 := Nat.le_trans c.text.2.num_len l1
  have HI := Lib.hid (show c.item = (⟨c.text.1, c.text.2.num.1, [], 0, 0, c.text.2.num.2.vals.1, c.text.2.num.2.vals.2.num.1, Sp.root0⟩, c.text.2.num.2.vals.2.num.2) by unfold Sp.Cut.item; rw [if_neg (by omega), if_neg (by omega), if_pos hkd])
  clear hc
  have B0 := Lib.hid ((Blk.new w 184 #[.pointer (some ⟨g, 0, none⟩)]).alloc (.cells #[.string ⟨#[]⟩, .int .i64 0, .string ⟨#[]⟩, .int .i64 0, .int .i64 0, .slice none 0 0, .int .i64 0, .int .i64 0, .int .i64 0, .int .i64 0] 45))
  have L0 := Lib.hid (blk_second w (.cells #[.pointer (some ⟨g, 0, none⟩)] 184) 45 #[.string ⟨#[]⟩, .int .i64 0, .string ⟨#[]⟩, .int .i64 0, .int .i64 0, .slice none 0 0, .int .i64 0, .int .i64 0, .int .i64 0, .int .i64 0])
  have b0 := B0.out.at1
  have e1 : (c.text.2.num.1 == 1) = false := by rw [beq_eq_false_iff_ne]; omega
  have e2 : (c.text.2.num.1 == 2) = false := by rw [beq_eq_false_iff_ne]; omega
  have e3 : (c.text.2.num.1 == 3) = true := by rw [beq_iff_eq]; omega
  clear hkd
  go_enter Tryz.func175, Tryz.ntmps175
  go_wp2_with fail
  refine (cutText_any g c.s c.bad _ hs ((Hc.out.alloc _).alloc _)).mono ?_
  rintro e w1 ⟨rfl, hc1, hk1⟩
  have B1 := Lib.hid ((B0.out.chg hk1 hn0).alloc (.cells #[.string ⟨c.text.1.toArray⟩, .int .i64 0, .string ⟨#[]⟩, .int .i64 0, .int .i64 0, .slice none 0 0, .int .i64 0, .int .i64 0, .int .i64 0, .int .i64 0] 45))
  have L1 := Lib.hid ((L0.out.chg hk1 hn1).alloc (.cells #[.string ⟨c.text.1.toArray⟩, .int .i64 0, .string ⟨#[]⟩, .int .i64 0, .int .i64 0, .slice none 0 0, .int .i64 0, .int .i64 0, .int .i64 0, .int .i64 0] 45))
  have b1 := (B0.out.chg hk1 hn0).at1
  have X1 := Lib.hid (Blk.new w1 45 #[.string ⟨c.text.1.toArray⟩, .int .i64 0, .string ⟨#[]⟩, .int .i64 0, .int .i64 0, .slice none 0 0, .int .i64 0, .int .i64 0, .int .i64 0, .int .i64 0])
  have Hc1 := Lib.hid (hc1.alloc (.cells #[.string ⟨c.text.1.toArray⟩, .int .i64 0, .string ⟨#[]⟩, .int .i64 0, .int .i64 0, .slice none 0 0, .int .i64 0, .int .i64 0, .int .i64 0, .int .i64 0] 45))
  have hz1 := hk1.size
  simp only [World.size_alloc] at hz1
  have hw1 : w.heap.size < w1.heap.size := by omega
  have hX : ¬ w1.heap.size = g := by omega
  have K1 := Lib.hid ((Chg.trans (((Chg.refl (OneM g) w).alloc _).alloc _) hk1).alloc (.cells #[.string ⟨c.text.1.toArray⟩, .int .i64 0, .string ⟨#[]⟩, .int .i64 0, .int .i64 0, .slice none 0 0, .int .i64 0, .int .i64 0, .int .i64 0, .int .i64 0] 45))
  clear hc1 hk1
  go_wp2_with fail
  refine (rdNum_any g c.text.2.s c.text.2.bad _ l1 Hc1.out).mono ?_
  rintro e w2 ⟨rfl, hc2, hk2⟩
  have B2 := Lib.hid (B1.out.chg hk2 hn0)
  have L2 := Lib.hid (L1.out.chg hk2 hn1)
  have X2 := Lib.hid (X1.out.chg hk2 hX)
  have b2 := B2.out.at1
  obtain ⟨⟨xa2, xb2, xc2, xd2, xe2, xf2, xg2, xh2, xi2, xj2⟩, ya2, yb2, yc2, yd2, ye2, yf2, yg2, yh2, yi2, yj2⟩ := X2.out.at10
  have Hc2 := Lib.hid hc2
  have K2 := Lib.hid (K1.out.trans hk2)
  have hxz2 : w1.heap.size < w2.heap.size := by have := hk2.size; simp only [World.size_alloc, World.size_setCell] at this; omega
  clear hc2 hk2
  have B2 := Lib.hid (B2.out.far (p := ⟨w1.heap.size, 1, none⟩) (by simp only; omega) (.int .i64 c.text.2.num.1))
  have L2 := Lib.hid (L2.out.far (p := ⟨w1.heap.size, 1, none⟩) (by simp only; omega) (.int .i64 c.text.2.num.1))
  have X2 := Lib.hid (X2.out.set_ 1 (.int .i64 c.text.2.num.1))
  have Hc2 := Lib.hid (Hc2.out.far (p := ⟨w1.heap.size, 1, none⟩) (fun e => hX e.symm) (.int .i64 c.text.2.num.1))
  have K2 := Lib.hid (K2.out.setCell (p := ⟨w1.heap.size, 1, none⟩) (.inr (by simp only; omega)) (.int .i64 c.text.2.num.1))
  go_wp2_with fail
  refine (rdVals_any g c.text.2.num.2.s c.text.2.num.2.bad _ l2 Hc2.out).mono ?_
  rintro e w3 ⟨A, cp, rfl, ht3, hc3, hk3⟩
  have B3 := Lib.hid (B2.out.chg hk3 hn0)
  have L3 := Lib.hid (L2.out.chg hk3 hn1)
  have X3 := Lib.hid (X2.out.chg hk3 hX)
  have b3 := B3.out.at1
  obtain ⟨⟨xa3, xb3, xc3, xd3, xe3, xf3, xg3, xh3, xi3, xj3⟩, ya3, yb3, yc3, yd3, ye3, yf3, yg3, yh3, yi3, yj3⟩ := X3.out.at10
  have Hc3 := Lib.hid hc3
  have K3 := Lib.hid (K2.out.trans hk3)
  have hxz3 : w1.heap.size < w3.heap.size := by have := hk3.size; simp only [World.size_alloc, World.size_setCell] at this; omega
  clear hc3 hk3
  obtain ⟨bs, hbs, HT3⟩ : ∃ bs, w1.heap.size < bs ∧ Hid (TRow w3 bs StrT A (c.text.2.num.2.vals.1.map tv)) := ⟨_, (by simp; omega), Lib.hid ht3⟩
  clear ht3
  have B3 := Lib.hid (B3.out.far (p := ⟨w1.heap.size, 5, none⟩) (by simp only; omega) (.slice A c.text.2.num.2.vals.1.length cp))
  have L3 := Lib.hid (L3.out.far (p := ⟨w1.heap.size, 5, none⟩) (by simp only; omega) (.slice A c.text.2.num.2.vals.1.length cp))
  have X3 := Lib.hid (X3.out.set_ 5 (.slice A c.text.2.num.2.vals.1.length cp))
  have Hc3 := Lib.hid (Hc3.out.far (p := ⟨w1.heap.size, 5, none⟩) (fun e => hX e.symm) (.slice A c.text.2.num.2.vals.1.length cp))
  have K3 := Lib.hid (K3.out.setCell (p := ⟨w1.heap.size, 5, none⟩) (.inr (by simp only; omega)) (.slice A c.text.2.num.2.vals.1.length cp))
  have HT3 := Lib.hid (HT3.out.chg (Chg.set1 _ w1.heap.size 5 (.slice A c.text.2.num.2.vals.1.length cp)) (fun k hb hi => by unfold OneM at hi; omega))
  have l3 := Nat.le_trans c.text.2.num.2.vals_len l2
  go_wp2_with fail
  refine (rdNum_any g c.text.2.num.2.vals.2.s c.text.2.num.2.vals.2.bad _ l3 Hc3.out).mono ?_
  rintro e w4 ⟨rfl, hc4, hk4⟩
  have B4 := Lib.hid (B3.out.chg hk4 hn0)
  have L4 := Lib.hid (L3.out.chg hk4 hn1)
  have X4 := Lib.hid (X3.out.chg hk4 hX)
  have b4 := B4.out.at1
  obtain ⟨⟨xa4, xb4, xc4, xd4, xe4, xf4, xg4, xh4, xi4, xj4⟩, ya4, yb4, yc4, yd4, ye4, yf4, yg4, yh4, yi4, yj4⟩ := X4.out.at10
  have Hc4 := Lib.hid hc4
  have K4 := Lib.hid (K3.out.trans hk4)
  have hxz4 : w1.heap.size < w4.heap.size := by have := hk4.size; simp only [World.size_alloc, World.size_setCell] at this; omega
  have HT4 := Lib.hid (HT3.out.chg hk4 (fun k hb hi => by unfold OneM at hi; omega))
  clear hc4 hk4
  have B4 := Lib.hid (B4.out.far (p := ⟨w1.heap.size, 6, none⟩) (by simp only; omega) (.int .i64 c.text.2.num.2.vals.2.num.1))
  have L4 := Lib.hid (L4.out.far (p := ⟨w1.heap.size, 6, none⟩) (by simp only; omega) (.int .i64 c.text.2.num.2.vals.2.num.1))
  have X4 := Lib.hid (X4.out.set_ 6 (.int .i64 c.text.2.num.2.vals.2.num.1))
  have Hc4 := Lib.hid (Hc4.out.far (p := ⟨w1.heap.size, 6, none⟩) (fun e => hX e.symm) (.int .i64 c.text.2.num.2.vals.2.num.1))
  have K4 := Lib.hid (K4.out.setCell (p := ⟨w1.heap.size, 6, none⟩) (.inr (by simp only; omega)) (.int .i64 c.text.2.num.2.vals.2.num.1))
  have HT4 := Lib.hid (HT4.out.chg (Chg.set1 _ w1.heap.size 6 (.int .i64 c.text.2.num.2.vals.2.num.1)) (fun k hb hi => by unfold OneM at hi; omega))
  have l4 := Nat.le_trans c.text.2.num.2.vals.2.num_len l3
  obtain ⟨⟨za, zb, zc, zd, ze, zf, zg, zh, zi, zj⟩, wa, wb, wc, wd, we, wf, wg, wh, wi, wj⟩ := L4.out.at10
  go_wp2
  rw [HI.out]
  refine bodyPost_ret (v := .agg (itemV (⟨c.text.1, c.text.2.num.1, [], 0, 0, c.text.2.num.2.vals.1, c.text.2.num.2.vals.2.num.1, Sp.root0⟩, c.text.2.num.2.vals.2.num.2).1 A cp).toArray) (by simp [results, Tryz.results175, go_sem, za, zb, zc, zd, ze, zf, zg, zh, zi, zj, wa, wb, wc, wd, we, wf, wg, wh, wi, wj, itemV, Sp.root0]) rfl ⟨A, cp, rfl, ?_, ?_, ?_⟩
  · refine TRow.less (base := bs) ?_ (by omega)
    iterate 10 (refine TRow.chg ?_ (Chg.set1 _ _ _ _) (fun k hb hi => by unfold OneM at hi; omega))
    exact HT4.out
  · unfold CutAt; iterate 10 (refine Blk.far ?_ (fun e => hn1 e.symm) _)
    exact Hc4.out
  · iterate 10 (refine Chg.setCell ?_ (.inr (by simp only; omega)) _)
    exact K4.out
set_option maxRecDepth 100000 in
set_option maxHeartbeats 1600000 in
theorem rdItem4 (g : Nat) (c : Sp.Cut) (w : World) (hs : c.s.length ≤ 4611686018427387904) (hc : CutAt w g c.s c.bad) (hkd : c.text.2.num.1 = 4) :
    Calls Tryz.prog 175 #[.agg #[.pointer (some ⟨g, 0, none⟩)]] w fun e w' => ∃ V cv, e = .returned (.agg (itemV c.item.1 V cv).toArray) ∧ TRow w' w.heap.size StrT V (c.item.1.vals.map tv) ∧ CutAt w' g c.item.2.s c.item.2.bad ∧ Chg (OneM g) w w' := by
  have Hc := Lib.hid hc
  have hg := hc.lt
  have hn0 : ¬ w.heap.size = g := by omega
  have hn1 : ¬ w.heap.size + 1 = g := by omega
  have l1 := Nat.le_trans c.text_len hs
  have l2 := Nat.le_trans c.text.2.num_len l1
  have HI := Lib.hid (show c.item = (⟨c.text.1, c.text.2.num.1, [], 0, 0, [], 0, c.text.2.num.2.root.1⟩, c.text.2.num.2.root.2) by unfold Sp.Cut.item; rw [if_neg (by omega), if_neg (by omega), if_neg (by omega), if_pos hkd])
  clear hc
  have B0 := Lib.hid ((Blk.new w 184 #[.pointer (some ⟨g, 0, none⟩)]).alloc (.cells #[.string ⟨#[]⟩, .int .i64 0, .string ⟨#[]⟩, .int .i64 0, .int .i64 0, .slice none 0 0, .int .i64 0, .int .i64 0, .int .i64 0, .int .i64 0] 45))
  have L0 := Lib.hid (blk_second w (.cells #[.pointer (some ⟨g, 0, none⟩)] 184) 45 #[.string ⟨#[]⟩, .int .i64 0, .string ⟨#[]⟩, .int .i64 0, .int .i64 0, .slice none 0 0, .int .i64 0, .int .i64 0, .int .i64 0, .int .i64 0])
  have b0 := B0.out.at1
  have e1 : (c.text.2.num.1 == 1) = false := by rw [beq_eq_false_iff_ne]; omega
  have e2 : (c.text.2.num.1 == 2) = false := by rw [beq_eq_false_iff_ne]; omega
  have e3 : (c.text.2.num.1 == 3) = false := by rw [beq_eq_false_iff_ne]; omega
  have e4 : (c.text.2.num.1 == 4) = true := by rw [beq_iff_eq]; omega
  clear hkd
  go_enter Tryz.func175, Tryz.ntmps175
  go_wp2_with fail
  refine (cutText_any g c.s c.bad _ hs ((Hc.out.alloc _).alloc _)).mono ?_
  rintro e w1 ⟨rfl, hc1, hk1⟩
  have B1 := Lib.hid ((B0.out.chg hk1 hn0).alloc (.cells #[.string ⟨c.text.1.toArray⟩, .int .i64 0, .string ⟨#[]⟩, .int .i64 0, .int .i64 0, .slice none 0 0, .int .i64 0, .int .i64 0, .int .i64 0, .int .i64 0] 45))
  have L1 := Lib.hid ((L0.out.chg hk1 hn1).alloc (.cells #[.string ⟨c.text.1.toArray⟩, .int .i64 0, .string ⟨#[]⟩, .int .i64 0, .int .i64 0, .slice none 0 0, .int .i64 0, .int .i64 0, .int .i64 0, .int .i64 0] 45))
  have b1 := (B0.out.chg hk1 hn0).at1
  have X1 := Lib.hid (Blk.new w1 45 #[.string ⟨c.text.1.toArray⟩, .int .i64 0, .string ⟨#[]⟩, .int .i64 0, .int .i64 0, .slice none 0 0, .int .i64 0, .int .i64 0, .int .i64 0, .int .i64 0])
  have Hc1 := Lib.hid (hc1.alloc (.cells #[.string ⟨c.text.1.toArray⟩, .int .i64 0, .string ⟨#[]⟩, .int .i64 0, .int .i64 0, .slice none 0 0, .int .i64 0, .int .i64 0, .int .i64 0, .int .i64 0] 45))
  have hz1 := hk1.size
  simp only [World.size_alloc] at hz1
  have hw1 : w.heap.size < w1.heap.size := by omega
  have hX : ¬ w1.heap.size = g := by omega
  have K1 := Lib.hid ((Chg.trans (((Chg.refl (OneM g) w).alloc _).alloc _) hk1).alloc (.cells #[.string ⟨c.text.1.toArray⟩, .int .i64 0, .string ⟨#[]⟩, .int .i64 0, .int .i64 0, .slice none 0 0, .int .i64 0, .int .i64 0, .int .i64 0, .int .i64 0] 45))
  clear hc1 hk1
  go_wp2_with fail
  refine (rdNum_any g c.text.2.s c.text.2.bad _ l1 Hc1.out).mono ?_
  rintro e w2 ⟨rfl, hc2, hk2⟩
  have B2 := Lib.hid (B1.out.chg hk2 hn0)
  have L2 := Lib.hid (L1.out.chg hk2 hn1)
  have X2 := Lib.hid (X1.out.chg hk2 hX)
  have b2 := B2.out.at1
  obtain ⟨⟨xa2, xb2, xc2, xd2, xe2, xf2, xg2, xh2, xi2, xj2⟩, ya2, yb2, yc2, yd2, ye2, yf2, yg2, yh2, yi2, yj2⟩ := X2.out.at10
  have Hc2 := Lib.hid hc2
  have K2 := Lib.hid (K1.out.trans hk2)
  have hxz2 : w1.heap.size < w2.heap.size := by have := hk2.size; simp only [World.size_alloc, World.size_setCell] at this; omega
  clear hc2 hk2
  have B2 := Lib.hid (B2.out.far (p := ⟨w1.heap.size, 1, none⟩) (by simp only; omega) (.int .i64 c.text.2.num.1))
  have L2 := Lib.hid (L2.out.far (p := ⟨w1.heap.size, 1, none⟩) (by simp only; omega) (.int .i64 c.text.2.num.1))
  have X2 := Lib.hid (X2.out.set_ 1 (.int .i64 c.text.2.num.1))
  have Hc2 := Lib.hid (Hc2.out.far (p := ⟨w1.heap.size, 1, none⟩) (fun e => hX e.symm) (.int .i64 c.text.2.num.1))
  have K2 := Lib.hid (K2.out.setCell (p := ⟨w1.heap.size, 1, none⟩) (.inr (by simp only; omega)) (.int .i64 c.text.2.num.1))
  go_wp2_with fail
  refine (rdRoot_any g c.text.2.num.2 _ l2 Hc2.out).mono ?_
  rintro e w3 ⟨rfl, hc3, hk3⟩
  simp only [rootV]
  have B3 := Lib.hid (B2.out.chg hk3 hn0)
  have L3 := Lib.hid (L2.out.chg hk3 hn1)
  have X3 := Lib.hid (X2.out.chg hk3 hX)
  have b3 := B3.out.at1
  obtain ⟨⟨xa3, xb3, xc3, xd3, xe3, xf3, xg3, xh3, xi3, xj3⟩, ya3, yb3, yc3, yd3, ye3, yf3, yg3, yh3, yi3, yj3⟩ := X3.out.at10
  have Hc3 := Lib.hid hc3
  have K3 := Lib.hid (K2.out.trans hk3)
  have hxz3 : w1.heap.size < w3.heap.size := by have := hk3.size; simp only [World.size_alloc, World.size_setCell] at this; omega
  clear hc3 hk3
  have B3 := Lib.hid (B3.out.far (p := ⟨w1.heap.size, 7, none⟩) (by simp only; omega) (.int .i64 c.text.2.num.2.root.1.page))
  have L3 := Lib.hid (L3.out.far (p := ⟨w1.heap.size, 7, none⟩) (by simp only; omega) (.int .i64 c.text.2.num.2.root.1.page))
  have X3 := Lib.hid (X3.out.set_ 7 (.int .i64 c.text.2.num.2.root.1.page))
  have Hc3 := Lib.hid (Hc3.out.far (p := ⟨w1.heap.size, 7, none⟩) (fun e => hX e.symm) (.int .i64 c.text.2.num.2.root.1.page))
  have K3 := Lib.hid (K3.out.setCell (p := ⟨w1.heap.size, 7, none⟩) (.inr (by simp only; omega)) (.int .i64 c.text.2.num.2.root.1.page))
  have B3 := Lib.hid (B3.out.far (p := ⟨w1.heap.size, 8, none⟩) (by simp only; omega) (.int .i64 c.text.2.num.2.root.1.count))
  have L3 := Lib.hid (L3.out.far (p := ⟨w1.heap.size, 8, none⟩) (by simp only; omega) (.int .i64 c.text.2.num.2.root.1.count))
  have X3 := Lib.hid (X3.out.set_ 8 (.int .i64 c.text.2.num.2.root.1.count))
  have Hc3 := Lib.hid (Hc3.out.far (p := ⟨w1.heap.size, 8, none⟩) (fun e => hX e.symm) (.int .i64 c.text.2.num.2.root.1.count))
  have K3 := Lib.hid (K3.out.setCell (p := ⟨w1.heap.size, 8, none⟩) (.inr (by simp only; omega)) (.int .i64 c.text.2.num.2.root.1.count))
  have B3 := Lib.hid (B3.out.far (p := ⟨w1.heap.size, 9, none⟩) (by simp only; omega) (.int .i64 c.text.2.num.2.root.1.flags))
  have L3 := Lib.hid (L3.out.far (p := ⟨w1.heap.size, 9, none⟩) (by simp only; omega) (.int .i64 c.text.2.num.2.root.1.flags))
  have X3 := Lib.hid (X3.out.set_ 9 (.int .i64 c.text.2.num.2.root.1.flags))
  have Hc3 := Lib.hid (Hc3.out.far (p := ⟨w1.heap.size, 9, none⟩) (fun e => hX e.symm) (.int .i64 c.text.2.num.2.root.1.flags))
  have K3 := Lib.hid (K3.out.setCell (p := ⟨w1.heap.size, 9, none⟩) (.inr (by simp only; omega)) (.int .i64 c.text.2.num.2.root.1.flags))
  have l3 := Nat.le_trans c.text.2.num.2.root_len l2
  obtain ⟨⟨za, zb, zc, zd, ze, zf, zg, zh, zi, zj⟩, wa, wb, wc, wd, we, wf, wg, wh, wi, wj⟩ := L3.out.at10
  go_wp2
  rw [HI.out]
  refine bodyPost_ret (v := .agg (itemV (⟨c.text.1, c.text.2.num.1, [], 0, 0, [], 0, c.text.2.num.2.root.1⟩, c.text.2.num.2.root.2).1 none 0).toArray) (by simp [results, Tryz.results175, go_sem, za, zb, zc, zd, ze, zf, zg, zh, zi, zj, wa, wb, wc, wd, we, wf, wg, wh, wi, wj, itemV, Sp.root0]) rfl ⟨none, 0, rfl, ?_, ?_, ?_⟩
  · exact ⟨by simp, .inl rfl⟩
  · unfold CutAt; iterate 10 (refine Blk.far ?_ (fun e => hn1 e.symm) _)
    exact Hc3.out
  · iterate 10 (refine Chg.setCell ?_ (.inr (by simp only; omega)) _)
    exact K3.out
end Go.Proofs.YtlpmjeiogdlifaaGreat
namespace Go.Proofs.YtlpmjeiogdlifaaGreat
open Go.RowKit
attribute [local go_sem low] mk_extract
attribute [local go_sem] After.cell After.frozen mk_extract_end ByteArray.mk_append_mk
set_option maxRecDepth 100000 in
set_option maxHeartbeats 1600000 in
theorem rdItem5 (g : Nat) (c : Sp.Cut) (w : World) (hs : c.s.length ≤ 4611686018427387904) (hc : CutAt w g c.s c.bad) (hkd : ¬ c.text.2.num.1 = 1 ∧ ¬ c.text.2.num.1 = 2 ∧ ¬ c.text.2.num.1 = 3 ∧ ¬ c.text.2.num.1 = 4) :
    Calls Tryz.prog 175 #[.agg #[.pointer (some ⟨g, 0, none⟩)]] w fun e w' => ∃ V cv, e = .returned (.agg (itemV c.item.1 V cv).toArray) ∧ TRow w' w.heap.size StrT V (c.item.1.vals.map tv) ∧ CutAt w' g c.item.2.s c.item.2.bad ∧ Chg (OneM g) w w' := by
  have Hc := Lib.hid hc
  have hg := hc.lt
  have hn0 : ¬ w.heap.size = g := by omega
  have hn1 : ¬ w.heap.size + 1 = g := by omega
  have l1 := Nat.le_trans c.text_len hs
  have l2 := Nat.le_trans c.text.2.num_len l1
  have HI := Lib.hid (show c.item = (⟨c.text.1, c.text.2.num.1, [], 0, 0, [], 0, Sp.root0⟩, c.text.2.num.2) by unfold Sp.Cut.item; rw [if_neg hkd.1, if_neg hkd.2.1, if_neg hkd.2.2.1, if_neg hkd.2.2.2])
  clear hc
  have B0 := Lib.hid ((Blk.new w 184 #[.pointer (some ⟨g, 0, none⟩)]).alloc (.cells #[.string ⟨#[]⟩, .int .i64 0, .string ⟨#[]⟩, .int .i64 0, .int .i64 0, .slice none 0 0, .int .i64 0, .int .i64 0, .int .i64 0, .int .i64 0] 45))
  have L0 := Lib.hid (blk_second w (.cells #[.pointer (some ⟨g, 0, none⟩)] 184) 45 #[.string ⟨#[]⟩, .int .i64 0, .string ⟨#[]⟩, .int .i64 0, .int .i64 0, .slice none 0 0, .int .i64 0, .int .i64 0, .int .i64 0, .int .i64 0])
  have b0 := B0.out.at1
  have e1 : (c.text.2.num.1 == 1) = false := by rw [beq_eq_false_iff_ne]; omega
  have e2 : (c.text.2.num.1 == 2) = false := by rw [beq_eq_false_iff_ne]; omega
  have e3 : (c.text.2.num.1 == 3) = false := by rw [beq_eq_false_iff_ne]; omega
  have e4 : (c.text.2.num.1 == 4) = false := by rw [beq_eq_false_iff_ne]; omega
  clear hkd
  go_enter Tryz.func175, Tryz.ntmps175
  go_wp2_with fail
  refine (cutText_any g c.s c.bad _ hs ((Hc.out.alloc _).alloc _)).mono ?_
  rintro e w1 ⟨rfl, hc1, hk1⟩
  have B1 := Lib.hid ((B0.out.chg hk1 hn0).alloc (.cells #[.string ⟨c.text.1.toArray⟩, .int .i64 0, .string ⟨#[]⟩, .int .i64 0, .int .i64 0, .slice none 0 0, .int .i64 0, .int .i64 0, .int .i64 0, .int .i64 0] 45))
  have L1 := Lib.hid ((L0.out.chg hk1 hn1).alloc (.cells #[.string ⟨c.text.1.toArray⟩, .int .i64 0, .string ⟨#[]⟩, .int .i64 0, .int .i64 0, .slice none 0 0, .int .i64 0, .int .i64 0, .int .i64 0, .int .i64 0] 45))
  have b1 := (B0.out.chg hk1 hn0).at1
  have X1 := Lib.hid (Blk.new w1 45 #[.string ⟨c.text.1.toArray⟩, .int .i64 0, .string ⟨#[]⟩, .int .i64 0, .int .i64 0, .slice none 0 0, .int .i64 0, .int .i64 0, .int .i64 0, .int .i64 0])
  have Hc1 := Lib.hid (hc1.alloc (.cells #[.string ⟨c.text.1.toArray⟩, .int .i64 0, .string ⟨#[]⟩, .int .i64 0, .int .i64 0, .slice none 0 0, .int .i64 0, .int .i64 0, .int .i64 0, .int .i64 0] 45))
  have hz1 := hk1.size
  simp only [World.size_alloc] at hz1
  have hw1 : w.heap.size < w1.heap.size := by omega
  have hX : ¬ w1.heap.size = g := by omega
  have K1 := Lib.hid ((Chg.trans (((Chg.refl (OneM g) w).alloc _).alloc _) hk1).alloc (.cells #[.string ⟨c.text.1.toArray⟩, .int .i64 0, .string ⟨#[]⟩, .int .i64 0, .int .i64 0, .slice none 0 0, .int .i64 0, .int .i64 0, .int .i64 0, .int .i64 0] 45))
  clear hc1 hk1
  go_wp2_with fail
  refine (rdNum_any g c.text.2.s c.text.2.bad _ l1 Hc1.out).mono ?_
  rintro e w2 ⟨rfl, hc2, hk2⟩
  have B2 := Lib.hid (B1.out.chg hk2 hn0)
  have L2 := Lib.hid (L1.out.chg hk2 hn1)
  have X2 := Lib.hid (X1.out.chg hk2 hX)
  have b2 := B2.out.at1
  obtain ⟨⟨xa2, xb2, xc2, xd2, xe2, xf2, xg2, xh2, xi2, xj2⟩, ya2, yb2, yc2, yd2, ye2, yf2, yg2, yh2, yi2, yj2⟩ := X2.out.at10
  have Hc2 := Lib.hid hc2
  have K2 := Lib.hid (K1.out.trans hk2)
  have hxz2 : w1.heap.size < w2.heap.size := by have := hk2.size; simp only [World.size_alloc, World.size_setCell] at this; omega
  clear hc2 hk2
  have B2 := Lib.hid (B2.out.far (p := ⟨w1.heap.size, 1, none⟩) (by simp only; omega) (.int .i64 c.text.2.num.1))
  have L2 := Lib.hid (L2.out.far (p := ⟨w1.heap.size, 1, none⟩) (by simp only; omega) (.int .i64 c.text.2.num.1))
  have X2 := Lib.hid (X2.out.set_ 1 (.int .i64 c.text.2.num.1))
  have Hc2 := Lib.hid (Hc2.out.far (p := ⟨w1.heap.size, 1, none⟩) (fun e => hX e.symm) (.int .i64 c.text.2.num.1))
  have K2 := Lib.hid (K2.out.setCell (p := ⟨w1.heap.size, 1, none⟩) (.inr (by simp only; omega)) (.int .i64 c.text.2.num.1))
  obtain ⟨⟨za, zb, zc, zd, ze, zf, zg, zh, zi, zj⟩, wa, wb, wc, wd, we, wf, wg, wh, wi, wj⟩ := L2.out.at10
  go_wp2
  rw [HI.out]
  refine bodyPost_ret (v := .agg (itemV (⟨c.text.1, c.text.2.num.1, [], 0, 0, [], 0, Sp.root0⟩, c.text.2.num.2).1 none 0).toArray) (by simp [results, Tryz.results175, go_sem, za, zb, zc, zd, ze, zf, zg, zh, zi, zj, wa, wb, wc, wd, we, wf, wg, wh, wi, wj, itemV, Sp.root0]) rfl ⟨none, 0, rfl, ?_, ?_, ?_⟩
  · exact ⟨by simp, .inl rfl⟩
  · unfold CutAt; iterate 10 (refine Blk.far ?_ (fun e => hn1 e.symm) _)
    exact Hc2.out
  · iterate 10 (refine Chg.setCell ?_ (.inr (by simp only; omega)) _)
    exact K2.out
theorem rdItem_any (g : Nat) (c : Sp.Cut) (w : World) (hs : c.s.length ≤ 4611686018427387904) (hc : CutAt w g c.s c.bad) :
    Calls Tryz.prog 175 #[.agg #[.pointer (some ⟨g, 0, none⟩)]] w fun e w' => ∃ V cv, e = .returned (.agg (itemV c.item.1 V cv).toArray) ∧ TRow w' w.heap.size StrT V (c.item.1.vals.map tv) ∧ CutAt w' g c.item.2.s c.item.2.bad ∧ Chg (OneM g) w w' := by
  by_cases h1 : c.text.2.num.1 = 1
  · exact rdItem1 g c w hs hc h1
  · by_cases h2 : c.text.2.num.1 = 2
    · exact rdItem2 g c w hs hc h2
    · by_cases h3 : c.text.2.num.1 = 3
      · exact rdItem3 g c w hs hc h3
      · by_cases h4 : c.text.2.num.1 = 4
        · exact rdItem4 g c w hs hc h4
        · exact rdItem5 g c w hs hc ⟨h1, h2, h3, h4⟩
theorem Sp.Cut.item_len (c : Sp.Cut) : c.item.2.s.length ≤ c.s.length := by
  have h0 := c.text_len
  have h1 := c.text.2.num_len
  have a1 := c.text.2.num.2.text_len
  have a2 := c.text.2.num.2.num_len
  have a3 := c.text.2.num.2.num.2.num_len
  have a4 := c.text.2.num.2.vals_len
  have a5 := c.text.2.num.2.vals.2.num_len
  have a6 := c.text.2.num.2.root_len
  unfold Sp.Cut.item
  split
  · simp only; omega
  · split
    · simp only; omega
    · split
      · simp only; omega
      · split
        · simp only; omega
        · simp only; omega
end Go.Proofs.YtlpmjeiogdlifaaGreat
