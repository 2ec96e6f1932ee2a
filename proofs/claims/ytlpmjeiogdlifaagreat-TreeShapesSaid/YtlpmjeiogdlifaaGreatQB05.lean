/- Reading: a page, kind 3. Reading: a page, kind 4. Reading: a page, kind 5. Reading: a page, kind 6. Reading: a page, kind 7. isVals. Whether a number, a root, a key may be. -/
import Derived.Test.YtlpmjeiogdlifaaGreatQB00
import Derived.Test.YtlpmjeiogdlifaaGreatQB01
import Derived.Test.YtlpmjeiogdlifaaGreatQB04
import Derived.Deep.RegionHeld3
import Derived.Test.YtlpmjeiogdlifaaGreatProg
set_option linter.unusedSimpArgs false
set_option linter.unusedVariables false
namespace Go.Proofs.YtlpmjeiogdlifaaGreat
open Go.RowKit
attribute [local go_sem low] mk_extract
attribute [local go_sem] After.cell After.frozen mk_extract_end ByteArray.mk_append_mk
set_option maxRecDepth 100000 in
set_option maxHeartbeats 1600000 in
theorem rdPage3 (g : Nat) (c : Sp.Cut) (w : World) (hs : c.s.length ≤ 4611686018427387904) (hc : CutAt w g c.s c.bad) (hkd : c.num.1 = 3) :
    Calls Tryz.prog 121 #[.agg #[.pointer (some ⟨g, 0, none⟩)]] w fun e w' => PageOut g c w e w' := by
  have Hc := Lib.hid hc
  have hg := hc.lt
  have hn0 : ¬ w.heap.size = g := by omega
  have hn1 : ¬ w.heap.size + 1 = g := by omega
  have l1 := Nat.le_trans c.num_len hs
  have HI := Lib.hid (show c.page = (⟨c.num.1, [], [], [], c.num.2.text.1, [], [], 0, Sp.mt0⟩, c.num.2.text.2) by unfold Sp.Cut.page; rw [if_neg (by omega), if_neg (by omega), if_pos hkd])
  have hmf : ∀ (fn : Fn) (first cap : Array Value) (w : World), (Instr.makeFunc fn first cap).run Tryz.prog w = .ok (.func fn first cap) w := fun _ _ _ _ => rfl
  clear hc
  have B0 := Lib.hid ((Blk.new w 184 #[.pointer (some ⟨g, 0, none⟩)]).alloc (.cells #[.int .i64 0, .slice none 0 0, .slice none 0 0, .slice none 0 0, .string ⟨#[]⟩, .slice none 0 0, .slice none 0 0, .int .i64 0, .int .u64 0, .int .i64 0, .int .i64 0, .int .i64 0, .int .i64 0, .int .i64 0] PageT))
  have L0 := Lib.hid (blk_second w (.cells #[.pointer (some ⟨g, 0, none⟩)] 184) PageT #[.int .i64 0, .slice none 0 0, .slice none 0 0, .slice none 0 0, .string ⟨#[]⟩, .slice none 0 0, .slice none 0 0, .int .i64 0, .int .u64 0, .int .i64 0, .int .i64 0, .int .i64 0, .int .i64 0, .int .i64 0])
  have b0 := B0.out.at1
  have e1 : (c.num.1 == 1) = false := by rw [beq_eq_false_iff_ne]; omega
  have e2 : (c.num.1 == 2) = false := by rw [beq_eq_false_iff_ne]; omega
  have e3 : (c.num.1 == 3) = true := by rw [beq_iff_eq]; omega
  have HKD := Lib.hid hkd
  clear hkd
  go_enter Tryz.func121, Tryz.ntmps121
  go_wp2_with fail
  refine (rdNum_any g c.s c.bad _ hs ((Hc.out.alloc _).alloc _)).mono ?_
  rintro e w1 ⟨rfl, hc1, hk1⟩
  have B1 := Lib.hid ((B0.out.chg hk1 hn0).alloc (.cells #[.int .i64 c.num.1, .slice none 0 0, .slice none 0 0, .slice none 0 0, .string ⟨#[]⟩, .slice none 0 0, .slice none 0 0, .int .i64 0, .int .u64 0, .int .i64 0, .int .i64 0, .int .i64 0, .int .i64 0, .int .i64 0] PageT))
  have L1 := Lib.hid ((L0.out.chg hk1 hn1).alloc (.cells #[.int .i64 c.num.1, .slice none 0 0, .slice none 0 0, .slice none 0 0, .string ⟨#[]⟩, .slice none 0 0, .slice none 0 0, .int .i64 0, .int .u64 0, .int .i64 0, .int .i64 0, .int .i64 0, .int .i64 0, .int .i64 0] PageT))
  have b1 := (B0.out.chg hk1 hn0).at1
  have X1 := Lib.hid (Blk.new w1 PageT #[.int .i64 c.num.1, .slice none 0 0, .slice none 0 0, .slice none 0 0, .string ⟨#[]⟩, .slice none 0 0, .slice none 0 0, .int .i64 0, .int .u64 0, .int .i64 0, .int .i64 0, .int .i64 0, .int .i64 0, .int .i64 0])
  have Hc1 := Lib.hid (hc1.alloc (.cells #[.int .i64 c.num.1, .slice none 0 0, .slice none 0 0, .slice none 0 0, .string ⟨#[]⟩, .slice none 0 0, .slice none 0 0, .int .i64 0, .int .u64 0, .int .i64 0, .int .i64 0, .int .i64 0, .int .i64 0, .int .i64 0] PageT))
  have hz1 := hk1.size
  simp only [World.size_alloc] at hz1
  have hw1 : w.heap.size < w1.heap.size := by omega
  have hX : ¬ w1.heap.size = g := by omega
  have K1 := Lib.hid ((Chg.trans (((Chg.refl (OneM g) w).alloc _).alloc _) hk1).alloc (.cells #[.int .i64 c.num.1, .slice none 0 0, .slice none 0 0, .slice none 0 0, .string ⟨#[]⟩, .slice none 0 0, .slice none 0 0, .int .i64 0, .int .u64 0, .int .i64 0, .int .i64 0, .int .i64 0, .int .i64 0, .int .i64 0] PageT))
  clear hc1 hk1
  go_wp2_with fail
  refine (cutText_any g c.num.2.s c.num.2.bad _ l1 Hc1.out).mono ?_
  rintro e w2 ⟨rfl, hc2, hk2⟩
  have B2 := Lib.hid (B1.out.chg hk2 hn0)
  have L2 := Lib.hid (L1.out.chg hk2 hn1)
  have X2 := Lib.hid (X1.out.chg hk2 hX)
  have b2 := B2.out.at1
  obtain ⟨⟨xa2, xb2, xc2, xd2, xe2, xf2, xg2, xh2, xi2, xj2, xk2, xl2, xm2, xn2⟩, ya2, yb2, yc2, yd2, ye2, yf2, yg2, yh2, yi2, yj2, yk2, yl2, ym2, yn2⟩ := X2.out.at14
  have Hc2 := Lib.hid hc2
  have K2 := Lib.hid (K1.out.trans hk2)
  have hxz2 : w1.heap.size < w2.heap.size := by have := hk2.size; simp only [World.size_alloc, World.size_setCell] at this; omega
  clear hc2 hk2
  have B2 := Lib.hid (B2.out.far (p := ⟨w1.heap.size, 4, none⟩) (by simp only; omega) (.string ⟨c.num.2.text.1.toArray⟩))
  have L2 := Lib.hid (L2.out.far (p := ⟨w1.heap.size, 4, none⟩) (by simp only; omega) (.string ⟨c.num.2.text.1.toArray⟩))
  have X2 := Lib.hid (X2.out.set_ 4 (.string ⟨c.num.2.text.1.toArray⟩))
  have Hc2 := Lib.hid (Hc2.out.far (p := ⟨w1.heap.size, 4, none⟩) (fun e => hX e.symm) (.string ⟨c.num.2.text.1.toArray⟩))
  have K2 := Lib.hid (K2.out.setCell (p := ⟨w1.heap.size, 4, none⟩) (.inr (by simp only; omega)) (.string ⟨c.num.2.text.1.toArray⟩))
  obtain ⟨⟨za, zb, zc, zd, ze, zf, zg, zh, zi, zj, zk, zl, zm, zn⟩, qa, qb, qc, qd, qe, qf, qg, qh, qi, qj, qk, ql, qm, qn⟩ := L2.out.at14
  go_wp2
  refine bodyPost_ret (v := .agg (pageV ⟨c.num.1, [], [], [], c.num.2.text.1, [], [], 0, Sp.mt0⟩ ⟨none, none, none, none, none, 0, 0, 0, 0, 0⟩).toArray) (by simp [results, Tryz.results121, go_sem, za, zb, zc, zd, ze, zf, zg, zh, zi, zj, zk, zl, zm, zn, qa, qb, qc, qd, qe, qf, qg, qh, qi, qj, qk, ql, qm, qn, pageV, mtV, Sp.mt0, Sp.root0]) rfl ⟨⟨none, none, none, none, none, 0, 0, 0, 0, 0⟩, by rw [HI.out], ?_, ?_, ?_⟩
  · intro M hM
    rw [HI.out]
    exact ⟨Items.nil_, Row.nil_, Row.nil_, Row.nil_, Frees.nil_, by simp [Sp.mt0]⟩
  · rw [HI.out]
    unfold CutAt; iterate 14 (refine Blk.far ?_ (fun e => hn1 e.symm) _)
    exact Hc2.out
  · iterate 14 (refine Chg.setCell ?_ (.inr (by simp only; omega)) _)
    exact K2.out
end Go.Proofs.YtlpmjeiogdlifaaGreat
namespace Go.Proofs.YtlpmjeiogdlifaaGreat
open Go.RowKit
attribute [local go_sem low] mk_extract
attribute [local go_sem] After.cell After.frozen mk_extract_end ByteArray.mk_append_mk
set_option maxRecDepth 100000 in
set_option maxHeartbeats 1600000 in
theorem rdPage4 (g : Nat) (c : Sp.Cut) (w : World) (hs : c.s.length ≤ 4611686018427387904) (hc : CutAt w g c.s c.bad) (hkd : c.num.1 = 4) :
    Calls Tryz.prog 121 #[.agg #[.pointer (some ⟨g, 0, none⟩)]] w fun e w' => PageOut g c w e w' := by
  have Hc := Lib.hid hc
  have hg := hc.lt
  have hn0 : ¬ w.heap.size = g := by omega
  have hn1 : ¬ w.heap.size + 1 = g := by omega
  have l1 := Nat.le_trans c.num_len hs
  have HI := Lib.hid (show c.page = (⟨c.num.1, [], [], [], [], c.num.2.vals.1, [], 0, Sp.mt0⟩, c.num.2.vals.2) by unfold Sp.Cut.page; rw [if_neg (by omega), if_neg (by omega), if_neg (by omega), if_pos hkd])
  have hmf : ∀ (fn : Fn) (first cap : Array Value) (w : World), (Instr.makeFunc fn first cap).run Tryz.prog w = .ok (.func fn first cap) w := fun _ _ _ _ => rfl
  clear hc
  have B0 := Lib.hid ((Blk.new w 184 #[.pointer (some ⟨g, 0, none⟩)]).alloc (.cells #[.int .i64 0, .slice none 0 0, .slice none 0 0, .slice none 0 0, .string ⟨#[]⟩, .slice none 0 0, .slice none 0 0, .int .i64 0, .int .u64 0, .int .i64 0, .int .i64 0, .int .i64 0, .int .i64 0, .int .i64 0] PageT))
  have L0 := Lib.hid (blk_second w (.cells #[.pointer (some ⟨g, 0, none⟩)] 184) PageT #[.int .i64 0, .slice none 0 0, .slice none 0 0, .slice none 0 0, .string ⟨#[]⟩, .slice none 0 0, .slice none 0 0, .int .i64 0, .int .u64 0, .int .i64 0, .int .i64 0, .int .i64 0, .int .i64 0, .int .i64 0])
  have b0 := B0.out.at1
  have e1 : (c.num.1 == 1) = false := by rw [beq_eq_false_iff_ne]; omega
  have e2 : (c.num.1 == 2) = false := by rw [beq_eq_false_iff_ne]; omega
  have e3 : (c.num.1 == 3) = false := by rw [beq_eq_false_iff_ne]; omega
  have e4 : (c.num.1 == 4) = true := by rw [beq_iff_eq]; omega
  have HKD := Lib.hid hkd
  clear hkd
  go_enter Tryz.func121, Tryz.ntmps121
  go_wp2_with fail
  refine (rdNum_any g c.s c.bad _ hs ((Hc.out.alloc _).alloc _)).mono ?_
  rintro e w1 ⟨rfl, hc1, hk1⟩
  have B1 := Lib.hid ((B0.out.chg hk1 hn0).alloc (.cells #[.int .i64 c.num.1, .slice none 0 0, .slice none 0 0, .slice none 0 0, .string ⟨#[]⟩, .slice none 0 0, .slice none 0 0, .int .i64 0, .int .u64 0, .int .i64 0, .int .i64 0, .int .i64 0, .int .i64 0, .int .i64 0] PageT))
  have L1 := Lib.hid ((L0.out.chg hk1 hn1).alloc (.cells #[.int .i64 c.num.1, .slice none 0 0, .slice none 0 0, .slice none 0 0, .string ⟨#[]⟩, .slice none 0 0, .slice none 0 0, .int .i64 0, .int .u64 0, .int .i64 0, .int .i64 0, .int .i64 0, .int .i64 0, .int .i64 0] PageT))
  have b1 := (B0.out.chg hk1 hn0).at1
  have X1 := Lib.hid (Blk.new w1 PageT #[.int .i64 c.num.1, .slice none 0 0, .slice none 0 0, .slice none 0 0, .string ⟨#[]⟩, .slice none 0 0, .slice none 0 0, .int .i64 0, .int .u64 0, .int .i64 0, .int .i64 0, .int .i64 0, .int .i64 0, .int .i64 0])
  have Hc1 := Lib.hid (hc1.alloc (.cells #[.int .i64 c.num.1, .slice none 0 0, .slice none 0 0, .slice none 0 0, .string ⟨#[]⟩, .slice none 0 0, .slice none 0 0, .int .i64 0, .int .u64 0, .int .i64 0, .int .i64 0, .int .i64 0, .int .i64 0, .int .i64 0] PageT))
  have hz1 := hk1.size
  simp only [World.size_alloc] at hz1
  have hw1 : w.heap.size < w1.heap.size := by omega
  have hX : ¬ w1.heap.size = g := by omega
  have K1 := Lib.hid ((Chg.trans (((Chg.refl (OneM g) w).alloc _).alloc _) hk1).alloc (.cells #[.int .i64 c.num.1, .slice none 0 0, .slice none 0 0, .slice none 0 0, .string ⟨#[]⟩, .slice none 0 0, .slice none 0 0, .int .i64 0, .int .u64 0, .int .i64 0, .int .i64 0, .int .i64 0, .int .i64 0, .int .i64 0] PageT))
  clear hc1 hk1
  go_wp2_with fail
  refine (rdVals_any g c.num.2.s c.num.2.bad _ l1 Hc1.out).mono ?_
  rintro e w2 ⟨A, cp, rfl, ht2, hc2, hk2⟩
  obtain ⟨bs, hbs, HT2⟩ : ∃ bs, w1.heap.size < bs ∧ Hid (TRow w2 bs StrT A (c.num.2.vals.1.map tv)) := ⟨_, (by simp), Lib.hid ht2⟩
  clear ht2
  have B2 := Lib.hid (B1.out.chg hk2 hn0)
  have L2 := Lib.hid (L1.out.chg hk2 hn1)
  have X2 := Lib.hid (X1.out.chg hk2 hX)
  have b2 := B2.out.at1
  obtain ⟨⟨xa2, xb2, xc2, xd2, xe2, xf2, xg2, xh2, xi2, xj2, xk2, xl2, xm2, xn2⟩, ya2, yb2, yc2, yd2, ye2, yf2, yg2, yh2, yi2, yj2, yk2, yl2, ym2, yn2⟩ := X2.out.at14
  have Hc2 := Lib.hid hc2
  have K2 := Lib.hid (K1.out.trans hk2)
  have hxz2 : w1.heap.size < w2.heap.size := by have := hk2.size; simp only [World.size_alloc, World.size_setCell] at this; omega
  clear hc2 hk2
  have B2 := Lib.hid (B2.out.far (p := ⟨w1.heap.size, 5, none⟩) (by simp only; omega) (.slice A c.num.2.vals.1.length cp))
  have L2 := Lib.hid (L2.out.far (p := ⟨w1.heap.size, 5, none⟩) (by simp only; omega) (.slice A c.num.2.vals.1.length cp))
  have X2 := Lib.hid (X2.out.set_ 5 (.slice A c.num.2.vals.1.length cp))
  have Hc2 := Lib.hid (Hc2.out.far (p := ⟨w1.heap.size, 5, none⟩) (fun e => hX e.symm) (.slice A c.num.2.vals.1.length cp))
  have K2 := Lib.hid (K2.out.setCell (p := ⟨w1.heap.size, 5, none⟩) (.inr (by simp only; omega)) (.slice A c.num.2.vals.1.length cp))
  obtain ⟨⟨za, zb, zc, zd, ze, zf, zg, zh, zi, zj, zk, zl, zm, zn⟩, qa, qb, qc, qd, qe, qf, qg, qh, qi, qj, qk, ql, qm, qn⟩ := L2.out.at14
  go_wp2
  refine bodyPost_ret (v := .agg (pageV ⟨c.num.1, [], [], [], [], c.num.2.vals.1, [], 0, Sp.mt0⟩ ⟨none, none, none, A, none, 0, 0, 0, cp, 0⟩).toArray) (by simp [results, Tryz.results121, go_sem, za, zb, zc, zd, ze, zf, zg, zh, zi, zj, zk, zl, zm, zn, qa, qb, qc, qd, qe, qf, qg, qh, qi, qj, qk, ql, qm, qn, pageV, mtV, Sp.mt0, Sp.root0]) rfl ⟨⟨none, none, none, A, none, 0, 0, 0, cp, 0⟩, by rw [HI.out], ?_, ?_, ?_⟩
  · intro M hM
    rw [HI.out]
    refine ⟨Items.nil_, Row.nil_, Row.nil_, TRow.row (base := bs) (e := StrT) ?_ (fun k hk => hM k (by omega)), Frees.nil_, by simp [Sp.mt0]⟩
    iterate 15 (refine TRow.chg ?_ (Chg.set1 _ _ _ _) (fun k hb hi => by unfold OneM at hi; omega))
    exact HT2.out
  · rw [HI.out]
    unfold CutAt; iterate 14 (refine Blk.far ?_ (fun e => hn1 e.symm) _)
    exact Hc2.out
  · iterate 14 (refine Chg.setCell ?_ (.inr (by simp only; omega)) _)
    exact K2.out
end Go.Proofs.YtlpmjeiogdlifaaGreat
namespace Go.Proofs.YtlpmjeiogdlifaaGreat
open Go.RowKit
attribute [local go_sem low] mk_extract
attribute [local go_sem] After.cell After.frozen mk_extract_end ByteArray.mk_append_mk
set_option maxRecDepth 100000 in
set_option maxHeartbeats 1600000 in
theorem rdPage5 (g : Nat) (c : Sp.Cut) (w : World) (hs : c.s.length ≤ 4611686018427387904) (hc : CutAt w g c.s c.bad) (hkd : c.num.1 = 5) :
    Calls Tryz.prog 121 #[.agg #[.pointer (some ⟨g, 0, none⟩)]] w fun e w' => PageOut g c w e w' := by
  have Hc := Lib.hid hc
  have hg := hc.lt
  have hn0 : ¬ w.heap.size = g := by omega
  have hn1 : ¬ w.heap.size + 1 = g := by omega
  have l1 := Nat.le_trans c.num_len hs
  have HI := Lib.hid (show c.page = (⟨c.num.1, [], [], [], [], [], c.num.2.frees.1, c.num.2.frees.2.num.1, Sp.mt0⟩, c.num.2.frees.2.num.2) by unfold Sp.Cut.page; rw [if_neg (by omega), if_neg (by omega), if_neg (by omega), if_neg (by omega), if_pos hkd])
  have hmf : ∀ (fn : Fn) (first cap : Array Value) (w : World), (Instr.makeFunc fn first cap).run Tryz.prog w = .ok (.func fn first cap) w := fun _ _ _ _ => rfl
  clear hc
  have B0 := Lib.hid ((Blk.new w 184 #[.pointer (some ⟨g, 0, none⟩)]).alloc (.cells #[.int .i64 0, .slice none 0 0, .slice none 0 0, .slice none 0 0, .string ⟨#[]⟩, .slice none 0 0, .slice none 0 0, .int .i64 0, .int .u64 0, .int .i64 0, .int .i64 0, .int .i64 0, .int .i64 0, .int .i64 0] PageT))
  have L0 := Lib.hid (blk_second w (.cells #[.pointer (some ⟨g, 0, none⟩)] 184) PageT #[.int .i64 0, .slice none 0 0, .slice none 0 0, .slice none 0 0, .string ⟨#[]⟩, .slice none 0 0, .slice none 0 0, .int .i64 0, .int .u64 0, .int .i64 0, .int .i64 0, .int .i64 0, .int .i64 0, .int .i64 0])
  have b0 := B0.out.at1
  have e1 : (c.num.1 == 1) = false := by rw [beq_eq_false_iff_ne]; omega
  have e2 : (c.num.1 == 2) = false := by rw [beq_eq_false_iff_ne]; omega
  have e3 : (c.num.1 == 3) = false := by rw [beq_eq_false_iff_ne]; omega
  have e4 : (c.num.1 == 4) = false := by rw [beq_eq_false_iff_ne]; omega
  have e5 : (c.num.1 == 5) = true := by rw [beq_iff_eq]; omega
  have HKD := Lib.hid hkd
  clear hkd
  have l2 := Nat.le_trans c.num.2.num_len l1
  obtain ⟨hr0, hr1⟩ := Sp.Cut.num_rng c.num.2
  go_enter Tryz.func121, Tryz.ntmps121
  go_wp2_with fail
  refine (rdNum_any g c.s c.bad _ hs ((Hc.out.alloc _).alloc _)).mono ?_
  rintro e w1 ⟨rfl, hc1, hk1⟩
  have B1 := Lib.hid ((B0.out.chg hk1 hn0).alloc (.cells #[.int .i64 c.num.1, .slice none 0 0, .slice none 0 0, .slice none 0 0, .string ⟨#[]⟩, .slice none 0 0, .slice none 0 0, .int .i64 0, .int .u64 0, .int .i64 0, .int .i64 0, .int .i64 0, .int .i64 0, .int .i64 0] PageT))
  have L1 := Lib.hid ((L0.out.chg hk1 hn1).alloc (.cells #[.int .i64 c.num.1, .slice none 0 0, .slice none 0 0, .slice none 0 0, .string ⟨#[]⟩, .slice none 0 0, .slice none 0 0, .int .i64 0, .int .u64 0, .int .i64 0, .int .i64 0, .int .i64 0, .int .i64 0, .int .i64 0] PageT))
  have b1 := (B0.out.chg hk1 hn0).at1
  have X1 := Lib.hid (Blk.new w1 PageT #[.int .i64 c.num.1, .slice none 0 0, .slice none 0 0, .slice none 0 0, .string ⟨#[]⟩, .slice none 0 0, .slice none 0 0, .int .i64 0, .int .u64 0, .int .i64 0, .int .i64 0, .int .i64 0, .int .i64 0, .int .i64 0])
  have Hc1 := Lib.hid (hc1.alloc (.cells #[.int .i64 c.num.1, .slice none 0 0, .slice none 0 0, .slice none 0 0, .string ⟨#[]⟩, .slice none 0 0, .slice none 0 0, .int .i64 0, .int .u64 0, .int .i64 0, .int .i64 0, .int .i64 0, .int .i64 0, .int .i64 0] PageT))
  have hz1 := hk1.size
  simp only [World.size_alloc] at hz1
  have hw1 : w.heap.size < w1.heap.size := by omega
  have hX : ¬ w1.heap.size = g := by omega
  have K1 := Lib.hid ((Chg.trans (((Chg.refl (OneM g) w).alloc _).alloc _) hk1).alloc (.cells #[.int .i64 c.num.1, .slice none 0 0, .slice none 0 0, .slice none 0 0, .string ⟨#[]⟩, .slice none 0 0, .slice none 0 0, .int .i64 0, .int .u64 0, .int .i64 0, .int .i64 0, .int .i64 0, .int .i64 0, .int .i64 0] PageT))
  clear hc1 hk1
  have Hc1' := Hc1
  go_wp2_with fail
  go_region_held3 (fun w' => w'.cell? ⟨w.heap.size, 0, none⟩ = some (.pointer (some ⟨g, 0, none⟩))) (first | exact hbox2 | exact hbox1 | (simp [go_sem, hw1, b1]; done)) (first
    | (go_at_call 172; refine (rdNum_any g c.num.2.s c.num.2.bad _ l1 ?_).mono ?_; exact Hc1.out; rintro e w3 ⟨rfl, hc3, hk3⟩; have hI0 := Lib.hid (FreesI.start (base := w1.heap.size + 1) (cs0 := zPage c.num.1) (c1 := c.num.2.num.2) (Chg.of_drew hk3) X1.out B1.out hX hn0 (by simp) hc3 l2); have hbox1 : w3.cell? ⟨w.heap.size, 0, none⟩ = some (.pointer (some ⟨g, 0, none⟩)) := hI0.out.box.at1)
    | (go_at_call 173; refine (each_any _ hr0 hr1 g 179 _ (callFunc_FreesI _) (FreesI g w1.heap.size w.heap.size (w1.heap.size + 1) (zPage c.num.1) (w1.alloc (.cells #[.int .i64 c.num.1, .slice none 0 0, .slice none 0 0, .slice none 0 0, .string ⟨#[]⟩, .slice none 0 0, .slice none 0 0, .int .i64 0, .int .u64 0, .int .i64 0, .int .i64 0, .int .i64 0, .int .i64 0, .int .i64 0] PageT)) c.num.2.num.2) (fun k c w h => h.cut) (fun k c w w' h hb => h.below hb) (fun k d w2 hk hb h => h.next (by simp) (by omega) (by omega) (by omega) hb) c.num.2.num.2 _ hI0.out).mono ?_; rintro e w2 ⟨rfl, k, d, hI, hkn, hend⟩; have hbox2 : w2.cell? ⟨w.heap.size, 0, none⟩ = some (.pointer (some ⟨g, 0, none⟩)) := hI.box.at1))
  all_goals
    obtain ⟨l, v, xs, he, hl, hL, ho, hi⟩ := hI.ex
    obtain ⟨A, cp, rfl⟩ := own_form ho
    have hnums : c.num.2.frees = (l, d) := by
      unfold Sp.Cut.frees
      rw [Sp.eachN_end (k := k) (by omega) (by
        rcases hend with h | h
        · exact .inl (by omega)
        · exact .inr (by rw [he]; exact h)), he]
    have hll : l.length ≤ 1073741824 := by omega
    have HE := Lib.hid (show c.page = (⟨c.num.1, [], [], [], [], [], l, d.num.1, Sp.mt0⟩, d.num.2) by rw [HI.out, hnums])
    have HT := Lib.hid (TRow.of_own ho (by rw [hi.len]; omega))
    have HX := Lib.hid hi
    have HC := Lib.hid hI.cut
    have HK2 := Lib.hid (Chg.step (S := OneM g) hI.chg (fun i hi => by
      rcases hi with h | h | h
      · exact .inl h
      · exact .inr (by omega)
      · exact .inr (by omega)) K1.out)
    have L2 := L1.out.chg hI.chg (by omega)
    have HL2 := Lib.hid L2
    have hL' : Blk w2 w1.heap.size PageT #[.int .i64 c.num.1, .slice none 0 0, .slice none 0 0, .slice none 0 0, .string ⟨#[]⟩, .slice none 0 0, .slice A l.length cp, .int .i64 0, .int .u64 0, .int .i64 0, .int .i64 0, .int .i64 0, .int .i64 0, .int .i64 0] := hL
    have HLX := Lib.hid hL'
    have ld := hI.len
    have hz2 := hI.size
    have hXlt := hL'.lt
    clear hI he hend ho hL hL' hnums L2 hi
    go_wp2_with fail
    refine (rdNum_any g d.s d.bad _ ld HC.out).mono ?_
    rintro e w3 ⟨rfl, hc3, hk3⟩
    have HC := Lib.hid hc3
    have HK2 := Lib.hid (HK2.out.trans hk3)
    have hz3 := hk3.size
    have HT := Lib.hid (HT.out.chg hk3 (fun k hb hs => by unfold OneM at hs; omega))
    have HX := Lib.hid (HX.out.chg hk3 (fun k hb hs => by unfold OneM at hs; omega))
    obtain ⟨⟨za, zb, zc, zd, ze, zf, zg, zh, zi, zj, zk, zl, zm, zn⟩, qa, qb, qc, qd, qe, qf, qg, qh, qi, qj, qk, ql, qm, qn⟩ := (HL2.out.chg hk3 hn1).at14
    obtain ⟨⟨xa, xb, xc, xd, xe, xf, xg, xh, xi, xj, xk, xl, xm, xn⟩, ya, yb, yc, yd, ye, yf, yg, yh, yi, yj, yk, yl, ym, yn⟩ := (HLX.out.chg hk3 hX).at14
    clear hc3 hk3
    go_wp2
    refine bodyPost_ret (v := .agg (pageV ⟨c.num.1, [], [], [], [], [], l, d.num.1, Sp.mt0⟩ ⟨none, none, none, none, A, 0, 0, 0, 0, cp⟩).toArray) (by simp [results, Tryz.results121, go_sem, za, zb, zc, zd, ze, zf, zg, zh, zi, zj, zk, zl, zm, zn, qa, qb, qc, qd, qe, qf, qg, qh, qi, qj, qk, ql, qm, qn, pageV, mtV, Sp.mt0, Sp.root0]) rfl ⟨⟨none, none, none, none, A, 0, 0, 0, 0, cp⟩, by rw [HE.out], ?_, ?_, ?_⟩
    · intro M hM
      rw [HE.out]
      refine ⟨Items.nil_, Row.nil_, Row.nil_, Row.nil_, Frees.of_cells2 (S := fun k => k ≤ w1.heap.size) HT.out HX.out (fun k hk => hM k (by omega)) hll (fun k hb hs => by omega) ?_, by simp [Sp.mt0]⟩
      iterate 15 (refine Chg.setCell ?_ (.inl (by simp only; omega)) _)
      exact Chg.refl _ _
    · rw [HE.out]
      unfold CutAt
      iterate 14 (refine Blk.far ?_ (fun e => hn1 e.symm) _)
      refine Blk.far ?_ (fun e => hX e.symm) _
      exact HC.out
    · iterate 15 (refine Chg.setCell ?_ (.inr (by simp only; omega)) _)
      exact HK2.out
end Go.Proofs.YtlpmjeiogdlifaaGreat
namespace Go.Proofs.YtlpmjeiogdlifaaGreat
open Go.RowKit
attribute [local go_sem low] mk_extract
attribute [local go_sem] After.cell After.frozen mk_extract_end ByteArray.mk_append_mk
set_option maxRecDepth 100000 in
set_option maxHeartbeats 1600000 in
theorem rdPage6 (g : Nat) (c : Sp.Cut) (w : World) (hs : c.s.length ≤ 4611686018427387904) (hc : CutAt w g c.s c.bad) (hkd : c.num.1 = 6) :
    Calls Tryz.prog 121 #[.agg #[.pointer (some ⟨g, 0, none⟩)]] w fun e w' => PageOut g c w e w' := by
  have Hc := Lib.hid hc
  have hg := hc.lt
  have hn0 : ¬ w.heap.size = g := by omega
  have hn1 : ¬ w.heap.size + 1 = g := by omega
  have l1 := Nat.le_trans c.num_len hs
  have HI := Lib.hid (show c.page = (⟨c.num.1, [], [], [], [], [], [], 0, c.num.2.mt.1⟩, c.num.2.mt.2) by unfold Sp.Cut.page; rw [if_neg (by omega), if_neg (by omega), if_neg (by omega), if_neg (by omega), if_neg (by omega), if_pos hkd])
  have hmf : ∀ (fn : Fn) (first cap : Array Value) (w : World), (Instr.makeFunc fn first cap).run Tryz.prog w = .ok (.func fn first cap) w := fun _ _ _ _ => rfl
  clear hc
  have B0 := Lib.hid ((Blk.new w 184 #[.pointer (some ⟨g, 0, none⟩)]).alloc (.cells #[.int .i64 0, .slice none 0 0, .slice none 0 0, .slice none 0 0, .string ⟨#[]⟩, .slice none 0 0, .slice none 0 0, .int .i64 0, .int .u64 0, .int .i64 0, .int .i64 0, .int .i64 0, .int .i64 0, .int .i64 0] PageT))
  have L0 := Lib.hid (blk_second w (.cells #[.pointer (some ⟨g, 0, none⟩)] 184) PageT #[.int .i64 0, .slice none 0 0, .slice none 0 0, .slice none 0 0, .string ⟨#[]⟩, .slice none 0 0, .slice none 0 0, .int .i64 0, .int .u64 0, .int .i64 0, .int .i64 0, .int .i64 0, .int .i64 0, .int .i64 0])
  have b0 := B0.out.at1
  have e1 : (c.num.1 == 1) = false := by rw [beq_eq_false_iff_ne]; omega
  have e2 : (c.num.1 == 2) = false := by rw [beq_eq_false_iff_ne]; omega
  have e3 : (c.num.1 == 3) = false := by rw [beq_eq_false_iff_ne]; omega
  have e4 : (c.num.1 == 4) = false := by rw [beq_eq_false_iff_ne]; omega
  have e5 : (c.num.1 == 5) = false := by rw [beq_eq_false_iff_ne]; omega
  have e6 : (c.num.1 == 6) = true := by rw [beq_iff_eq]; omega
  have HKD := Lib.hid hkd
  clear hkd
  go_enter Tryz.func121, Tryz.ntmps121
  go_wp2_with fail
  refine (rdNum_any g c.s c.bad _ hs ((Hc.out.alloc _).alloc _)).mono ?_
  rintro e w1 ⟨rfl, hc1, hk1⟩
  have B1 := Lib.hid ((B0.out.chg hk1 hn0).alloc (.cells #[.int .i64 c.num.1, .slice none 0 0, .slice none 0 0, .slice none 0 0, .string ⟨#[]⟩, .slice none 0 0, .slice none 0 0, .int .i64 0, .int .u64 0, .int .i64 0, .int .i64 0, .int .i64 0, .int .i64 0, .int .i64 0] PageT))
  have L1 := Lib.hid ((L0.out.chg hk1 hn1).alloc (.cells #[.int .i64 c.num.1, .slice none 0 0, .slice none 0 0, .slice none 0 0, .string ⟨#[]⟩, .slice none 0 0, .slice none 0 0, .int .i64 0, .int .u64 0, .int .i64 0, .int .i64 0, .int .i64 0, .int .i64 0, .int .i64 0] PageT))
  have b1 := (B0.out.chg hk1 hn0).at1
  have X1 := Lib.hid (Blk.new w1 PageT #[.int .i64 c.num.1, .slice none 0 0, .slice none 0 0, .slice none 0 0, .string ⟨#[]⟩, .slice none 0 0, .slice none 0 0, .int .i64 0, .int .u64 0, .int .i64 0, .int .i64 0, .int .i64 0, .int .i64 0, .int .i64 0])
  have Hc1 := Lib.hid (hc1.alloc (.cells #[.int .i64 c.num.1, .slice none 0 0, .slice none 0 0, .slice none 0 0, .string ⟨#[]⟩, .slice none 0 0, .slice none 0 0, .int .i64 0, .int .u64 0, .int .i64 0, .int .i64 0, .int .i64 0, .int .i64 0, .int .i64 0] PageT))
  have hz1 := hk1.size
  simp only [World.size_alloc] at hz1
  have hw1 : w.heap.size < w1.heap.size := by omega
  have hX : ¬ w1.heap.size = g := by omega
  have K1 := Lib.hid ((Chg.trans (((Chg.refl (OneM g) w).alloc _).alloc _) hk1).alloc (.cells #[.int .i64 c.num.1, .slice none 0 0, .slice none 0 0, .slice none 0 0, .string ⟨#[]⟩, .slice none 0 0, .slice none 0 0, .int .i64 0, .int .u64 0, .int .i64 0, .int .i64 0, .int .i64 0, .int .i64 0, .int .i64 0] PageT))
  clear hc1 hk1
  go_wp2_with fail
  refine (cutNum_any g c.num.2.s c.num.2.bad _ l1 Hc1.out).mono ?_
  rintro e w2 ⟨rfl, hc2, hk2⟩
  have B2 := Lib.hid (B1.out.chg hk2 hn0)
  have L2 := Lib.hid (L1.out.chg hk2 hn1)
  have X2 := Lib.hid (X1.out.chg hk2 hX)
  have b2 := B2.out.at1
  obtain ⟨⟨xa2, xb2, xc2, xd2, xe2, xf2, xg2, xh2, xi2, xj2, xk2, xl2, xm2, xn2⟩, ya2, yb2, yc2, yd2, ye2, yf2, yg2, yh2, yi2, yj2, yk2, yl2, ym2, yn2⟩ := X2.out.at14
  have Hc2 := Lib.hid hc2
  have K2 := Lib.hid (K1.out.trans hk2)
  have hxz2 : w1.heap.size < w2.heap.size := by have := hk2.size; simp only [World.size_alloc, World.size_setCell] at this; omega
  clear hc2 hk2
  have l2 := Nat.le_trans c.num.2.u64_len l1
  have B2 := Lib.hid (B2.out.far (p := ⟨w1.heap.size, 8, none⟩) (by simp only; omega) (.int .u64 c.num.2.u64.1))
  have L2 := Lib.hid (L2.out.far (p := ⟨w1.heap.size, 8, none⟩) (by simp only; omega) (.int .u64 c.num.2.u64.1))
  have X2 := Lib.hid (X2.out.set_ 8 (.int .u64 c.num.2.u64.1))
  have Hc2 := Lib.hid (Hc2.out.far (p := ⟨w1.heap.size, 8, none⟩) (fun e => hX e.symm) (.int .u64 c.num.2.u64.1))
  have K2 := Lib.hid (K2.out.setCell (p := ⟨w1.heap.size, 8, none⟩) (.inr (by simp only; omega)) (.int .u64 c.num.2.u64.1))
  go_wp2_with fail
  refine (rdRoot_any g c.num.2.u64.2 _ l2 Hc2.out).mono ?_
  rintro e w3 ⟨rfl, hc3, hk3⟩
  simp only [rootV]
  have B3 := Lib.hid (B2.out.chg hk3 hn0)
  have L3 := Lib.hid (L2.out.chg hk3 hn1)
  have X3 := Lib.hid (X2.out.chg hk3 hX)
  have b3 := B3.out.at1
  obtain ⟨⟨xa3, xb3, xc3, xd3, xe3, xf3, xg3, xh3, xi3, xj3, xk3, xl3, xm3, xn3⟩, ya3, yb3, yc3, yd3, ye3, yf3, yg3, yh3, yi3, yj3, yk3, yl3, ym3, yn3⟩ := X3.out.at14
  have Hc3 := Lib.hid hc3
  have K3 := Lib.hid (K2.out.trans hk3)
  have hxz3 : w1.heap.size < w3.heap.size := by have := hk3.size; simp only [World.size_alloc, World.size_setCell] at this; omega
  clear hc3 hk3
  have l3 := Nat.le_trans c.num.2.u64.2.root_len l2
  have B3 := Lib.hid (B3.out.far (p := ⟨w1.heap.size, 9, none⟩) (by simp only; omega) (.int .i64 c.num.2.u64.2.root.1.page))
  have L3 := Lib.hid (L3.out.far (p := ⟨w1.heap.size, 9, none⟩) (by simp only; omega) (.int .i64 c.num.2.u64.2.root.1.page))
  have X3 := Lib.hid (X3.out.set_ 9 (.int .i64 c.num.2.u64.2.root.1.page))
  have Hc3 := Lib.hid (Hc3.out.far (p := ⟨w1.heap.size, 9, none⟩) (fun e => hX e.symm) (.int .i64 c.num.2.u64.2.root.1.page))
  have K3 := Lib.hid (K3.out.setCell (p := ⟨w1.heap.size, 9, none⟩) (.inr (by simp only; omega)) (.int .i64 c.num.2.u64.2.root.1.page))
  have B3 := Lib.hid (B3.out.far (p := ⟨w1.heap.size, 10, none⟩) (by simp only; omega) (.int .i64 c.num.2.u64.2.root.1.count))
  have L3 := Lib.hid (L3.out.far (p := ⟨w1.heap.size, 10, none⟩) (by simp only; omega) (.int .i64 c.num.2.u64.2.root.1.count))
  have X3 := Lib.hid (X3.out.set_ 10 (.int .i64 c.num.2.u64.2.root.1.count))
  have Hc3 := Lib.hid (Hc3.out.far (p := ⟨w1.heap.size, 10, none⟩) (fun e => hX e.symm) (.int .i64 c.num.2.u64.2.root.1.count))
  have K3 := Lib.hid (K3.out.setCell (p := ⟨w1.heap.size, 10, none⟩) (.inr (by simp only; omega)) (.int .i64 c.num.2.u64.2.root.1.count))
  have B3 := Lib.hid (B3.out.far (p := ⟨w1.heap.size, 11, none⟩) (by simp only; omega) (.int .i64 c.num.2.u64.2.root.1.flags))
  have L3 := Lib.hid (L3.out.far (p := ⟨w1.heap.size, 11, none⟩) (by simp only; omega) (.int .i64 c.num.2.u64.2.root.1.flags))
  have X3 := Lib.hid (X3.out.set_ 11 (.int .i64 c.num.2.u64.2.root.1.flags))
  have Hc3 := Lib.hid (Hc3.out.far (p := ⟨w1.heap.size, 11, none⟩) (fun e => hX e.symm) (.int .i64 c.num.2.u64.2.root.1.flags))
  have K3 := Lib.hid (K3.out.setCell (p := ⟨w1.heap.size, 11, none⟩) (.inr (by simp only; omega)) (.int .i64 c.num.2.u64.2.root.1.flags))
  go_wp2_with fail
  refine (rdNum_any g c.num.2.u64.2.root.2.s c.num.2.u64.2.root.2.bad _ l3 Hc3.out).mono ?_
  rintro e w4 ⟨rfl, hc4, hk4⟩
  have B4 := Lib.hid (B3.out.chg hk4 hn0)
  have L4 := Lib.hid (L3.out.chg hk4 hn1)
  have X4 := Lib.hid (X3.out.chg hk4 hX)
  have b4 := B4.out.at1
  obtain ⟨⟨xa4, xb4, xc4, xd4, xe4, xf4, xg4, xh4, xi4, xj4, xk4, xl4, xm4, xn4⟩, ya4, yb4, yc4, yd4, ye4, yf4, yg4, yh4, yi4, yj4, yk4, yl4, ym4, yn4⟩ := X4.out.at14
  have Hc4 := Lib.hid hc4
  have K4 := Lib.hid (K3.out.trans hk4)
  have hxz4 : w1.heap.size < w4.heap.size := by have := hk4.size; simp only [World.size_alloc, World.size_setCell] at this; omega
  clear hc4 hk4
  have l4 := Nat.le_trans c.num.2.u64.2.root.2.num_len l3
  have B4 := Lib.hid (B4.out.far (p := ⟨w1.heap.size, 12, none⟩) (by simp only; omega) (.int .i64 c.num.2.u64.2.root.2.num.1))
  have L4 := Lib.hid (L4.out.far (p := ⟨w1.heap.size, 12, none⟩) (by simp only; omega) (.int .i64 c.num.2.u64.2.root.2.num.1))
  have X4 := Lib.hid (X4.out.set_ 12 (.int .i64 c.num.2.u64.2.root.2.num.1))
  have Hc4 := Lib.hid (Hc4.out.far (p := ⟨w1.heap.size, 12, none⟩) (fun e => hX e.symm) (.int .i64 c.num.2.u64.2.root.2.num.1))
  have K4 := Lib.hid (K4.out.setCell (p := ⟨w1.heap.size, 12, none⟩) (.inr (by simp only; omega)) (.int .i64 c.num.2.u64.2.root.2.num.1))
  go_wp2_with fail
  refine (rdNum_any g c.num.2.u64.2.root.2.num.2.s c.num.2.u64.2.root.2.num.2.bad _ l4 Hc4.out).mono ?_
  rintro e w5 ⟨rfl, hc5, hk5⟩
  have B5 := Lib.hid (B4.out.chg hk5 hn0)
  have L5 := Lib.hid (L4.out.chg hk5 hn1)
  have X5 := Lib.hid (X4.out.chg hk5 hX)
  have b5 := B5.out.at1
  obtain ⟨⟨xa5, xb5, xc5, xd5, xe5, xf5, xg5, xh5, xi5, xj5, xk5, xl5, xm5, xn5⟩, ya5, yb5, yc5, yd5, ye5, yf5, yg5, yh5, yi5, yj5, yk5, yl5, ym5, yn5⟩ := X5.out.at14
  have Hc5 := Lib.hid hc5
  have K5 := Lib.hid (K4.out.trans hk5)
  have hxz5 : w1.heap.size < w5.heap.size := by have := hk5.size; simp only [World.size_alloc, World.size_setCell] at this; omega
  clear hc5 hk5
  have B5 := Lib.hid (B5.out.far (p := ⟨w1.heap.size, 13, none⟩) (by simp only; omega) (.int .i64 c.num.2.u64.2.root.2.num.2.num.1))
  have L5 := Lib.hid (L5.out.far (p := ⟨w1.heap.size, 13, none⟩) (by simp only; omega) (.int .i64 c.num.2.u64.2.root.2.num.2.num.1))
  have X5 := Lib.hid (X5.out.set_ 13 (.int .i64 c.num.2.u64.2.root.2.num.2.num.1))
  have Hc5 := Lib.hid (Hc5.out.far (p := ⟨w1.heap.size, 13, none⟩) (fun e => hX e.symm) (.int .i64 c.num.2.u64.2.root.2.num.2.num.1))
  have K5 := Lib.hid (K5.out.setCell (p := ⟨w1.heap.size, 13, none⟩) (.inr (by simp only; omega)) (.int .i64 c.num.2.u64.2.root.2.num.2.num.1))
  obtain ⟨⟨za, zb, zc, zd, ze, zf, zg, zh, zi, zj, zk, zl, zm, zn⟩, qa, qb, qc, qd, qe, qf, qg, qh, qi, qj, qk, ql, qm, qn⟩ := L5.out.at14
  go_wp2
  refine bodyPost_ret (v := .agg (pageV ⟨c.num.1, [], [], [], [], [], [], 0, c.num.2.mt.1⟩ ⟨none, none, none, none, none, 0, 0, 0, 0, 0⟩).toArray) (by simp [results, Tryz.results121, go_sem, za, zb, zc, zd, ze, zf, zg, zh, zi, zj, zk, zl, zm, zn, qa, qb, qc, qd, qe, qf, qg, qh, qi, qj, qk, ql, qm, qn, pageV, mtV, Sp.mt0, Sp.root0, Sp.Cut.mt]) rfl ⟨⟨none, none, none, none, none, 0, 0, 0, 0, 0⟩, by rw [HI.out], ?_, ?_, ?_⟩
  · intro M hM
    rw [HI.out]
    exact ⟨Items.nil_, Row.nil_, Row.nil_, Row.nil_, Frees.nil_, c.num.2.u64_rng⟩
  · rw [HI.out]
    unfold CutAt; iterate 14 (refine Blk.far ?_ (fun e => hn1 e.symm) _)
    exact Hc5.out
  · iterate 14 (refine Chg.setCell ?_ (.inr (by simp only; omega)) _)
    exact K5.out
end Go.Proofs.YtlpmjeiogdlifaaGreat
namespace Go.Proofs.YtlpmjeiogdlifaaGreat
open Go.RowKit
attribute [local go_sem low] mk_extract
attribute [local go_sem] After.cell After.frozen mk_extract_end ByteArray.mk_append_mk
set_option maxRecDepth 100000 in
set_option maxHeartbeats 1600000 in
theorem rdPage7 (g : Nat) (c : Sp.Cut) (w : World) (hs : c.s.length ≤ 4611686018427387904) (hc : CutAt w g c.s c.bad) (hkd : ¬ c.num.1 = 1 ∧ ¬ c.num.1 = 2 ∧ ¬ c.num.1 = 3 ∧ ¬ c.num.1 = 4 ∧ ¬ c.num.1 = 5 ∧ ¬ c.num.1 = 6) :
    Calls Tryz.prog 121 #[.agg #[.pointer (some ⟨g, 0, none⟩)]] w fun e w' => PageOut g c w e w' := by
  have Hc := Lib.hid hc
  have hg := hc.lt
  have hn0 : ¬ w.heap.size = g := by omega
  have hn1 : ¬ w.heap.size + 1 = g := by omega
  have l1 := Nat.le_trans c.num_len hs
  have HI := Lib.hid (show c.page = (⟨c.num.1, [], [], [], [], [], [], 0, Sp.mt0⟩, c.num.2) by unfold Sp.Cut.page; rw [if_neg (by omega), if_neg (by omega), if_neg (by omega), if_neg (by omega), if_neg (by omega), if_neg (by omega)])
  have hmf : ∀ (fn : Fn) (first cap : Array Value) (w : World), (Instr.makeFunc fn first cap).run Tryz.prog w = .ok (.func fn first cap) w := fun _ _ _ _ => rfl
  clear hc
  have B0 := Lib.hid ((Blk.new w 184 #[.pointer (some ⟨g, 0, none⟩)]).alloc (.cells #[.int .i64 0, .slice none 0 0, .slice none 0 0, .slice none 0 0, .string ⟨#[]⟩, .slice none 0 0, .slice none 0 0, .int .i64 0, .int .u64 0, .int .i64 0, .int .i64 0, .int .i64 0, .int .i64 0, .int .i64 0] PageT))
  have L0 := Lib.hid (blk_second w (.cells #[.pointer (some ⟨g, 0, none⟩)] 184) PageT #[.int .i64 0, .slice none 0 0, .slice none 0 0, .slice none 0 0, .string ⟨#[]⟩, .slice none 0 0, .slice none 0 0, .int .i64 0, .int .u64 0, .int .i64 0, .int .i64 0, .int .i64 0, .int .i64 0, .int .i64 0])
  have b0 := B0.out.at1
  have e1 : (c.num.1 == 1) = false := by rw [beq_eq_false_iff_ne]; omega
  have e2 : (c.num.1 == 2) = false := by rw [beq_eq_false_iff_ne]; omega
  have e3 : (c.num.1 == 3) = false := by rw [beq_eq_false_iff_ne]; omega
  have e4 : (c.num.1 == 4) = false := by rw [beq_eq_false_iff_ne]; omega
  have e5 : (c.num.1 == 5) = false := by rw [beq_eq_false_iff_ne]; omega
  have e6 : (c.num.1 == 6) = false := by rw [beq_eq_false_iff_ne]; omega
  have HKD := Lib.hid hkd
  clear hkd
  go_enter Tryz.func121, Tryz.ntmps121
  go_wp2_with fail
  refine (rdNum_any g c.s c.bad _ hs ((Hc.out.alloc _).alloc _)).mono ?_
  rintro e w1 ⟨rfl, hc1, hk1⟩
  have B1 := Lib.hid ((B0.out.chg hk1 hn0).alloc (.cells #[.int .i64 c.num.1, .slice none 0 0, .slice none 0 0, .slice none 0 0, .string ⟨#[]⟩, .slice none 0 0, .slice none 0 0, .int .i64 0, .int .u64 0, .int .i64 0, .int .i64 0, .int .i64 0, .int .i64 0, .int .i64 0] PageT))
  have L1 := Lib.hid ((L0.out.chg hk1 hn1).alloc (.cells #[.int .i64 c.num.1, .slice none 0 0, .slice none 0 0, .slice none 0 0, .string ⟨#[]⟩, .slice none 0 0, .slice none 0 0, .int .i64 0, .int .u64 0, .int .i64 0, .int .i64 0, .int .i64 0, .int .i64 0, .int .i64 0] PageT))
  have b1 := (B0.out.chg hk1 hn0).at1
  have X1 := Lib.hid (Blk.new w1 PageT #[.int .i64 c.num.1, .slice none 0 0, .slice none 0 0, .slice none 0 0, .string ⟨#[]⟩, .slice none 0 0, .slice none 0 0, .int .i64 0, .int .u64 0, .int .i64 0, .int .i64 0, .int .i64 0, .int .i64 0, .int .i64 0])
  have Hc1 := Lib.hid (hc1.alloc (.cells #[.int .i64 c.num.1, .slice none 0 0, .slice none 0 0, .slice none 0 0, .string ⟨#[]⟩, .slice none 0 0, .slice none 0 0, .int .i64 0, .int .u64 0, .int .i64 0, .int .i64 0, .int .i64 0, .int .i64 0, .int .i64 0] PageT))
  have hz1 := hk1.size
  simp only [World.size_alloc] at hz1
  have hw1 : w.heap.size < w1.heap.size := by omega
  have hX : ¬ w1.heap.size = g := by omega
  have K1 := Lib.hid ((Chg.trans (((Chg.refl (OneM g) w).alloc _).alloc _) hk1).alloc (.cells #[.int .i64 c.num.1, .slice none 0 0, .slice none 0 0, .slice none 0 0, .string ⟨#[]⟩, .slice none 0 0, .slice none 0 0, .int .i64 0, .int .u64 0, .int .i64 0, .int .i64 0, .int .i64 0, .int .i64 0, .int .i64 0] PageT))
  clear hc1 hk1
  obtain ⟨⟨za, zb, zc, zd, ze, zf, zg, zh, zi, zj, zk, zl, zm, zn⟩, qa, qb, qc, qd, qe, qf, qg, qh, qi, qj, qk, ql, qm, qn⟩ := L1.out.at14
  go_wp2
  refine bodyPost_ret (v := .agg (pageV ⟨c.num.1, [], [], [], [], [], [], 0, Sp.mt0⟩ ⟨none, none, none, none, none, 0, 0, 0, 0, 0⟩).toArray) (by simp [results, Tryz.results121, go_sem, za, zb, zc, zd, ze, zf, zg, zh, zi, zj, zk, zl, zm, zn, qa, qb, qc, qd, qe, qf, qg, qh, qi, qj, qk, ql, qm, qn, pageV, mtV, Sp.mt0, Sp.root0]) rfl ⟨⟨none, none, none, none, none, 0, 0, 0, 0, 0⟩, by rw [HI.out], ?_, ?_, ?_⟩
  · intro M hM
    rw [HI.out]
    exact ⟨Items.nil_, Row.nil_, Row.nil_, Row.nil_, Frees.nil_, by simp [Sp.mt0]⟩
  · rw [HI.out]
    unfold CutAt; iterate 14 (refine Blk.far ?_ (fun e => hn1 e.symm) _)
    exact Hc1.out
  · iterate 14 (refine Chg.setCell ?_ (.inr (by simp only; omega)) _)
    exact K1.out
end Go.Proofs.YtlpmjeiogdlifaaGreat
namespace Go.Proofs.YtlpmjeiogdlifaaGreat
open Go.RowKit
attribute [local go_sem low] mk_extract
attribute [local go_sem] After.cell After.frozen mk_extract_end ByteArray.mk_append_mk
set_option maxRecDepth 100000 in
set_option maxHeartbeats 400000 in
theorem isVals_any (l : List Txt) (A : Option Addr) (c : Nat) (least most : Int) {M : Nat → Prop} (w : World) (hr : Txts w M A l) :
    Calls Tryz.prog 108 #[.slice A l.length c, .int .i64 least, .int .i64 most] w fun e w' => e = .returned (.bool (Sp.isVals l least most)) ∧ Below w.heap.size w w' := by
  have hlen := hr.len
  have Hr := Lib.hid hr
  clear hr
  go_enter Tryz.func108, Tryz.ntmps108
  go_wp2
  go_loopw [11] (fun i wr => ∃ k : Nat, k ≤ l.length ∧ i = .int .i64 k ∧ Below w.heap.size w wr ∧ Hid (∀ j, j < k → Sp.valAt l j = true)) (fun i _ => l.length - (intOf i).toNat)
  case atStart => exact ⟨0, Nat.zero_le _, rfl, Below.refl _ _, fun j h => absurd h (by omega)⟩
  case round =>
    obtain ⟨k, hk, rfl, hb, hok⟩ := hrel
    by_cases hlt : k < l.length
    · obtain ⟨b, off, rfl, hbl, hc⟩ := Hr.out.at_ hlt
      have hc0 := (hb.cell (p := ⟨b, off + k, none⟩) hbl).trans (hc k hlt)
      have hc1 := fun (h : 0 < k) => (hb.cell (p := ⟨b, off + (k - 1), none⟩) hbl).trans (hc (k - 1) (by omega))
      clear hc
      have HV := Lib.hid (Sp.valAt_def l k)
      generalize l.getD k [] = x at *
      generalize l.getD (k - 1) [] = y at *
      go_wp2
      all_goals first
        | (go_ret
           go_light
           have hv : Sp.valAt l k = false := by have H := HV.out; clear hok Hr; rw [H]; grind [Sp.lt, List.length_pos_iff]
           exact ⟨by rw [Sp.isVals, Sp.allTo_false hlt hv]; rfl, hb⟩)
        | (go_light
           have hv : Sp.valAt l k = true := by have H := HV.out; clear hok Hr; rw [H]; grind [Sp.lt, List.length_pos_iff]
           refine ⟨⟨k + 1, by omega, by go_num, hb, fun j hj => ?_⟩, by simp [intOf]; omega⟩
           rcases Nat.lt_succ_iff_lt_or_eq.1 hj with h | rfl
           · exact hok.out j h
           · exact hv)
    · have hkl : k = l.length := by omega
      go_wp2
      all_goals
        go_ret
        refine ⟨ret_bool ?_, hb⟩
        go_light
        rw [Sp.isVals, Sp.allTo_true fun j hj => hok.out j (by omega)]
        grind
end Go.Proofs.YtlpmjeiogdlifaaGreat
namespace Go.Proofs.YtlpmjeiogdlifaaGreat
open Go.RowKit
attribute [local go_sem low] mk_extract
attribute [local go_sem] After.cell After.frozen mk_extract_end ByteArray.mk_append_mk
set_option maxRecDepth 100000 in
set_option maxHeartbeats 400000 in
theorem num_any (n : Int) (h0 : 0 ≤ n) (h1 : n < 4611686018427387904) (w : World) :
    Calls Tryz.prog 182 #[.int .i64 n] w fun e w' => e = .returned (.string ⟨(Sp.le8 n).toArray⟩) ∧ Below w.heap.size w w' := by
  go_enter Tryz.func182, Tryz.ntmps182
  go_wp2_with (go_at_call 184; refine (packNum_any _ (by omega) (by omega) _).mono ?_; rintro e w' ⟨rfl, hb⟩)
  go_ret
  exact ⟨rfl, hb⟩
set_option maxRecDepth 100000 in
set_option maxHeartbeats 400000 in
theorem isID_any (n : Int) (w : World) :
    Calls Tryz.prog 162 #[.int .i64 n] w fun e w' => e = .returned (.bool (Sp.isID n)) ∧ Below w.heap.size w w' := by
  go_enter Tryz.func162, Tryz.ntmps162
  go_wp2
  all_goals
    go_ret
    go_light
    exact ⟨ret_bool (by grind [Sp.isID]), Below.refl _ _⟩
set_option maxRecDepth 100000 in
set_option maxHeartbeats 400000 in
theorem noneOr_any (n : Int) (w : World) :
    Calls Tryz.prog 111 #[.int .i64 n] w fun e w' => e = .returned (.bool (Sp.noneOr n)) ∧ Below w.heap.size w w' := by
  go_enter Tryz.func111, Tryz.ntmps111
  go_wp2_with (go_at_call 162; refine (isID_any _ _).mono ?_; rintro e w' ⟨rfl, hb⟩)
  all_goals
    go_ret
    go_light
    exact ⟨ret_bool (by grind [Sp.noneOr]), by first | assumption | exact Below.refl _ _⟩
set_option maxRecDepth 100000 in
set_option maxHeartbeats 400000 in
theorem short_any (s : Txt) (w : World) :
    Calls Tryz.prog 135 #[.string ⟨s.toArray⟩] w fun e w' => e = .returned (.bool (Sp.short s)) ∧ Below w.heap.size w w' := by
  go_enter Tryz.func135, Tryz.ntmps135
  go_wp2
  all_goals
    go_ret
    go_light
    exact ⟨ret_bool (by grind [Sp.short, List.length_pos_iff]), Below.refl _ _⟩
set_option maxRecDepth 100000 in
set_option maxHeartbeats 400000 in
theorem isRoot_any (r : Sp.Root) (w : World) :
    Calls Tryz.prog 110 #[.agg (rootV r).toArray] w fun e w' => e = .returned (.bool (Sp.isRoot r)) ∧ Below w.heap.size w w' := by
  obtain ⟨p, n, f⟩ := r
  simp only [rootV]
  go_enter Tryz.func110, Tryz.ntmps110
  go_wp2_with (go_at_call 111; refine (noneOr_any _ _).mono ?_; rintro e w1 ⟨rfl, hb⟩; obtain ⟨hc, hf⟩ := bcell hb)
  all_goals
    go_ret
    go_light
    exact ⟨ret_bool (by grind [Sp.isRoot]), ((Below.refl _ _).alloc (Nat.le_refl _) _).trans (hb.mono (by simp))⟩
end Go.Proofs.YtlpmjeiogdlifaaGreat
