/- The document's pages read: kind 6. The document's pages read: kind 7. The document's pages read: (*copyholdref1.Cut).page whole. The document's roots, values, items as bytes. -/
import Derived.Test.YtmcpkhknjdiocaaGreatDoorQB04
import Derived.Test.YtmcpkhknjdiocaaGreatDoorQB09
import Derived.Test.YtmcpkhknjdiocaaGreatDoorQB11
import Derived.Test.YtmcpkhknjdiocaaGreatDoorQB15
import Derived.Test.YtmcpkhknjdiocaaGreatDoorQB16
import Derived.Test.YtmcpkhknjdiocaaGreatDoorQB17
set_option linter.unusedSimpArgs false
set_option linter.unusedVariables false
namespace Go.Proofs.YtmcpkhknjdiocaaGreatDoor
open Go.RowKit
attribute [local go_sem low] mk_extract
attribute [local go_sem] After.cell After.frozen mk_extract_end ByteArray.mk_append_mk
set_option maxRecDepth 100000 in
set_option maxHeartbeats 6400000 in
theorem dPage6 (g : Nat) (c : Sp.Cut) (w : World) (hs : c.s.length ≤ 4611686018427387904) (hc : DCut w g c.s c.bad) (hk : (Sp.Cut.int 6 c).1 = 6) :
    Calls Tryz.prog 148 #[.pointer (some ⟨g, 0, none⟩)] w fun e w' => DPageOut g c w e w' := by
  have hgw := hc.lt
  have hsz0 : w.heap.size < w.heap.size + 1 := by omega
  have P := Lib.hid (show PreS w g c PageT w.heap.size #[.int .i64 0, .slice none 0 0, .slice none 0 0, .slice none 0 0, .string ⟨#[]⟩, .slice none 0 0, .slice none 0 0, .int .i64 0, .int .u64 0, .int .i64 0, .int .i64 0, .int .i64 0, .int .i64 0, .int .i64 0] (w.alloc (.cells #[.int .i64 0, .slice none 0 0, .slice none 0 0, .slice none 0 0, .string ⟨#[]⟩, .slice none 0 0, .slice none 0 0, .int .i64 0, .int .u64 0, .int .i64 0, .int .i64 0, .int .i64 0, .int .i64 0, .int .i64 0] PageT)) from ⟨Blk.alloc hc _, (Chg.refl _ _).alloc _, Blk.new _ _ _, Nat.le_refl _, hgw, hs⟩)
  clear hc hs
  have hkr := Sp.Cut.int_rng 6 (by omega) c
  have hmk : ∀ (x : Sp.Page) (d : Sp.Cut), c.dpage = (x, d) → ∀ (r : Refs) (e : Ending) (w' : World), e = .returned (.agg (pageV x r).toArray) → (∀ M : Nat → Prop, (∀ k, w.heap.size ≤ k → ¬ M k) → PageRd w' M x r) → DCut w' g d.s d.bad → Chg (OneM g) w w' → DPageOut g c w e w' := fun x d h r e w' he ht hd hk => by
    unfold DPageOut
    rw [h]
    exact ⟨r, he, ht, hd, hk⟩
  have HMK := Lib.hid hmk
  clear hmk
  have HDF := Lib.hid (show c.dpage = (⟨(Sp.Cut.int 6 c).1, [], [], [], [], [], [], 0, (Sp.Cut.int 6 c).2.dmt.1⟩, (Sp.Cut.int 6 c).2.dmt.2) by unfold Sp.Cut.dpage; rw [if_neg (by omega), if_neg (by omega), if_neg (by omega), if_neg (by omega), if_neg (by omega), if_pos hk])
  have HIN := Lib.hid (fun w hs h => dInt_any 6 (by omega) (by omega) g c.s c.bad w hs h)
  have HIL := Lib.hid (Sp.Cut.int_len 6 c)
  rw [show (⟨c.s, c.bad⟩ : Sp.Cut) = c from rfl] at HIN
  generalize Sp.Cut.int 6 c = kdc at *
  obtain ⟨kd, c2⟩ := kdc
  dsimp only at *
  have e1 : (kd == 1) = false := by rw [beq_eq_false_iff_ne]; omega
  have e2 : (kd == 2) = false := by rw [beq_eq_false_iff_ne]; omega
  have e3 : (kd == 3) = false := by rw [beq_eq_false_iff_ne]; omega
  have e4 : (kd == 4) = false := by rw [beq_eq_false_iff_ne]; omega
  have e5 : (kd == 5) = false := by rw [beq_eq_false_iff_ne]; omega
  have e6 : (kd == 6) = true := beq_iff_eq.2 hk
  have HKR := Lib.hid hkr
  clear hk hkr
  go_enter Tryz.func148, Tryz.ntmps148
  go_upto_region 1 with fail
  go_cut [3] (fun s3 W => ∃ b3, s3 = .pointer (some ⟨b3, 0, none⟩) ∧ w.heap.size < b3 ∧ MkS w g c2 PageT w.heap.size #[.int .i64 0, .slice none 0 0, .slice none 0 0, .slice none 0 0, .string ⟨#[]⟩, .slice none 0 0, .slice none 0 0, .int .i64 0, .int .u64 0, .int .i64 0, .int .i64 0, .int .i64 0, .int .i64 0, .int .i64 0] b3 #[.int .i64 kd, .slice none 0 0, .slice none 0 0, .slice none 0 0, .string ⟨#[]⟩, .slice none 0 0, .slice none 0 0, .int .i64 0, .int .u64 0, .int .i64 0, .int .i64 0, .int .i64 0, .int .i64 0, .int .i64 0] W)
  case first =>
    go_wp2_with (first
      | (go_at_call 168; refine (HIN.out _ P.out.hl P.out.dc).mono ?_; rintro e w1 ⟨rfl, hc1, hk1⟩; replace P := Lib.hid (P.out.call (c' := c2) hc1 hk1 HIL.out); clear hc1 hk1)
      | (refine wpList_new PageT _ _ rfl rfl rfl rfl rfl rfl _ rfl (of_decide_eq_true (by kernel_rfl)) (by kernel_rfl) (by kernel_rfl) (by kernel_rfl) ?_))
    go_meet
    case rel => exact ⟨_, rfl, P.out.z2.lt, P.out.new _⟩
  case rest =>
    obtain ⟨b3, rfl, hb3, hm⟩ := hcut
    have S := Lib.hid hm
    clear hm P
    obtain ⟨W1, rfl⟩ : ∃ W, W = wc := ⟨_, rfl⟩
    have q0 := S.out.z3.cell 0
    simp at q0
    have HNU := Lib.hid (fun W hs hc => show Calls Tryz.prog 147 #[.pointer (some ⟨g, 0, none⟩)] W (fun e w' => e = .returned (.int .u64 c2.u64.1) ∧ DCut w' g c2.u64.2.s c2.u64.2.bad ∧ Chg (OneM g) W w') from dCutNum_any g c2.s c2.bad W hs hc)
    have HUR := Lib.hid c2.u64_rng
    go_upto_region 26 with (go_at_call 147; refine (HNU.out _ S.out.p.hl S.out.p.dc).mono ?_; rintro e w1 ⟨rfl, hc1, hk1⟩; replace S := Lib.hid (S.out.call (c' := c2.u64.2) hc1 hk1 c2.u64_len); have q1 := S.out.z3.cell 8; have f1 := S.out.z3.frozen 8; simp at q1; clear hc1 hk1)
    refine wp_gen (fun W => MkS w g (c2.u64.2) PageT w.heap.size #[.int .i64 0, .slice none 0 0, .slice none 0 0, .slice none 0 0, .string ⟨#[]⟩, .slice none 0 0, .slice none 0 0, .int .i64 0, .int .u64 0, .int .i64 0, .int .i64 0, .int .i64 0, .int .i64 0, .int .i64 0] b3 #[.int .i64 kd, .slice none 0 0, .slice none 0 0, .slice none 0 0, .string ⟨#[]⟩, .slice none 0 0, .slice none 0 0, .int .i64 0, .int .u64 c2.u64.1, .int .i64 0, .int .i64 0, .int .i64 0, .int .i64 0, .int .i64 0] W ∧ True) ⟨S.out.set 8 _, trivial⟩ ?_
    intro W3 hm
    clear S
    try clear q0
    try clear q1 f1
    try clear q2 f2 q3 f3
    have S := Lib.hid hm.1
    have HT := Lib.hid hm.2
    clear hm
    go_upto_region 27 with (go_at_call 173; refine (dRoot_any g c2.u64.2 _ S.out.p.hl S.out.p.dc).mono ?_; rintro e w1 ⟨rfl, hc1, hk1⟩; replace S := Lib.hid (S.out.call (c' := c2.u64.2.droot.2) hc1 hk1 (Sp.Cut.droot_len _)); have q1 := S.out.z3.cell 9; have f1 := S.out.z3.frozen 9; have q2 := S.out.z3.cell 10; have f2 := S.out.z3.frozen 10; have q3 := S.out.z3.cell 11; have f3 := S.out.z3.frozen 11; simp at q1 q2 q3; clear hc1 hk1; simp only [rootV])
    refine wp_gen (fun W => MkS w g (c2.u64.2.droot.2) PageT w.heap.size #[.int .i64 0, .slice none 0 0, .slice none 0 0, .slice none 0 0, .string ⟨#[]⟩, .slice none 0 0, .slice none 0 0, .int .i64 0, .int .u64 0, .int .i64 0, .int .i64 0, .int .i64 0, .int .i64 0, .int .i64 0] b3 #[.int .i64 kd, .slice none 0 0, .slice none 0 0, .slice none 0 0, .string ⟨#[]⟩, .slice none 0 0, .slice none 0 0, .int .i64 0, .int .u64 c2.u64.1, .int .i64 c2.u64.2.droot.1.page, .int .i64 c2.u64.2.droot.1.count, .int .i64 c2.u64.2.droot.1.flags, .int .i64 0, .int .i64 0] W ∧ True) ⟨((S.out.set 9 _).set 10 _).set 11 _, trivial⟩ ?_
    intro W3 hm
    clear S
    try clear q0
    try clear q1 f1
    try clear q2 f2 q3 f3
    have S := Lib.hid hm.1
    have HT := Lib.hid hm.2
    clear hm
    go_upto_region 28 with (go_at_call 168; refine (dInt_any 400 (by omega) (by omega) g _ _ _ S.out.p.hl S.out.p.dc).mono ?_; rintro e w1 ⟨rfl, hc1, hk1⟩; replace S := Lib.hid (S.out.call (c' := (Sp.Cut.int 400 c2.u64.2.droot.2).2) hc1 hk1 (Sp.Cut.int_len _ _)); have q1 := S.out.z3.cell 12; have f1 := S.out.z3.frozen 12; simp at q1; clear hc1 hk1)
    refine wp_gen (fun W => MkS w g ((Sp.Cut.int 400 c2.u64.2.droot.2).2) PageT w.heap.size #[.int .i64 0, .slice none 0 0, .slice none 0 0, .slice none 0 0, .string ⟨#[]⟩, .slice none 0 0, .slice none 0 0, .int .i64 0, .int .u64 0, .int .i64 0, .int .i64 0, .int .i64 0, .int .i64 0, .int .i64 0] b3 #[.int .i64 kd, .slice none 0 0, .slice none 0 0, .slice none 0 0, .string ⟨#[]⟩, .slice none 0 0, .slice none 0 0, .int .i64 0, .int .u64 c2.u64.1, .int .i64 c2.u64.2.droot.1.page, .int .i64 c2.u64.2.droot.1.count, .int .i64 c2.u64.2.droot.1.flags, .int .i64 (Sp.Cut.int 400 c2.u64.2.droot.2).1, .int .i64 0] W ∧ True) ⟨S.out.set 12 _, trivial⟩ ?_
    intro W3 hm
    clear S
    try clear q0
    try clear q1 f1
    try clear q2 f2 q3 f3
    have S := Lib.hid hm.1
    have HT := Lib.hid hm.2
    clear hm
    go_upto_region 29 with (go_at_call 168; refine (dInt_any 400 (by omega) (by omega) g _ _ _ S.out.p.hl S.out.p.dc).mono ?_; rintro e w1 ⟨rfl, hc1, hk1⟩; replace S := Lib.hid (S.out.call (c' := (Sp.Cut.int 400 (Sp.Cut.int 400 c2.u64.2.droot.2).2).2) hc1 hk1 (Sp.Cut.int_len _ _)); have q1 := S.out.z3.cell 13; have f1 := S.out.z3.frozen 13; simp at q1; clear hc1 hk1)
    refine wp_gen (fun W => MkS w g ((Sp.Cut.int 400 (Sp.Cut.int 400 c2.u64.2.droot.2).2).2) PageT w.heap.size #[.int .i64 0, .slice none 0 0, .slice none 0 0, .slice none 0 0, .string ⟨#[]⟩, .slice none 0 0, .slice none 0 0, .int .i64 0, .int .u64 0, .int .i64 0, .int .i64 0, .int .i64 0, .int .i64 0, .int .i64 0] b3 #[.int .i64 kd, .slice none 0 0, .slice none 0 0, .slice none 0 0, .string ⟨#[]⟩, .slice none 0 0, .slice none 0 0, .int .i64 0, .int .u64 c2.u64.1, .int .i64 c2.u64.2.droot.1.page, .int .i64 c2.u64.2.droot.1.count, .int .i64 c2.u64.2.droot.1.flags, .int .i64 (Sp.Cut.int 400 c2.u64.2.droot.2).1, .int .i64 (Sp.Cut.int 400 (Sp.Cut.int 400 c2.u64.2.droot.2).2).1] W ∧ True) ⟨S.out.set 13 _, trivial⟩ ?_
    intro W3 hm
    clear S
    try clear q0
    try clear q1 f1
    try clear q2 f2 q3 f3
    have S := Lib.hid hm.1
    have HT := Lib.hid hm.2
    clear hm
    go_wp2_with (first
      | (refine wpList_row PageT _ rfl b3 rfl rfl PageT _ (0, 0) _ S.out.z3 Tryz.underlying119 rfl rfl ?_)
      | (refine wpList_store_row rfl PageT _ _ rfl w.heap.size _ rfl rfl PageT _ S.out.p.z2 (by kernel_rfl) rfl (by kernel_rfl) ?_))
    have hD := S.out.done
    obtain ⟨⟨z0, z1, z2, z3, z4, z5, z6, z7, z8, z9, z10, z11, z12, z13⟩, _⟩ := hD.2.2.at14
    refine bodyPost_ret (v := .agg #[.int .i64 kd, .slice none 0 0, .slice none 0 0, .slice none 0 0, .string ⟨#[]⟩, .slice none 0 0, .slice none 0 0, .int .i64 0, .int .u64 c2.u64.1, .int .i64 c2.u64.2.droot.1.page, .int .i64 c2.u64.2.droot.1.count, .int .i64 c2.u64.2.droot.1.flags, .int .i64 (Sp.Cut.int 400 c2.u64.2.droot.2).1, .int .i64 (Sp.Cut.int 400 (Sp.Cut.int 400 c2.u64.2.droot.2).2).1]) (by simp [results, Tryz.results148, go_sem, z0, z1, z2, z3, z4, z5, z6, z7, z8, z9, z10, z11, z12, z13]) rfl (HMK.out _ _ HDF.out (⟨none, none, none, none, none, 0, 0, 0, 0, 0⟩) _ _ rfl (fun M hM => ⟨Items.nil_, Row.nil_, Row.nil_, Row.nil_, Frees.nil_, HUR.out⟩) hD.1 hD.2.1)
end Go.Proofs.YtmcpkhknjdiocaaGreatDoor
namespace Go.Proofs.YtmcpkhknjdiocaaGreatDoor
open Go.RowKit
attribute [local go_sem low] mk_extract
attribute [local go_sem] After.cell After.frozen mk_extract_end ByteArray.mk_append_mk
set_option maxRecDepth 100000 in
set_option maxHeartbeats 6400000 in
theorem dPage7 (g : Nat) (c : Sp.Cut) (w : World) (hs : c.s.length ≤ 4611686018427387904) (hc : DCut w g c.s c.bad) (hk : (Sp.Cut.int 6 c).1 ≠ 1 ∧ (Sp.Cut.int 6 c).1 ≠ 2 ∧ (Sp.Cut.int 6 c).1 ≠ 3 ∧ (Sp.Cut.int 6 c).1 ≠ 4 ∧ (Sp.Cut.int 6 c).1 ≠ 5 ∧ (Sp.Cut.int 6 c).1 ≠ 6) :
    Calls Tryz.prog 148 #[.pointer (some ⟨g, 0, none⟩)] w fun e w' => DPageOut g c w e w' := by
  have hgw := hc.lt
  have hsz0 : w.heap.size < w.heap.size + 1 := by omega
  have P := Lib.hid (show PreS w g c PageT w.heap.size #[.int .i64 0, .slice none 0 0, .slice none 0 0, .slice none 0 0, .string ⟨#[]⟩, .slice none 0 0, .slice none 0 0, .int .i64 0, .int .u64 0, .int .i64 0, .int .i64 0, .int .i64 0, .int .i64 0, .int .i64 0] (w.alloc (.cells #[.int .i64 0, .slice none 0 0, .slice none 0 0, .slice none 0 0, .string ⟨#[]⟩, .slice none 0 0, .slice none 0 0, .int .i64 0, .int .u64 0, .int .i64 0, .int .i64 0, .int .i64 0, .int .i64 0, .int .i64 0] PageT)) from ⟨Blk.alloc hc _, (Chg.refl _ _).alloc _, Blk.new _ _ _, Nat.le_refl _, hgw, hs⟩)
  clear hc hs
  have hkr := Sp.Cut.int_rng 6 (by omega) c
  have hmk : ∀ (x : Sp.Page) (d : Sp.Cut), c.dpage = (x, d) → ∀ (r : Refs) (e : Ending) (w' : World), e = .returned (.agg (pageV x r).toArray) → (∀ M : Nat → Prop, (∀ k, w.heap.size ≤ k → ¬ M k) → PageRd w' M x r) → DCut w' g d.s d.bad → Chg (OneM g) w w' → DPageOut g c w e w' := fun x d h r e w' he ht hd hk => by
    unfold DPageOut
    rw [h]
    exact ⟨r, he, ht, hd, hk⟩
  have HMK := Lib.hid hmk
  clear hmk
  have HDF := Lib.hid (show c.dpage = (⟨(Sp.Cut.int 6 c).1, [], [], [], [], [], [], 0, Sp.mt0⟩, (Sp.Cut.int 6 c).2) by unfold Sp.Cut.dpage; rw [if_neg (by omega), if_neg (by omega), if_neg (by omega), if_neg (by omega), if_neg (by omega), if_neg (by omega)])
  have HIN := Lib.hid (fun w hs h => dInt_any 6 (by omega) (by omega) g c.s c.bad w hs h)
  have HIL := Lib.hid (Sp.Cut.int_len 6 c)
  rw [show (⟨c.s, c.bad⟩ : Sp.Cut) = c from rfl] at HIN
  generalize Sp.Cut.int 6 c = kdc at *
  obtain ⟨kd, c2⟩ := kdc
  dsimp only at *
  have e1 : (kd == 1) = false := by rw [beq_eq_false_iff_ne]; omega
  have e2 : (kd == 2) = false := by rw [beq_eq_false_iff_ne]; omega
  have e3 : (kd == 3) = false := by rw [beq_eq_false_iff_ne]; omega
  have e4 : (kd == 4) = false := by rw [beq_eq_false_iff_ne]; omega
  have e5 : (kd == 5) = false := by rw [beq_eq_false_iff_ne]; omega
  have e6 : (kd == 6) = false := by rw [beq_eq_false_iff_ne]; omega
  have HKR := Lib.hid hkr
  clear hk hkr
  go_enter Tryz.func148, Tryz.ntmps148
  go_upto_region 1 with fail
  go_cut [3] (fun s3 W => ∃ b3, s3 = .pointer (some ⟨b3, 0, none⟩) ∧ w.heap.size < b3 ∧ MkS w g c2 PageT w.heap.size #[.int .i64 0, .slice none 0 0, .slice none 0 0, .slice none 0 0, .string ⟨#[]⟩, .slice none 0 0, .slice none 0 0, .int .i64 0, .int .u64 0, .int .i64 0, .int .i64 0, .int .i64 0, .int .i64 0, .int .i64 0] b3 #[.int .i64 kd, .slice none 0 0, .slice none 0 0, .slice none 0 0, .string ⟨#[]⟩, .slice none 0 0, .slice none 0 0, .int .i64 0, .int .u64 0, .int .i64 0, .int .i64 0, .int .i64 0, .int .i64 0, .int .i64 0] W)
  case first =>
    go_wp2_with (first
      | (go_at_call 168; refine (HIN.out _ P.out.hl P.out.dc).mono ?_; rintro e w1 ⟨rfl, hc1, hk1⟩; replace P := Lib.hid (P.out.call (c' := c2) hc1 hk1 HIL.out); clear hc1 hk1)
      | (refine wpList_new PageT _ _ rfl rfl rfl rfl rfl rfl _ rfl (of_decide_eq_true (by kernel_rfl)) (by kernel_rfl) (by kernel_rfl) (by kernel_rfl) ?_))
    go_meet
    case rel => exact ⟨_, rfl, P.out.z2.lt, P.out.new _⟩
  case rest =>
    obtain ⟨b3, rfl, hb3, hm⟩ := hcut
    have S := Lib.hid hm
    clear hm P
    obtain ⟨W1, rfl⟩ : ∃ W, W = wc := ⟨_, rfl⟩
    have q0 := S.out.z3.cell 0
    simp at q0
    go_upto_region 29 with fail
    go_wp2_with (first
      | (refine wpList_row PageT _ rfl b3 rfl rfl PageT _ (0, 0) _ S.out.z3 Tryz.underlying119 rfl rfl ?_)
      | (refine wpList_store_row rfl PageT _ _ rfl w.heap.size _ rfl rfl PageT _ S.out.p.z2 (by kernel_rfl) rfl (by kernel_rfl) ?_))
    have hD := S.out.done
    obtain ⟨⟨z0, z1, z2, z3, z4, z5, z6, z7, z8, z9, z10, z11, z12, z13⟩, _⟩ := hD.2.2.at14
    refine bodyPost_ret (v := .agg #[.int .i64 kd, .slice none 0 0, .slice none 0 0, .slice none 0 0, .string ⟨#[]⟩, .slice none 0 0, .slice none 0 0, .int .i64 0, .int .u64 0, .int .i64 0, .int .i64 0, .int .i64 0, .int .i64 0, .int .i64 0]) (by simp [results, Tryz.results148, go_sem, z0, z1, z2, z3, z4, z5, z6, z7, z8, z9, z10, z11, z12, z13]) rfl (HMK.out _ _ HDF.out (⟨none, none, none, none, none, 0, 0, 0, 0, 0⟩) _ _ rfl (fun M hM => ⟨Items.nil_, Row.nil_, Row.nil_, Row.nil_, Frees.nil_, by simp [Sp.mt0]⟩) hD.1 hD.2.1)
end Go.Proofs.YtmcpkhknjdiocaaGreatDoor
namespace Go.Proofs.YtmcpkhknjdiocaaGreatDoor
open Go.RowKit
attribute [local go_sem low] mk_extract
attribute [local go_sem] After.cell After.frozen mk_extract_end ByteArray.mk_append_mk
theorem dPage_any (g : Nat) (c : Sp.Cut) (w : World) (hs : c.s.length ≤ 4611686018427387904) (hc : DCut w g c.s c.bad) :
    Calls Tryz.prog 148 #[.pointer (some ⟨g, 0, none⟩)] w fun e w' => DPageOut g c w e w' := by
  by_cases h1 : (Sp.Cut.int 6 c).1 = 1
  · exact dPage1 g c w hs hc h1
  by_cases h2 : (Sp.Cut.int 6 c).1 = 2
  · exact dPage2 g c w hs hc h2
  by_cases h3 : (Sp.Cut.int 6 c).1 = 3
  · exact dPage3 g c w hs hc h3
  by_cases h4 : (Sp.Cut.int 6 c).1 = 4
  · exact dPage4 g c w hs hc h4
  by_cases h5 : (Sp.Cut.int 6 c).1 = 5
  · exact dPage5 g c w hs hc h5
  by_cases h6 : (Sp.Cut.int 6 c).1 = 6
  · exact dPage6 g c w hs hc h6
  exact dPage7 g c w hs hc ⟨h1, h2, h3, h4, h5, h6⟩
end Go.Proofs.YtmcpkhknjdiocaaGreatDoor
namespace Go.Proofs.YtmcpkhknjdiocaaGreatDoor
open Go.RowKit
attribute [local go_sem low] mk_extract
attribute [local go_sem] After.cell After.frozen mk_extract_end ByteArray.mk_append_mk
attribute [local go_sem] Sp.le8_length Sp.rootB_len
set_option maxRecDepth 100000 in
set_option maxHeartbeats 400000 in
theorem drootB_any (r : Sp.Root) (w : World) (h : Sp.isRoot r = true) :
    Calls Tryz.prog 83 #[.agg (rootV r).toArray] w fun e w' => e = .returned (.string ⟨(Sp.rootB r).toArray⟩) ∧ Below w.heap.size w w' := by
  obtain ⟨p, n, f⟩ := r
  obtain ⟨a0, a1, b0, b1, c0, c1⟩ := Sp.isRoot_rng h
  clear h
  simp only [rootV] at *
  go_enter Tryz.func83, Tryz.ntmps83
  go_wp2
  refine wp_region_after (by kernel_rfl) (by kernel_rfl) (w.heap.size + 1) ?_
  repeat (go_big_quiet_step ((go_at_call 63; exact after_call (by simp) (dnum_any _ (by omega) (by omega) _))))
  refine wpQuiet_nil ?_
  intro w1 hb
  go_wp2
  go_ret
  exact ⟨by simp [Sp.rootB], by (repeat (first | (with_reducible exact Below.refl _ _) | (with_reducible assumption) | (refine below_step (by assumption) (by first | omega | (simp; done) | (simp; omega)) ?_) | (with_reducible refine Below.alloc ?_ (by first | omega | (simp; done) | (simp; omega)) _) | (with_reducible refine Below.drew ?_) | (with_reducible refine below_drewN ?_ _) | (with_reducible refine Below.setCell ?_ (by first | omega | (simp; done) | (simp; omega)) _)))⟩
set_option maxRecDepth 100000 in
set_option maxHeartbeats 400000 in
theorem dtexts_any (l : List Txt) (A : Option Addr) (c : Nat) {M : Nat → Prop} (w : World) (hl : Txts w M A l) (hn : l.length ≤ 1000) :
    Calls Tryz.prog 82 #[.slice A l.length c] w fun e w' => e = .returned (.string ⟨(Sp.valsB l).toArray⟩) ∧ Below w.heap.size w w' := by
  have Hl := Lib.hid hl
  clear hl
  go_enter Tryz.func82, Tryz.ntmps82
  go_wp2_with (go_at_call 63; refine (dnum_any _ (by omega) (by omega) _).mono ?_; rintro e w1 ⟨rfl, hb⟩)
  have hz := hb.size
  go_loopw [3, 4] (fun o i wr => ∃ k : Nat, k ≤ l.length ∧ i = .int .i64 k ∧ o = .string ⟨(Sp.le8 l.length ++ Sp.textsB (l.take k)).toArray⟩ ∧ Below w.heap.size w wr) (fun _ i _ => l.length - (intOf i).toNat)
  case atStart => exact ⟨0, Nat.zero_le _, rfl, by simp [Sp.textsB], hb⟩
  case round =>
    obtain ⟨k, hk, rfl, rfl, hb2⟩ := hrel
    have hz2 := hb2.size
    by_cases hlt : k < l.length
    · obtain ⟨b, off, rfl, hbl, hc⟩ := Hl.out.at_ hlt
      have hc0 := (hb2.cell (p := ⟨_, _, none⟩) hbl).trans (hc k hlt)
      clear hc
      have HT := Lib.hid (Sp.textsB_succ l k hlt)
      have hle := Sp.textsB_le (l.take k)
      have hle2 : (Sp.textsB (l.take k)).length ≤ 65537 * 1000 := by
        rw [List.length_take] at hle
        omega
      clear hle
      have hte := Sp.text_le (l.getD k [])
      generalize l.getD k [] = x at *
      generalize Sp.textsB (l.take k) = t at *
      go_wp2_with (go_at_call 81; refine (dText_any x _).mono ?_; rintro e w3 ⟨rfl, hb3⟩)
      have hz3 := hb3.size
      refine ⟨⟨k + 1, by omega, by go_num, by rw [HT.out] <;> simp, by (repeat (first | (with_reducible exact Below.refl _ _) | (with_reducible assumption) | (refine below_step (by assumption) (by first | omega | (simp; done) | (simp; omega)) ?_) | (with_reducible refine Below.alloc ?_ (by first | omega | (simp; done) | (simp; omega)) _) | (with_reducible refine Below.drew ?_) | (with_reducible refine below_drewN ?_ _) | (with_reducible refine Below.setCell ?_ (by first | omega | (simp; done) | (simp; omega)) _)))⟩, by simp [intOf]; omega⟩
    · have hkl : k = l.length := by omega
      go_wp2
      go_ret
      have htk : l.take k = l := List.take_of_length_le (by omega)
      exact ⟨by simp [Sp.valsB, htk], hb2⟩
set_option maxRecDepth 100000 in
set_option maxHeartbeats 1600000 in
theorem ditemB_any (x : Sp.Item) (V : Option Addr) (c : Nat) {M : Nat → Prop} (w : World) (hx : Txts w M V x.vals) (h : Sp.isItem x = true) :
    Calls Tryz.prog 80 #[.agg (itemV x V c).toArray] w fun e w' => e = .returned (.string ⟨(Sp.itemB x).toArray⟩) ∧ Below w.heap.size w w' := by
  obtain ⟨k0, k1, r0, r1, l0, l1, d0, d1, v1, hr⟩ := Sp.isItem_rng h
  have HR := Lib.hid hr
  have Hx := Lib.hid hx
  clear h hr hx
  have t1 := Sp.text_le x.key
  have t2 := Sp.text_le x.val
  have t3 := Sp.valsB_le x.vals
  have hsz : w.heap.size < w.heap.size + 1 := by omega
  simp only [itemV]
  rcases (by omega : x.kind = 1 ∨ x.kind = 2 ∨ x.kind = 3 ∨ (x.kind = 4 ∨ x.kind = 0)) with hk | hk | hk | hk
  · have e1 : (x.kind == 1) = true := by rw [beq_iff_eq]; omega
    have HK := Lib.hid (Sp.itemB1 hk)
    clear hk
    go_enter Tryz.func80, Tryz.ntmps80
    go_wp2
    refine wp_region_after (by kernel_rfl) (by kernel_rfl) (w.heap.size + 1) ?_
    repeat (go_big_quiet_step (first | (go_at_call 63; exact after_call (by simp) (dnum_any _ (by omega) (by omega) _)) | (go_at_call 81; exact after_call (by simp) (dText_any _ _))))
    refine wpQuiet_nil ?_
    intro w1 hb
    obtain ⟨hc, hf⟩ := bcell hb
    have hsz : w.heap.size < w1.heap.size := by have := hb.size; simp at this; omega
    go_wp2_with (go_at_call 81; refine (dText_any _ _).mono ?_; rintro e w2 ⟨rfl, hb2⟩; have hz := hb2.size; have hsz : w.heap.size < w2.heap.size := Nat.lt_of_lt_of_le (by first | exact hsz | omega | (simp; done) | (simp; omega)) hz; obtain ⟨hc2, hf2⟩ := bcell hb2)
    go_ret
    exact ⟨by rw [HK.out]; simp, by (repeat (first | (with_reducible exact Below.refl _ _) | (with_reducible assumption) | (refine below_step (by assumption) (by first | omega | (simp; done) | (simp; omega)) ?_) | (with_reducible refine Below.alloc ?_ (by first | omega | (simp; done) | (simp; omega)) _) | (with_reducible refine Below.drew ?_) | (with_reducible refine below_drewN ?_ _) | (with_reducible refine Below.setCell ?_ (by first | omega | (simp; done) | (simp; omega)) _)))⟩
  · have e1 : (x.kind == 1) = false := by rw [beq_eq_false_iff_ne]; omega
    have e2 : (x.kind == 2) = true := by rw [beq_iff_eq]; omega
    have HK := Lib.hid (Sp.itemB2 hk)
    clear hk
    go_enter Tryz.func80, Tryz.ntmps80
    go_wp2
    refine wp_region_after (by kernel_rfl) (by kernel_rfl) (w.heap.size + 1) ?_
    repeat (go_big_quiet_step (first | (go_at_call 63; exact after_call (by simp) (dnum_any _ (by omega) (by omega) _)) | (go_at_call 81; exact after_call (by simp) (dText_any _ _))))
    refine wpQuiet_nil ?_
    intro w1 hb
    obtain ⟨hc, hf⟩ := bcell hb
    have hsz : w.heap.size < w1.heap.size := by have := hb.size; simp at this; omega
    go_wp2
    refine wp_region_after (by kernel_rfl) (by kernel_rfl) (w1.heap.size) ?_
    repeat (go_big_quiet_step (first | (go_at_call 63; exact after_call (by simp) (dnum_any _ (by omega) (by omega) _))))
    refine wpQuiet_nil ?_
    intro w2 hb2
    go_wp2
    go_ret
    exact ⟨by rw [HK.out]; simp, by (repeat (first | (with_reducible exact Below.refl _ _) | (with_reducible assumption) | (refine below_step (by assumption) (by first | omega | (simp; done) | (simp; omega)) ?_) | (with_reducible refine Below.alloc ?_ (by first | omega | (simp; done) | (simp; omega)) _) | (with_reducible refine Below.drew ?_) | (with_reducible refine below_drewN ?_ _) | (with_reducible refine Below.setCell ?_ (by first | omega | (simp; done) | (simp; omega)) _)))⟩
  · have e1 : (x.kind == 1) = false := by rw [beq_eq_false_iff_ne]; omega
    have e2 : (x.kind == 2) = false := by rw [beq_eq_false_iff_ne]; omega
    have e3 : (x.kind == 3) = true := by rw [beq_iff_eq]; omega
    have HK := Lib.hid (Sp.itemB3 hk)
    clear hk
    go_enter Tryz.func80, Tryz.ntmps80
    go_wp2
    refine wp_region_after (by kernel_rfl) (by kernel_rfl) (w.heap.size + 1) ?_
    repeat (go_big_quiet_step (first | (go_at_call 63; exact after_call (by simp) (dnum_any _ (by omega) (by omega) _)) | (go_at_call 81; exact after_call (by simp) (dText_any _ _))))
    refine wpQuiet_nil ?_
    intro w1 hb
    obtain ⟨hc, hf⟩ := bcell hb
    have hsz : w.heap.size < w1.heap.size := by have := hb.size; simp at this; omega
    have Hb := Lib.hid hb
    go_wp2
    refine wp_region_after (by kernel_rfl) (by kernel_rfl) (w1.heap.size) ?_
    repeat (go_big_quiet_step (first | (go_at_call 63; exact after_call (by simp) (dnum_any _ (by omega) (by omega) _)) | (go_at_call 82; exact after_call (by simp) (dtexts_any x.vals V c _ (Hx.out.go (Below.trans (b := w1) (Below.trans (b := w.alloc _) (by go_grown) (Hb.out.mono (by omega))) ((After.h _).mono (by omega)))) (by omega)))))
    refine wpQuiet_nil ?_
    intro w2 hb2
    go_wp2
    go_ret
    exact ⟨by rw [HK.out]; simp, by (repeat (first | (with_reducible exact Below.refl _ _) | (with_reducible assumption) | (refine below_step (by assumption) (by first | omega | (simp; done) | (simp; omega)) ?_) | (with_reducible refine Below.alloc ?_ (by first | omega | (simp; done) | (simp; omega)) _) | (with_reducible refine Below.drew ?_) | (with_reducible refine below_drewN ?_ _) | (with_reducible refine Below.setCell ?_ (by first | omega | (simp; done) | (simp; omega)) _)))⟩
  · have e1 : (x.kind == 1) = false := by rw [beq_eq_false_iff_ne]; omega
    have e2 : (x.kind == 2) = false := by rw [beq_eq_false_iff_ne]; omega
    have e3 : (x.kind == 3) = false := by rw [beq_eq_false_iff_ne]; omega
    have HK := Lib.hid (Sp.itemB4 (x := x) (by omega) (by omega) (by omega))
    clear hk
    go_enter Tryz.func80, Tryz.ntmps80
    go_wp2
    refine wp_region_after (by kernel_rfl) (by kernel_rfl) (w.heap.size + 1) ?_
    repeat (go_big_quiet_step (first | (go_at_call 63; exact after_call (by simp) (dnum_any _ (by omega) (by omega) _)) | (go_at_call 81; exact after_call (by simp) (dText_any _ _))))
    refine wpQuiet_nil ?_
    intro w1 hb
    obtain ⟨hc, hf⟩ := bcell hb
    have hsz : w.heap.size < w1.heap.size := by have := hb.size; simp at this; omega
    go_wp2_with (go_at_call 83; refine (drootB_any x.root _ HR.out).mono ?_; rintro e w2 ⟨rfl, hb2⟩; have hz := hb2.size; have hsz : w.heap.size < w2.heap.size := Nat.lt_of_lt_of_le (by first | exact hsz | omega | (simp; done) | (simp; omega)) hz; obtain ⟨hc2, hf2⟩ := bcell hb2)
    go_ret
    exact ⟨by rw [HK.out]; simp, by (repeat (first | (with_reducible exact Below.refl _ _) | (with_reducible assumption) | (refine below_step (by assumption) (by first | omega | (simp; done) | (simp; omega)) ?_) | (with_reducible refine Below.alloc ?_ (by first | omega | (simp; done) | (simp; omega)) _) | (with_reducible refine Below.drew ?_) | (with_reducible refine below_drewN ?_ _) | (with_reducible refine Below.setCell ?_ (by first | omega | (simp; done) | (simp; omega)) _)))⟩
end Go.Proofs.YtmcpkhknjdiocaaGreatDoor
