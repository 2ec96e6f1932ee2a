/- The document's pages read: kind 6. The document's pages read: kind 7. The document's pages read: (*copyholdref1.Cut).page whole. The document's Read: the walk. -/
import Derived.Test.YtmcpkhknjdiocaaGreatDoorQB09
import Derived.Test.YtmcpkhknjdiocaaGreatDoorQB18
import Derived.Test.YtmcpkhknjdiocaaGreatDoorQB22
import Derived.Test.YtmcpkhknjdiocaaGreatDoorQB23
set_option linter.unusedSimpArgs false
set_option linter.unusedVariables false
namespace Go.Proofs.YtmcpkhknjdiocaaGreatDoor
open Go.RowKit
attribute [local go_sem low] mk_extract
attribute [local go_sem] After.cell After.frozen mk_extract_end ByteArray.mk_append_mk
set_option maxRecDepth 100000 in
set_option maxHeartbeats 6400000 in
theorem dPage6 (g : Nat) (c : Sp.Cut) (w : World) (hs : c.s.length ≤ 4611686018427387904) (hc : DCut w g c.s c.bad) (hk : (Sp.Cut.int 6 c).1 = 6) :
    Calls Tryz.prog 148 #[.pointer (some ⟨g, 0, none⟩)] w fun e w' => DPageOut g c w e w' := by
  have hgw := hc.lt
  have hsz0 : w.heap.size < w.heap.size + 1 := by omega
  have P := Lib.hid (show PreS w g c PageT w.heap.size #[.int .i64 0, .slice none 0 0, .slice none 0 0, .slice none 0 0, .string ⟨#[]⟩, .slice none 0 0, .slice none 0 0, .int .i64 0, .int .u64 0, .int .i64 0, .int .i64 0, .int .i64 0, .int .i64 0, .int .i64 0] (w.alloc (.cells #[.int .i64 0, .slice none 0 0, .slice none 0 0, .slice none 0 0, .string ⟨#[]⟩, .slice none 0 0, .slice none 0 0, .int .i64 0, .int .u64 0, .int .i64 0, .int .i64 0, .int .i64 0, .int .i64 0, .int .i64 0] PageT)) from ⟨Blk.alloc hc _, (Chg.refl _ _).alloc _, Blk.new _ _ _, Nat.le_refl _, hgw, hs⟩)
  clear hc hs
  have hkr := Sp.Cut.int_rng 6 (by omega) c
  have hmk : ∀ (x : Sp.Page) (d : Sp.Cut), c.dpage = (x, d) → ∀ (r : Refs) (e : Ending) (w' : World), e = .returned (.agg (pageV x r).toArray) → (∀ M : Nat → Prop, (∀ k, w.heap.size ≤ k → ¬ M k) → PageRd w' M x r) → DCut w' g d.s d.bad → Chg (OneM g) w w' → DPageOut g c w e w' := fun x d h r e w' he ht hd hk => by
    unfold DPageOut
    rw [h]
    exact ⟨r, he, ht, hd, hk⟩
  have HMK := Lib.hid hmk
  clear hmk
  have HDF := Lib.hid (show c.dpage = (⟨(Sp.Cut.int 6 c).1, [], [], [], [], [], [], 0, (Sp.Cut.int 6 c).2.dmt.1⟩, (Sp.Cut.int 6 c).2.dmt.2) by unfold Sp.Cut.dpage; rw [if_neg (by omega), if_neg (by omega), if_neg (by omega), if_neg (by omega), if_neg (by omega), if_pos hk])
  have HIN := Lib.hid (fun w hs h => dInt_any 6 (by omega) (by omega) g c.s c.bad w hs h)
  have HIL := Lib.hid (Sp.Cut.int_len 6 c)
  rw [show (⟨c.s, c.bad⟩ : Sp.Cut) = c from rfl] at HIN
  generalize Sp.Cut.int 6 c = kdc at *
  obtain ⟨kd, c2⟩ := kdc
  dsimp only at *
  have e1 : (kd == 1) = false := by rw [beq_eq_false_iff_ne]; omega
  have e2 : (kd == 2) = false := by rw [beq_eq_false_iff_ne]; omega
  have e3 : (kd == 3) = false := by rw [beq_eq_false_iff_ne]; omega
  have e4 : (kd == 4) = false := by rw [beq_eq_false_iff_ne]; omega
  have e5 : (kd == 5) = false := by rw [beq_eq_false_iff_ne]; omega
  have e6 : (kd == 6) = true := beq_iff_eq.2 hk
  have HKR := Lib.hid hkr
  clear hk hkr
  go_enter Tryz.func148, Tryz.ntmps148
  go_upto_region 1 with fail
  go_cut [3] (fun s3 W => ∃ b3, s3 = .pointer (some ⟨b3, 0, none⟩) ∧ w.heap.size < b3 ∧ MkS w g c2 PageT w.heap.size #[.int .i64 0, .slice none 0 0, .slice none 0 0, .slice none 0 0, .string ⟨#[]⟩, .slice none 0 0, .slice none 0 0, .int .i64 0, .int .u64 0, .int .i64 0, .int .i64 0, .int .i64 0, .int .i64 0, .int .i64 0] b3 #[.int .i64 kd, .slice none 0 0, .slice none 0 0, .slice none 0 0, .string ⟨#[]⟩, .slice none 0 0, .slice none 0 0, .int .i64 0, .int .u64 0, .int .i64 0, .int .i64 0, .int .i64 0, .int .i64 0, .int .i64 0] W)
  case first =>
    go_wp2_with (first
      | (go_at_call 168; refine (HIN.out _ P.out.hl P.out.dc).mono ?_; rintro e w1 ⟨rfl, hc1, hk1⟩; replace P := Lib.hid (P.out.call (c' := c2) hc1 hk1 HIL.out); clear hc1 hk1)
      | (refine wpList_new PageT _ _ rfl rfl rfl rfl rfl rfl _ rfl (of_decide_eq_true (by kernel_rfl)) (by kernel_rfl) (by kernel_rfl) (by kernel_rfl) ?_))
    go_meet
    case rel => exact ⟨_, rfl, P.out.z2.lt, P.out.new _⟩
  case rest =>
    obtain ⟨b3, rfl, hb3, hm⟩ := hcut
    have S := Lib.hid hm
    clear hm P
    obtain ⟨W1, rfl⟩ : ∃ W, W = wc := ⟨_, rfl⟩
    have q0 := S.out.z3.cell 0
    simp at q0
    have HNU := Lib.hid (fun W hs hc => show Calls Tryz.prog 147 #[.pointer (some ⟨g, 0, none⟩)] W (fun e w' => e = .returned (.int .u64 c2.u64.1) ∧ DCut w' g c2.u64.2.s c2.u64.2.bad ∧ Chg (OneM g) W w') from dCutNum_any g c2.s c2.bad W hs hc)
    have HUR := Lib.hid c2.u64_rng
    go_upto_region 26 with (go_at_call 147; refine (HNU.out _ S.out.p.hl S.out.p.dc).mono ?_; rintro e w1 ⟨rfl, hc1, hk1⟩; replace S := Lib.hid (S.out.call (c' := c2.u64.2) hc1 hk1 c2.u64_len); have q1 := S.out.z3.cell 8; have f1 := S.out.z3.frozen 8; simp at q1; clear hc1 hk1)
    refine wp_gen (fun W => MkS w g (c2.u64.2) PageT w.heap.size #[.int .i64 0, .slice none 0 0, .slice none 0 0, .slice none 0 0, .string ⟨#[]⟩, .slice none 0 0, .slice none 0 0, .int .i64 0, .int .u64 0, .int .i64 0, .int .i64 0, .int .i64 0, .int .i64 0, .int .i64 0] b3 #[.int .i64 kd, .slice none 0 0, .slice none 0 0, .slice none 0 0, .string ⟨#[]⟩, .slice none 0 0, .slice none 0 0, .int .i64 0, .int .u64 c2.u64.1, .int .i64 0, .int .i64 0, .int .i64 0, .int .i64 0, .int .i64 0] W ∧ True) ⟨S.out.set 8 _, trivial⟩ ?_
    intro W3 hm
    clear S
    try clear q0
    try clear q1 f1
    try clear q2 f2 q3 f3
    have S := Lib.hid hm.1
    have HT := Lib.hid hm.2
    clear hm
    go_upto_region 27 with (go_at_call 173; refine (dRoot_any g c2.u64.2 _ S.out.p.hl S.out.p.dc).mono ?_; rintro e w1 ⟨rfl, hc1, hk1⟩; replace S := Lib.hid (S.out.call (c' := c2.u64.2.droot.2) hc1 hk1 (Sp.Cut.droot_len _)); have q1 := S.out.z3.cell 9; have f1 := S.out.z3.frozen 9; have q2 := S.out.z3.cell 10; have f2 := S.out.z3.frozen 10; have q3 := S.out.z3.cell 11; have f3 := S.out.z3.frozen 11; simp at q1 q2 q3; clear hc1 hk1; simp only [rootV])
    refine wp_gen (fun W => MkS w g (c2.u64.2.droot.2) PageT w.heap.size #[.int .i64 0, .slice none 0 0, .slice none 0 0, .slice none 0 0, .string ⟨#[]⟩, .slice none 0 0, .slice none 0 0, .int .i64 0, .int .u64 0, .int .i64 0, .int .i64 0, .int .i64 0, .int .i64 0, .int .i64 0] b3 #[.int .i64 kd, .slice none 0 0, .slice none 0 0, .slice none 0 0, .string ⟨#[]⟩, .slice none 0 0, .slice none 0 0, .int .i64 0, .int .u64 c2.u64.1, .int .i64 c2.u64.2.droot.1.page, .int .i64 c2.u64.2.droot.1.count, .int .i64 c2.u64.2.droot.1.flags, .int .i64 0, .int .i64 0] W ∧ True) ⟨((S.out.set 9 _).set 10 _).set 11 _, trivial⟩ ?_
    intro W3 hm
    clear S
    try clear q0
    try clear q1 f1
    try clear q2 f2 q3 f3
    have S := Lib.hid hm.1
    have HT := Lib.hid hm.2
    clear hm
    go_upto_region 28 with (go_at_call 168; refine (dInt_any 400 (by omega) (by omega) g _ _ _ S.out.p.hl S.out.p.dc).mono ?_; rintro e w1 ⟨rfl, hc1, hk1⟩; replace S := Lib.hid (S.out.call (c' := (Sp.Cut.int 400 c2.u64.2.droot.2).2) hc1 hk1 (Sp.Cut.int_len _ _)); have q1 := S.out.z3.cell 12; have f1 := S.out.z3.frozen 12; simp at q1; clear hc1 hk1)
    refine wp_gen (fun W => MkS w g ((Sp.Cut.int 400 c2.u64.2.droot.2).2) PageT w.heap.size #[.int .i64 0, .slice none 0 0, .slice none 0 0, .slice none 0 0, .string ⟨#[]⟩, .slice none 0 0, .slice none 0 0, .int .i64 0, .int .u64 0, .int .i64 0, .int .i64 0, .int .i64 0, .int .i64 0, .int .i64 0] b3 #[.int .i64 kd, .slice none 0 0, .slice none 0 0, .slice none 0 0, .string ⟨#[]⟩, .slice none 0 0, .slice none 0 0, .int .i64 0, .int .u64 c2.u64.1, .int .i64 c2.u64.2.droot.1.page, .int .i64 c2.u64.2.droot.1.count, .int .i64 c2.u64.2.droot.1.flags, .int .i64 (Sp.Cut.int 400 c2.u64.2.droot.2).1, .int .i64 0] W ∧ True) ⟨S.out.set 12 _, trivial⟩ ?_
    intro W3 hm
    clear S
    try clear q0
    try clear q1 f1
    try clear q2 f2 q3 f3
    have S := Lib.hid hm.1
    have HT := Lib.hid hm.2
    clear hm
    go_upto_region 29 with (go_at_call 168; refine (dInt_any 400 (by omega) (by omega) g _ _ _ S.out.p.hl S.out.p.dc).mono ?_; rintro e w1 ⟨rfl, hc1, hk1⟩; replace S := Lib.hid (S.out.call (c' := (Sp.Cut.int 400 (Sp.Cut.int 400 c2.u64.2.droot.2).2).2) hc1 hk1 (Sp.Cut.int_len _ _)); have q1 := S.out.z3.cell 13; have f1 := S.out.z3.frozen 13; simp at q1; clear hc1 hk1)
    refine wp_gen (fun W => MkS w g ((Sp.Cut.int 400 (Sp.Cut.int 400 c2.u64.2.droot.2).2).2) PageT w.heap.size #[.int .i64 0, .slice none 0 0, .slice none 0 0, .slice none 0 0, .string ⟨#[]⟩, .slice none 0 0, .slice none 0 0, .int .i64 0, .int .u64 0, .int .i64 0, .int .i64 0, .int .i64 0, .int .i64 0, .int .i64 0] b3 #[.int .i64 kd, .slice none 0 0, .slice none 0 0, .slice none 0 0, .string ⟨#[]⟩, .slice none 0 0, .slice none 0 0, .int .i64 0, .int .u64 c2.u64.1, .int .i64 c2.u64.2.droot.1.page, .int .i64 c2.u64.2.droot.1.count, .int .i64 c2.u64.2.droot.1.flags, .int .i64 (Sp.Cut.int 400 c2.u64.2.droot.2).1, .int .i64 (Sp.Cut.int 400 (Sp.Cut.int 400 c2.u64.2.droot.2).2).1] W ∧ True) ⟨S.out.set 13 _, trivial⟩ ?_
    intro W3 hm
    clear S
    try clear q0
    try clear q1 f1
    try clear q2 f2 q3 f3
    have S := Lib.hid hm.1
    have HT := Lib.hid hm.2
    clear hm
    go_wp2_with (first
      | (refine wpList_row PageT _ rfl b3 rfl rfl PageT _ (0, 0) _ S.out.z3 Tryz.underlying119 rfl rfl ?_)
      | (refine wpList_store_row rfl PageT _ _ rfl w.heap.size _ rfl rfl PageT _ S.out.p.z2 (by kernel_rfl) rfl (by kernel_rfl) ?_))
    have hD := S.out.done
    obtain ⟨⟨z0, z1, z2, z3, z4, z5, z6, z7, z8, z9, z10, z11, z12, z13⟩, _⟩ := hD.2.2.at14
    refine bodyPost_ret (v := .agg #[.int .i64 kd, .slice none 0 0, .slice none 0 0, .slice none 0 0, .string ⟨#[]⟩, .slice none 0 0, .slice none 0 0, .int .i64 0, .int .u64 c2.u64.1, .int .i64 c2.u64.2.droot.1.page, .int .i64 c2.u64.2.droot.1.count, .int .i64 c2.u64.2.droot.1.flags, .int .i64 (Sp.Cut.int 400 c2.u64.2.droot.2).1, .int .i64 (Sp.Cut.int 400 (Sp.Cut.int 400 c2.u64.2.droot.2).2).1]) (by simp [results, Tryz.results148, go_sem, z0, z1, z2, z3, z4, z5, z6, z7, z8, z9, z10, z11, z12, z13]) rfl (HMK.out _ _ HDF.out (⟨none, none, none, none, none, 0, 0, 0, 0, 0⟩) _ _ rfl (fun M hM => ⟨Items.nil_, Row.nil_, Row.nil_, Row.nil_, Frees.nil_, HUR.out⟩) hD.1 hD.2.1)
end Go.Proofs.YtmcpkhknjdiocaaGreatDoor
namespace Go.Proofs.YtmcpkhknjdiocaaGreatDoor
open Go.RowKit
attribute [local go_sem low] mk_extract
attribute [local go_sem] After.cell After.frozen mk_extract_end ByteArray.mk_append_mk
set_option maxRecDepth 100000 in
set_option maxHeartbeats 6400000 in
theorem dPage7 (g : Nat) (c : Sp.Cut) (w : World) (hs : c.s.length ≤ 4611686018427387904) (hc : DCut w g c.s c.bad) (hk : (Sp.Cut.int 6 c).1 ≠ 1 ∧ (Sp.Cut.int 6 c).1 ≠ 2 ∧ (Sp.Cut.int 6 c).1 ≠ 3 ∧ (Sp.Cut.int 6 c).1 ≠ 4 ∧ (Sp.Cut.int 6 c).1 ≠ 5 ∧ (Sp.Cut.int 6 c).1 ≠ 6) :
    Calls Tryz.prog 148 #[.pointer (some ⟨g, 0, none⟩)] w fun e w' => DPageOut g c w e w' := by
  have hgw := hc.lt
  have hsz0 : w.heap.size < w.heap.size + 1 := by omega
  have P := Lib.hid (show PreS w g c PageT w.heap.size #[.int .i64 0, .slice none 0 0, .slice none 0 0, .slice none 0 0, .string ⟨#[]⟩, .slice none 0 0, .slice none 0 0, .int .i64 0, .int .u64 0, .int .i64 0, .int .i64 0, .int .i64 0, .int .i64 0, .int .i64 0] (w.alloc (.cells #[.int .i64 0, .slice none 0 0, .slice none 0 0, .slice none 0 0, .string ⟨#[]⟩, .slice none 0 0, .slice none 0 0, .int .i64 0, .int .u64 0, .int .i64 0, .int .i64 0, .int .i64 0, .int .i64 0, .int .i64 0] PageT)) from ⟨Blk.alloc hc _, (Chg.refl _ _).alloc _, Blk.new _ _ _, Nat.le_refl _, hgw, hs⟩)
  clear hc hs
  have hkr := Sp.Cut.int_rng 6 (by omega) c
  have hmk : ∀ (x : Sp.Page) (d : Sp.Cut), c.dpage = (x, d) → ∀ (r : Refs) (e : Ending) (w' : World), e = .returned (.agg (pageV x r).toArray) → (∀ M : Nat → Prop, (∀ k, w.heap.size ≤ k → ¬ M k) → PageRd w' M x r) → DCut w' g d.s d.bad → Chg (OneM g) w w' → DPageOut g c w e w' := fun x d h r e w' he ht hd hk => by
    unfold DPageOut
    rw [h]
    exact ⟨r, he, ht, hd, hk⟩
  have HMK := Lib.hid hmk
  clear hmk
  have HDF := Lib.hid (show c.dpage = (⟨(Sp.Cut.int 6 c).1, [], [], [], [], [], [], 0, Sp.mt0⟩, (Sp.Cut.int 6 c).2) by unfold Sp.Cut.dpage; rw [if_neg (by omega), if_neg (by omega), if_neg (by omega), if_neg (by omega), if_neg (by omega), if_neg (by omega)])
  have HIN := Lib.hid (fun w hs h => dInt_any 6 (by omega) (by omega) g c.s c.bad w hs h)
  have HIL := Lib.hid (Sp.Cut.int_len 6 c)
  rw [show (⟨c.s, c.bad⟩ : Sp.Cut) = c from rfl] at HIN
  generalize Sp.Cut.int 6 c = kdc at *
  obtain ⟨kd, c2⟩ := kdc
  dsimp only at *
  have e1 : (kd == 1) = false := by rw [beq_eq_false_iff_ne]; omega
  have e2 : (kd == 2) = false := by rw [beq_eq_false_iff_ne]; omega
  have e3 : (kd == 3) = false := by rw [beq_eq_false_iff_ne]; omega
  have e4 : (kd == 4) = false := by rw [beq_eq_false_iff_ne]; omega
  have e5 : (kd == 5) = false := by rw [beq_eq_false_iff_ne]; omega
  have e6 : (kd == 6) = false := by rw [beq_eq_false_iff_ne]; omega
  have HKR := Lib.hid hkr
  clear hk hkr
  go_enter Tryz.func148, Tryz.ntmps148
  go_upto_region 1 with fail
  go_cut [3] (fun s3 W => ∃ b3, s3 = .pointer (some ⟨b3, 0, none⟩) ∧ w.heap.size < b3 ∧ MkS w g c2 PageT w.heap.size #[.int .i64 0, .slice none 0 0, .slice none 0 0, .slice none 0 0, .string ⟨#[]⟩, .slice none 0 0, .slice none 0 0, .int .i64 0, .int .u64 0, .int .i64 0, .int .i64 0, .int .i64 0, .int .i64 0, .int .i64 0] b3 #[.int .i64 kd, .slice none 0 0, .slice none 0 0, .slice none 0 0, .string ⟨#[]⟩, .slice none 0 0, .slice none 0 0, .int .i64 0, .int .u64 0, .int .i64 0, .int .i64 0, .int .i64 0, .int .i64 0, .int .i64 0] W)
  case first =>
    go_wp2_with (first
      | (go_at_call 168; refine (HIN.out _ P.out.hl P.out.dc).mono ?_; rintro e w1 ⟨rfl, hc1, hk1⟩; replace P := Lib.hid (P.out.call (c' := c2) hc1 hk1 HIL.out); clear hc1 hk1)
      | (refine wpList_new PageT _ _ rfl rfl rfl rfl rfl rfl _ rfl (of_decide_eq_true (by kernel_rfl)) (by kernel_rfl) (by kernel_rfl) (by kernel_rfl) ?_))
    go_meet
    case rel => exact ⟨_, rfl, P.out.z2.lt, P.out.new _⟩
  case rest =>
    obtain ⟨b3, rfl, hb3, hm⟩ := hcut
    have S := Lib.hid hm
    clear hm P
    obtain ⟨W1, rfl⟩ : ∃ W, W = wc := ⟨_, rfl⟩
    have q0 := S.out.z3.cell 0
    simp at q0
    go_upto_region 29 with fail
    go_wp2_with (first
      | (refine wpList_row PageT _ rfl b3 rfl rfl PageT _ (0, 0) _ S.out.z3 Tryz.underlying119 rfl rfl ?_)
      | (refine wpList_store_row rfl PageT _ _ rfl w.heap.size _ rfl rfl PageT _ S.out.p.z2 (by kernel_rfl) rfl (by kernel_rfl) ?_))
    have hD := S.out.done
    obtain ⟨⟨z0, z1, z2, z3, z4, z5, z6, z7, z8, z9, z10, z11, z12, z13⟩, _⟩ := hD.2.2.at14
    refine bodyPost_ret (v := .agg #[.int .i64 kd, .slice none 0 0, .slice none 0 0, .slice none 0 0, .string ⟨#[]⟩, .slice none 0 0, .slice none 0 0, .int .i64 0, .int .u64 0, .int .i64 0, .int .i64 0, .int .i64 0, .int .i64 0, .int .i64 0]) (by simp [results, Tryz.results148, go_sem, z0, z1, z2, z3, z4, z5, z6, z7, z8, z9, z10, z11, z12, z13]) rfl (HMK.out _ _ HDF.out (⟨none, none, none, none, none, 0, 0, 0, 0, 0⟩) _ _ rfl (fun M hM => ⟨Items.nil_, Row.nil_, Row.nil_, Row.nil_, Frees.nil_, by simp [Sp.mt0]⟩) hD.1 hD.2.1)
end Go.Proofs.YtmcpkhknjdiocaaGreatDoor
namespace Go.Proofs.YtmcpkhknjdiocaaGreatDoor
open Go.RowKit
attribute [local go_sem low] mk_extract
attribute [local go_sem] After.cell After.frozen mk_extract_end ByteArray.mk_append_mk
theorem dPage_any (g : Nat) (c : Sp.Cut) (w : World) (hs : c.s.length ≤ 4611686018427387904) (hc : DCut w g c.s c.bad) :
    Calls Tryz.prog 148 #[.pointer (some ⟨g, 0, none⟩)] w fun e w' => DPageOut g c w e w' := by
  by_cases h1 : (Sp.Cut.int 6 c).1 = 1
  · exact dPage1 g c w hs hc h1
  by_cases h2 : (Sp.Cut.int 6 c).1 = 2
  · exact dPage2 g c w hs hc h2
  by_cases h3 : (Sp.Cut.int 6 c).1 = 3
  · exact dPage3 g c w hs hc h3
  by_cases h4 : (Sp.Cut.int 6 c).1 = 4
  · exact dPage4 g c w hs hc h4
  by_cases h5 : (Sp.Cut.int 6 c).1 = 5
  · exact dPage5 g c w hs hc h5
  by_cases h6 : (Sp.Cut.int 6 c).1 = 6
  · exact dPage6 g c w hs hc h6
  exact dPage7 g c w hs hc ⟨h1, h2, h3, h4, h5, h6⟩
end Go.Proofs.YtmcpkhknjdiocaaGreatDoor
namespace Go.Proofs.YtmcpkhknjdiocaaGreatDoor
open Go.RowKit
attribute [local go_sem low] mk_extract
attribute [local go_sem] After.cell After.frozen mk_extract_end ByteArray.mk_append_mk
namespace Sp
theorem Cut.dpage_len (c : Cut) : c.dpage.2.s.length ≤ c.s.length := by
  have h6 := Cut.int_len 6 c
  have hi : ∀ d : Cut, d.ditems.2.s.length ≤ d.s.length := fun d => Nat.le_trans (eachN_len (f := ditemStep) (fun _ c => c.ditem_len) _ _) (Cut.int_len 4 d)
  have hk : ∀ d : Cut, d.dkeys.2.s.length ≤ d.s.length := fun d => Nat.le_trans (eachN_len (f := dkeyStep) (fun _ c => Nat.le_trans (Cut.int_len 400 _) c.text_len) _ _) (Cut.int_len 4 d)
  have hm : ∀ d : Cut, d.dmt.2.s.length ≤ d.s.length := fun d => Nat.le_trans (Cut.int_len 400 _) (Nat.le_trans (Cut.int_len 400 _) (Nat.le_trans (Cut.droot_len _) d.u64_len))
  have ht : ∀ d : Cut, d.text.2.s.length ≤ d.s.length := fun d => d.text_len
  have hv : ∀ d : Cut, (Cut.dtexts 12 d).2.s.length ≤ d.s.length := fun d => Cut.dtexts_len 12 d
  have hf : ∀ d : Cut, (Cut.int 400 d.dfrees.2).2.s.length ≤ d.s.length := fun d => Nat.le_trans (Cut.int_len 400 _) d.dfrees_len
  unfold Cut.dpage
  generalize Cut.int 6 c = kc at *
  by_cases h1 : kc.1 = 1
  · rw [if_pos h1]; exact Nat.le_trans (hi _) h6
  rw [if_neg h1]
  by_cases h2 : kc.1 = 2
  · rw [if_pos h2]; exact Nat.le_trans (hk _) h6
  rw [if_neg h2]
  by_cases h3 : kc.1 = 3
  · rw [if_pos h3]; exact Nat.le_trans (ht _) h6
  rw [if_neg h3]
  by_cases h4 : kc.1 = 4
  · rw [if_pos h4]; exact Nat.le_trans (hv _) h6
  rw [if_neg h4]
  by_cases h5 : kc.1 = 5
  · rw [if_pos h5]; exact Nat.le_trans (hf _) h6
  rw [if_neg h5]
  by_cases h6' : kc.1 = 6
  · rw [if_pos h6']; exact Nat.le_trans (hm _) h6
  rw [if_neg h6']
  exact h6
end Sp
/-- The result's block, and a cut behind it. -/
structure RdS (w : World) (c : Sp.Cut) (W : World) : Prop where
  dc : DCut W (w.heap.size + 1) c.s c.bad
  hb : Below w.heap.size w W
  z2 : Blk W w.heap.size PageT #[.int .i64 0, .slice none 0 0, .slice none 0 0, .slice none 0 0, .string ⟨#[]⟩, .slice none 0 0, .slice none 0 0, .int .i64 0, .int .u64 0, .int .i64 0, .int .i64 0, .int .i64 0, .int .i64 0, .int .i64 0]
  hl : c.s.length ≤ 4611686018427387904
theorem RdS.start {s : Txt} (w : World) (hs : s.length ≤ 4611686018427387904) : RdS w ⟨s, false⟩ ((w.alloc (.cells #[.int .i64 0, .slice none 0 0, .slice none 0 0, .slice none 0 0, .string ⟨#[]⟩, .slice none 0 0, .slice none 0 0, .int .i64 0, .int .u64 0, .int .i64 0, .int .i64 0, .int .i64 0, .int .i64 0, .int .i64 0] PageT)).alloc (.cells #[.string ⟨s.toArray⟩, .bool false] 248)) :=
  ⟨blk_second w _ _ _, ((Below.refl _ _).alloc (Nat.le_refl _) _).alloc (by simp) _, (Blk.new w _ _).alloc _, hs⟩
theorem RdS.call {w W W' : World} {c c' : Sp.Cut} (h : RdS w c W) (hc : DCut W' (w.heap.size + 1) c'.s c'.bad) (hk : Chg (OneM (w.heap.size + 1)) W W') (hl : c'.s.length ≤ c.s.length) : RdS w c' W' :=
  ⟨hc, h.hb.trans (Chg.below hk h.hb.size (fun k hk e => by unfold OneM at e; omega)), h.z2.chg hk (by unfold OneM; omega), Nat.le_trans hl h.hl⟩
theorem RdS.go {w W W' : World} {c : Sp.Cut} (h : RdS w c W) (hb : Below W.heap.size W W') : RdS w c W' :=
  ⟨Blk.below h.dc hb (Blk.lt h.dc), h.hb.trans (hb.mono h.hb.size), h.z2.below hb h.z2.lt, h.hl⟩
/-- The same, and the page that was read. -/
structure RqS (w : World) (c : Sp.Cut) (p : Sp.Page) (r : Refs) (b6 : Nat) (W : World) : Prop where
  s : RdS w c W
  bx : Blk W b6 PageT (pageV p r).toArray
  hne : w.heap.size < b6
  rp : ∀ M : Nat → Prop, (∀ k, w.heap.size < k → ¬ M k) → PageRd W M p r
theorem RqS.go {w W W' : World} {c : Sp.Cut} {p : Sp.Page} {r : Refs} {b6 : Nat} (h : RqS w c p r b6 W) (hb : Below W.heap.size W W') : RqS w c p r b6 W' :=
  ⟨h.s.go hb, h.bx.below hb h.bx.lt, h.hne, fun M hM => (h.rp M hM).go hb⟩
def DReadOut (s : Txt) (w : World) (e : Ending) (w' : World) : Prop :=
  ∃ r, e = .returned (if Sp.readOk s then .tuple #[.agg (pageV (Sp.parse s) r).toArray, .int .i64 0] else .tuple #[.agg (pageV Sp.pg0 r).toArray, .int .i64 12]) ∧ (∀ M : Nat → Prop, (∀ k, w.heap.size ≤ k → ¬ M k) → PageRd w' M (readPg s) r) ∧ Below w.heap.size w w'
theorem DReadOut.no {s : Txt} {w W : World} (h : Sp.dOk s = false) (hb : Below w.heap.size w W) : DReadOut s w (.returned (.tuple #[.agg (pageV Sp.pg0 refs0).toArray, .int .i64 12])) W := by
  have h := Sp.dOk_no h
  unfold DReadOut readPg
  rw [h]
  exact ⟨refs0, rfl, fun M hM => pageRd0 _ _ _, hb⟩
theorem DReadOut.yes {s : Txt} {w W : World} {r : Refs} (h : Sp.dOk s = true) (hr : ∀ M : Nat → Prop, (∀ k, w.heap.size ≤ k → ¬ M k) → PageRd W M (Sp.Cut.u64 ⟨s, false⟩).2.dpage.1 r) (hb : Below w.heap.size w W) : DReadOut s w (.returned (.tuple #[.agg (pageV (Sp.Cut.u64 ⟨s, false⟩).2.dpage.1 r).toArray, .int .i64 0])) W := by
  obtain ⟨h1, h2⟩ := Sp.dOk_iff h
  unfold DReadOut readPg
  rw [h1]
  rw [h2] at hr ⊢
  exact ⟨r, rfl, hr, hb⟩
set_option maxRecDepth 100000 in
set_option maxHeartbeats 1600000 in
theorem dRead_any (s : Txt) (w : World) (hs : s.length ≤ 4611686018427387904) :
    Calls Tryz.prog 117 #[.string ⟨s.toArray⟩] w fun e w' => DReadOut s w e w' := by
  have S := Lib.hid (RdS.start w hs)
  have HNO := Lib.hid (fun (W : World) (h : Sp.dOk s = false) (hb : Below w.heap.size w W) => DReadOut.no h hb)
  have HYES := Lib.hid (fun (W : World) (r : Refs) (h : Sp.dOk s = true) hr (hb : Below w.heap.size w W) => DReadOut.yes (r := r) h hr hb)
  have HSP := Lib.hid (fun u c1 c2 p h1 h2 => Sp.dOk_split s u c1 c2 p h1 h2)
  have HUL := Lib.hid (Sp.Cut.u64_len ⟨s, false⟩)
  have HNU := Lib.hid (fun W hs hc => show Calls Tryz.prog 147 #[.pointer (some ⟨w.heap.size + 1, 0, none⟩)] W (fun e w' => e = .returned (.int .u64 (Sp.Cut.u64 ⟨s, false⟩).1) ∧ DCut w' (w.heap.size + 1) (Sp.Cut.u64 ⟨s, false⟩).2.s (Sp.Cut.u64 ⟨s, false⟩).2.bad ∧ Chg (OneM (w.heap.size + 1)) W w') from dCutNum_any (w.heap.size + 1) s false W hs hc)
  generalize hu : Sp.Cut.u64 ⟨s, false⟩ = uc at *
  obtain ⟨u, c1⟩ := uc
  dsimp only at HUL HNU HYES
  generalize hpd : c1.dpage = pd at *
  obtain ⟨p, c2⟩ := pd
  have hsp := HSP.out u c1 c2 p rfl hpd
  have HPD := Lib.hid hpd
  dsimp only at HYES
  have hpl := Sp.Cut.dpage_len c1
  rw [hpd] at hpl
  dsimp only at hpl
  have HSP := Lib.hid hsp
  have HPL := Lib.hid hpl
  clear hs hsp hu hpd hpl
  rename_i HSPold
  clear HSPold
  go_enter Tryz.func117, Tryz.ntmps117
  go_upto_region 2 with fail
  go_cut [5] (fun s5 W => s5 = .int .u64 u ∧ RdS w c1 W)
  case first =>
    go_wp2_with (go_at_call 147; refine (HNU.out _ S.out.hl S.out.dc).mono ?_; rintro e w1 ⟨rfl, hc1, hk1⟩; replace S := Lib.hid (S.out.call (c' := c1) hc1 hk1 HUL.out); clear hc1 hk1)
    go_meet
    case rel => exact ⟨rfl, S.out⟩
  case rest =>
    obtain ⟨rfl, hm⟩ := hcut
    replace S := Lib.hid hm
    clear hm
    obtain ⟨W1, rfl⟩ : ∃ W, W = wc := ⟨_, rfl⟩
    have q0 := Blk.cell S.out.dc 0
    have q1 := Blk.cell S.out.dc 1
    simp at q0 q1
    go_upto_region 3 with fail
    go_cut [24] (fun s24 W => s24 = .bool (c1.bad || decide (u ≠ Sp.sum c1.s)) ∧ RdS w c1 W)
    case first =>
      rcases hb : c1.bad with _ | _
      · rw [hb] at q1
        have HB := Lib.hid hb
        clear hb
        by_cases he : u = Sp.sum c1.s
        · have he1 : (u != Sp.sum c1.s) = false := by simp [he]
          have HE := Lib.hid he
          clear he
          go_wp2_with (go_at_call 84; refine (dSum_any c1.s _ S.out.hl).mono ?_; rintro e w2 ⟨rfl, rfl⟩)
          go_meet
          case rel => exact ⟨by simp [HE.out, HB.out], S.out⟩
        · have he1 : (u != Sp.sum c1.s) = true := by simp [he]
          have HE := Lib.hid he
          clear he
          go_wp2_with (go_at_call 84; refine (dSum_any c1.s _ S.out.hl).mono ?_; rintro e w2 ⟨rfl, rfl⟩)
          go_meet
          case rel => exact ⟨by simp [HE.out, HB.out], S.out⟩
      · rw [hb] at q1
        have HB := Lib.hid hb
        clear hb
        go_wp2_with fail
        go_meet
        case rel => exact ⟨by simp [HB.out], S.out⟩
    case rest =>
      obtain ⟨rfl, hm⟩ := hcut
      replace S := Lib.hid hm
      clear hm q0 q1
      obtain ⟨W2, rfl⟩ : ∃ W, W = wc := ⟨_, rfl⟩
      generalize (c1.bad || decide (u ≠ Sp.sum c1.s)) = t3 at *
      rcases t3 with _ | _
      · go_upto_region 5 with fail
        go_cut [6] (fun s6 W => ∃ r b6, s6 = .pointer (some ⟨b6, 0, none⟩) ∧ RqS w c2 p r b6 W)
        case first =>
          go_wp2_with (first
            | (go_at_call 148; refine (dPage_any (w.heap.size + 1) c1 _ S.out.hl S.out.dc).mono ?_; rintro e w2 ⟨r, rfl, hr, hc, hk⟩; rw [HPD.out] at *; dsimp only at *; have HR := Lib.hid hr; have hsz := S.out.hb.size; have hz2 := S.out.z2.lt; replace S := Lib.hid (S.out.call (c' := c2) hc hk HPL.out); clear hc hk hr)
            | (refine wpList_new PageT _ _ rfl rfl rfl rfl rfl rfl _ rfl (of_decide_eq_true (by kernel_rfl)) (by kernel_rfl) (by kernel_rfl) (by kernel_rfl) ?_))
          go_meet
          case rel =>
            have hal : Below w2.heap.size w2 (w2.alloc (.cells (pageV p r).toArray PageT)) := (Below.refl _ _).alloc (Nat.le_refl _) _
            exact ⟨r, w2.heap.size, rfl, S.out.go hal, Blk.new w2 _ _, S.out.z2.lt, fun M hM => (HR.out M (fun k hk => hM k (by omega))).go hal⟩
        case rest =>
          obtain ⟨r, b6, rfl, hm⟩ := hcut
          have T := Lib.hid hm
          clear hm S
          obtain ⟨W3, rfl⟩ : ∃ W, W = wc := ⟨_, rfl⟩
          have q0 := Blk.cell T.out.s.dc 0
          have q1 := Blk.cell T.out.s.dc 1
          simp at q0 q1
          go_upto_region 6 with fail
          go_cut [49] (fun s49 W => s49 = .bool (c2.bad || (decide (c2.s ≠ []) || (!Sp.isPage p || decide (Sp.bytes p ≠ s)))) ∧ RqS w c2 p r b6 W)
          case first =>
            rcases hb : c2.bad with _ | _
            · rw [hb] at q1
              have HB := Lib.hid hb
              clear hb
              rcases hc : c2.s with _ | ⟨x0, xs⟩
              · rw [hc] at q0
                have HC := Lib.hid hc
                clear hc
                rcases hp : Sp.isPage p with _ | _
                · have HP := Lib.hid hp
                  clear hp
                  go_wp2_with (first
                    | (go_at_call 79; refine (dIs_any (M := NoM) p r _ (T.out.rp NoM (fun _ _ h => h))).mono ?_; rintro e w3 ⟨rfl, hb3⟩; rw [HP.out]; replace T := Lib.hid (T.out.go hb3); clear hb3 q0 q1)
                    | (refine wpList_row PageT _ rfl b6 rfl rfl PageT _ (0, 0) _ T.out.bx Tryz.underlying119 rfl rfl ?_))
                  go_meet
                  case rel => exact ⟨by simp [HP.out], T.out⟩
                · have HP := Lib.hid hp
                  clear hp
                  by_cases hbs : Sp.bytes p = s
                  · have HBS := Lib.hid hbs
                    clear hbs
                    go_wp2_with (first
                      | (go_at_call 79; refine (dIs_any (M := NoM) p r _ (T.out.rp NoM (fun _ _ h => h))).mono ?_; rintro e w3 ⟨rfl, hb3⟩; rw [HP.out]; replace T := Lib.hid (T.out.go hb3); clear hb3 q0 q1)
                      | (go_at_call 53; refine (dBytes_any (M := NoM) p r _ (T.out.rp NoM (fun _ _ h => h))).mono ?_; rintro e w3 ⟨rfl, hb3⟩; rw [HBS.out]; replace T := Lib.hid (T.out.go hb3); clear hb3)
                      | (refine wpList_row PageT _ rfl b6 rfl rfl PageT _ (0, 0) _ T.out.bx Tryz.underlying119 rfl rfl ?_))
                    go_meet
                    case rel => exact ⟨by simp [HBS.out, HB.out, HC.out, HP.out], T.out⟩
                  · have HBS := Lib.hid hbs
                    have hbq : (Sp.bytes p == s) = false := beq_eq_false_iff_ne.2 hbs
                    clear hbs
                    go_wp2_with (first
                      | (go_at_call 79; refine (dIs_any (M := NoM) p r _ (T.out.rp NoM (fun _ _ h => h))).mono ?_; rintro e w3 ⟨rfl, hb3⟩; rw [HP.out]; replace T := Lib.hid (T.out.go hb3); clear hb3 q0 q1)
                      | (go_at_call 53; refine (dBytes_any (M := NoM) p r _ (T.out.rp NoM (fun _ _ h => h))).mono ?_; rintro e w3 ⟨rfl, hb3⟩; replace T := Lib.hid (T.out.go hb3); clear hb3)
                      | (refine wpList_row PageT _ rfl b6 rfl rfl PageT _ (0, 0) _ T.out.bx Tryz.underlying119 rfl rfl ?_))
                    go_meet
                    case rel => exact ⟨by simp [HBS.out, HB.out, HC.out, HP.out], T.out⟩
              · rw [hc] at q0
                have HC := Lib.hid hc
                clear hc
                go_wp2_with fail
                go_meet
                case rel => exact ⟨by simp [HC.out], T.out⟩
            · rw [hb] at q1
              have HB := Lib.hid hb
              clear hb
              go_wp2_with fail
              go_meet
              case rel => exact ⟨by simp [HB.out], T.out⟩
          case rest =>
            obtain ⟨rfl, hm⟩ := hcut
            replace T := Lib.hid hm
            clear hm q0 q1
            obtain ⟨W4, rfl⟩ : ∃ W, W = wc := ⟨_, rfl⟩
            generalize (c2.bad || (decide (c2.s ≠ []) || (!Sp.isPage p || decide (Sp.bytes p ≠ s)))) = t6 at *
            rcases t6 with _ | _
            · go_wp2_with (first
                | (refine wpList_row PageT _ rfl b6 rfl rfl PageT _ (0, 0) _ T.out.bx Tryz.underlying119 rfl rfl ?_)
                | (refine wpList_store_row rfl PageT _ _ rfl w.heap.size _ rfl rfl PageT _ T.out.s.z2 (by kernel_rfl) rfl (by kernel_rfl) ?_))
              obtain ⟨⟨z0, z1, z2, z3, z4, z5, z6, z7, z8, z9, z10, z11, z12, z13⟩, _⟩ := (T.out.s.z2.row (ds := #[.int .i64 p.kind, .slice r.I p.items.length r.i, .slice r.K p.keys.length r.k, .slice r.D p.kids.length r.d, .string ⟨p.text.toArray⟩, .slice r.V p.vals.length r.v, .slice r.F p.free.length r.f, .int .i64 p.next, .int .u64 p.mt.txn, .int .i64 p.mt.main.page, .int .i64 p.mt.main.count, .int .i64 p.mt.main.flags, .int .i64 p.mt.free, .int .i64 p.mt.last])).at14
              have hne := T.out.hne
              refine bodyPost_ret (v := .tuple #[.agg (pageV p r).toArray, .int .i64 0]) (by simp [results, Tryz.results117, go_sem, pageV, mtV, z0, z1, z2, z3, z4, z5, z6, z7, z8, z9, z10, z11, z12, z13]) rfl (HYES.out _ r (HSP.out.trans rfl) (fun M hM => ?_) (below_setRow T.out.s.hb (Nat.le_refl _) _))
              refine PageRd.anti (M := fun k => M k ∨ k = w.heap.size) (PageRd.chg (T.out.rp _ (fun k hk h => ?_)) ?_) (fun k h => .inl h)
              · rcases h with h | h
                · exact hM k (by omega) h
                · omega
              · refine (chg_setRow1 _ _ _).mono (fun k _ h => .inr h)
            · go_wp2_with (first
                | (refine wpList_built rfl PageT _ rfl #[.int .i64 0, .slice none 0 0, .slice none 0 0, .slice none 0 0, .string ⟨#[]⟩, .slice none 0 0, .slice none 0 0, .int .i64 0, .int .u64 0, .int .i64 0, .int .i64 0, .int .i64 0, .int .i64 0, .int .i64 0] (by kernel_rfl) ?_)
                | (refine wpList_store_row rfl PageT _ _ rfl w.heap.size _ rfl rfl PageT _ T.out.s.z2 (by kernel_rfl) rfl (by kernel_rfl) ?_))
              obtain ⟨⟨z0, z1, z2, z3, z4, z5, z6, z7, z8, z9, z10, z11, z12, z13⟩, _⟩ := (T.out.s.z2.row (ds := #[.int .i64 0, .slice none 0 0, .slice none 0 0, .slice none 0 0, .string ⟨#[]⟩, .slice none 0 0, .slice none 0 0, .int .i64 0, .int .u64 0, .int .i64 0, .int .i64 0, .int .i64 0, .int .i64 0, .int .i64 0])).at14
              refine bodyPost_ret (v := .tuple #[.agg (pageV Sp.pg0 refs0).toArray, .int .i64 12]) (by simp [results, Tryz.results117, go_sem, pageV, mtV, Sp.pg0, Sp.mt0, Sp.root0, refs0, z0, z1, z2, z3, z4, z5, z6, z7, z8, z9, z10, z11, z12, z13]) rfl (HNO.out _ (HSP.out.trans rfl) (below_setRow T.out.s.hb (Nat.le_refl _) _))
      · go_wp2_with (first
          | (refine wpList_built rfl PageT _ rfl #[.int .i64 0, .slice none 0 0, .slice none 0 0, .slice none 0 0, .string ⟨#[]⟩, .slice none 0 0, .slice none 0 0, .int .i64 0, .int .u64 0, .int .i64 0, .int .i64 0, .int .i64 0, .int .i64 0, .int .i64 0] (by kernel_rfl) ?_)
          | (refine wpList_store_row rfl PageT _ _ rfl w.heap.size _ rfl rfl PageT _ S.out.z2 (by kernel_rfl) rfl (by kernel_rfl) ?_))
        obtain ⟨⟨z0, z1, z2, z3, z4, z5, z6, z7, z8, z9, z10, z11, z12, z13⟩, _⟩ := (S.out.z2.row (ds := #[.int .i64 0, .slice none 0 0, .slice none 0 0, .slice none 0 0, .string ⟨#[]⟩, .slice none 0 0, .slice none 0 0, .int .i64 0, .int .u64 0, .int .i64 0, .int .i64 0, .int .i64 0, .int .i64 0, .int .i64 0])).at14
        refine bodyPost_ret (v := .tuple #[.agg (pageV Sp.pg0 refs0).toArray, .int .i64 12]) (by simp [results, Tryz.results117, go_sem, pageV, mtV, Sp.pg0, Sp.mt0, Sp.root0, refs0, z0, z1, z2, z3, z4, z5, z6, z7, z8, z9, z10, z11, z12, z13]) rfl (HNO.out _ (HSP.out.trans rfl) (below_setRow S.out.hb (Nat.le_refl _) _))
end Go.Proofs.YtmcpkhknjdiocaaGreatDoor
