/- The document's readers: items. The document's readers: free pages. -/
import Derived.Test.YtmcpkhknjdiocaaGreatDoorQB03
import Derived.Test.YtmcpkhknjdiocaaGreatDoorQB20
set_option linter.unusedSimpArgs false
set_option linter.unusedVariables false
namespace Go.Proofs.YtmcpkhknjdiocaaGreatDoor
open Go.RowKit
attribute [local go_sem low] mk_extract
attribute [local go_sem] After.cell After.frozen mk_extract_end ByteArray.mk_append_mk
namespace Sp
def Cut.ditem (c : Cut) : Item × Cut :=
  if (Cut.int 4 c.text.2).1 = 1 then (⟨c.text.1, (Cut.int 4 c.text.2).1, (Cut.int 4 c.text.2).2.text.1, 0, 0, [], 0, root0⟩, (Cut.int 4 c.text.2).2.text.2)
  else if (Cut.int 4 c.text.2).1 = 2 then (⟨c.text.1, (Cut.int 4 c.text.2).1, [], (Cut.int 400 (Cut.int 4 c.text.2).2).1, (Cut.int 1000 (Cut.int 400 (Cut.int 4 c.text.2).2).2).1, [], 0, root0⟩, (Cut.int 1000 (Cut.int 400 (Cut.int 4 c.text.2).2).2).2)
  else if (Cut.int 4 c.text.2).1 = 3 then (⟨c.text.1, (Cut.int 4 c.text.2).1, [], 0, 0, (Cut.dtexts 3 (Cut.int 4 c.text.2).2).1, (Cut.int 400 (Cut.dtexts 3 (Cut.int 4 c.text.2).2).2).1, root0⟩, (Cut.int 400 (Cut.dtexts 3 (Cut.int 4 c.text.2).2).2).2)
  else if (Cut.int 4 c.text.2).1 = 4 then (⟨c.text.1, (Cut.int 4 c.text.2).1, [], 0, 0, [], 0, (Cut.int 4 c.text.2).2.droot.1⟩, (Cut.int 4 c.text.2).2.droot.2)
  else (⟨c.text.1, (Cut.int 4 c.text.2).1, [], 0, 0, [], 0, root0⟩, (Cut.int 4 c.text.2).2)
theorem Cut.ditem_len (c : Cut) : c.ditem.2.s.length ≤ c.s.length := by
  have h1 : (Cut.int 4 c.text.2).2.s.length ≤ c.s.length := Nat.le_trans (Cut.int_len _ _) c.text_len
  unfold Cut.ditem
  split
  · exact Nat.le_trans (Cut.text_len _) h1
  split
  · exact Nat.le_trans (Cut.int_len _ _) (Nat.le_trans (Cut.int_len _ _) h1)
  split
  · exact Nat.le_trans (Cut.int_len _ _) (Nat.le_trans (Cut.dtexts_len _ _) h1)
  split
  · exact Nat.le_trans (Cut.droot_len _) h1
  · exact h1
end Sp
theorem TRow.keep1 {W W' : World} {base k : Nat} {e t : TypeId} {A : Option Addr} {xs : List Value} {cs : Array Value} (h : TRow W base e A xs) (hk : Chg (OneM k) W W') (hb : Blk W k t cs) (hne : t ≠ e) : TRow W' base e A xs :=
  h.chg hk (fun i _ s cs' hcs => by unfold OneM at s; subst s; exact Blk.not_ hb hne cs' hcs)
theorem chg_setRow1 (w : World) (k : Nat) (cs : Array Value) : Chg (OneM k) w (w.setRow k cs) :=
  ⟨rfl, rfl, rfl, by simp, fun i _ hs => setRow_other w k i cs (fun e => hs e)⟩
set_option maxRecDepth 100000 in
set_option maxHeartbeats 1600000 in
theorem dItem_any (g : Nat) (c : Sp.Cut) (w : World) (hs : c.s.length ≤ 4611686018427387904) (hc : DCut w g c.s c.bad) :
    Calls Tryz.prog 169 #[.pointer (some ⟨g, 0, none⟩)] w fun e w' => ∃ V cv, e = .returned (.agg (itemV c.ditem.1 V cv).toArray) ∧ TRow w' w.heap.size StrT V (c.ditem.1.vals.map tv) ∧ DCut w' g c.ditem.2.s c.ditem.2.bad ∧ Chg (OneM g) w w' := by
  have hgw := hc.lt
  have hsz0 : w.heap.size < w.heap.size + 1 := by omega
  have P := Lib.hid (show PreS w g c ItemT w.heap.size #[.string ⟨#[]⟩, .int .i64 0, .string ⟨#[]⟩, .int .i64 0, .int .i64 0, .slice none 0 0, .int .i64 0, .int .i64 0, .int .i64 0, .int .i64 0] (w.alloc (.cells #[.string ⟨#[]⟩, .int .i64 0, .string ⟨#[]⟩, .int .i64 0, .int .i64 0, .slice none 0 0, .int .i64 0, .int .i64 0, .int .i64 0, .int .i64 0] ItemT)) from ⟨Blk.alloc hc _, (Chg.refl _ _).alloc _, Blk.new _ _ _, Nat.le_refl _, hgw, hs⟩)
  clear hc hs
  have hkr := Sp.Cut.int_rng 4 (by omega) c.text.2
  have hmk : ∀ (x : Sp.Item) (d : Sp.Cut), c.ditem = (x, d) → ∀ (V : Option Addr) (cv : Nat) (e : Ending) (w' : World), e = .returned (.agg (itemV x V cv).toArray) → TRow w' w.heap.size StrT V (x.vals.map tv) → DCut w' g d.s d.bad → Chg (OneM g) w w' → (∃ V cv, e = .returned (.agg (itemV c.ditem.1 V cv).toArray) ∧ TRow w' w.heap.size StrT V (c.ditem.1.vals.map tv) ∧ DCut w' g c.ditem.2.s c.ditem.2.bad ∧ Chg (OneM g) w w') := fun x d h V cv e w' he ht hd hk => by
    rw [h]
    exact ⟨V, cv, he, ht, hd, hk⟩
  have HMK := Lib.hid hmk
  have hnil : ∀ W, TRow W w.heap.size StrT none [] := fun W => ⟨by simp, .inl rfl⟩
  have HNIL := Lib.hid hnil
  clear hmk hnil
  go_enter Tryz.func169, Tryz.ntmps169
  go_upto_region 1 with fail
  go_cut [3] (fun s3 W => ∃ b3, s3 = .pointer (some ⟨b3, 0, none⟩) ∧ MkS w g c.text.2 ItemT w.heap.size #[.string ⟨#[]⟩, .int .i64 0, .string ⟨#[]⟩, .int .i64 0, .int .i64 0, .slice none 0 0, .int .i64 0, .int .i64 0, .int .i64 0, .int .i64 0] b3 #[.string ⟨c.text.1.toArray⟩, .int .i64 0, .string ⟨#[]⟩, .int .i64 0, .int .i64 0, .slice none 0 0, .int .i64 0, .int .i64 0, .int .i64 0, .int .i64 0] W)
  case first =>
    go_wp2_with (first
      | (go_at_call 170; refine (dCutText_any g c.s c.bad _ P.out.hl P.out.dc).mono ?_; rintro e w1 ⟨rfl, hc1, hk1⟩; replace P := Lib.hid (P.out.call (c' := c.text.2) hc1 hk1 c.text_len); clear hc1 hk1)
      | (refine wpList_new ItemT _ _ rfl rfl rfl rfl rfl rfl _ rfl (of_decide_eq_true (by kernel_rfl)) (by kernel_rfl) (by kernel_rfl) (by kernel_rfl) ?_))
    go_meet
    case rel => exact ⟨_, rfl, P.out.new _⟩
  case rest =>
    obtain ⟨b3, rfl, hm⟩ := hcut
    have S := Lib.hid hm
    clear hm P
    obtain ⟨W1, rfl⟩ : ∃ W, W = wc := ⟨_, rfl⟩
    go_upto_region 2 with fail
    go_cut [3] (fun s3 W => s3 = .pointer (some ⟨b3, 0, none⟩) ∧ MkS w g (Sp.Cut.int 4 c.text.2).2 ItemT w.heap.size #[.string ⟨#[]⟩, .int .i64 0, .string ⟨#[]⟩, .int .i64 0, .int .i64 0, .slice none 0 0, .int .i64 0, .int .i64 0, .int .i64 0, .int .i64 0] b3 #[.string ⟨c.text.1.toArray⟩, .int .i64 (Sp.Cut.int 4 c.text.2).1, .string ⟨#[]⟩, .int .i64 0, .int .i64 0, .slice none 0 0, .int .i64 0, .int .i64 0, .int .i64 0, .int .i64 0] W)
    case first =>
      go_wp2_with (go_at_call 168; refine (dInt_any 4 (by omega) (by omega) g _ _ _ S.out.p.hl S.out.p.dc).mono ?_; rintro e w1 ⟨rfl, hc1, hk1⟩; replace S := Lib.hid (S.out.call (c' := (Sp.Cut.int 4 c.text.2).2) hc1 hk1 (Sp.Cut.int_len _ _)); have q1 := S.out.z3.cell 1; have f1 := S.out.z3.frozen 1; simp at q1; clear hc1 hk1)
      go_meet
      case rel => exact ⟨rfl, S.out.set 1 _⟩
    case rest =>
      obtain ⟨rfl, hm⟩ := hcut
      replace S := Lib.hid hm
      clear hm
      obtain ⟨W2, rfl⟩ : ∃ W, W = wc := ⟨_, rfl⟩
      have hdef : c.ditem = c.ditem := rfl
      unfold Sp.Cut.ditem at hdef
      have q0 := S.out.z3.cell 1
      simp at q0
      generalize hkd : Sp.Cut.int 4 c.text.2 = kdc at *
      obtain ⟨kd, c2⟩ := kdc
      clear hdef
      dsimp only at *
      rcases (by omega : kd = 1 ∨ kd = 2 ∨ kd = 3 ∨ kd = 4 ∨ kd = 0) with hk | hk | hk | hk | hk
      · have e1 : (kd == 1) = true := beq_iff_eq.2 hk
        have HDF := Lib.hid (show c.ditem = (⟨c.text.1, kd, c2.text.1, 0, 0, [], 0, Sp.root0⟩, c2.text.2) by unfold Sp.Cut.ditem; rw [if_pos (by rw [hkd]; exact hk)]; rw [hkd])
        clear hk hkd
        go_upto_region 14 with (go_at_call 170; refine (dCutText_any g c2.s c2.bad _ S.out.p.hl S.out.p.dc).mono ?_; rintro e w1 ⟨rfl, hc1, hk1⟩; rw [show (⟨c2.s, c2.bad⟩ : Sp.Cut) = c2 from rfl] at *; replace S := Lib.hid (S.out.call (c' := c2.text.2) hc1 hk1 c2.text_len); have q1 := S.out.z3.cell 2; have f1 := S.out.z3.frozen 2; simp at q1; clear hc1 hk1)
        refine wp_gen (fun W => MkS w g c2.text.2 ItemT w.heap.size #[.string ⟨#[]⟩, .int .i64 0, .string ⟨#[]⟩, .int .i64 0, .int .i64 0, .slice none 0 0, .int .i64 0, .int .i64 0, .int .i64 0, .int .i64 0] b3 #[.string ⟨c.text.1.toArray⟩, .int .i64 kd, .string ⟨c2.text.1.toArray⟩, .int .i64 0, .int .i64 0, .slice none 0 0, .int .i64 0, .int .i64 0, .int .i64 0, .int .i64 0] W) (S.out.set 2 _) ?_
        intro W3 hm
        clear S q0
        try clear q1 f1
        have S := Lib.hid hm
        clear hm
        go_wp2_with (first
          | (refine wpList_row ItemT _ rfl b3 rfl rfl ItemT _ (0, 0) _ S.out.z3 Tryz.underlying83 rfl rfl ?_)
          | (refine wpList_store_row rfl ItemT _ _ rfl w.heap.size _ rfl rfl ItemT _ S.out.p.z2 (by kernel_rfl) rfl (by kernel_rfl) ?_))
        have hD := S.out.done
        obtain ⟨z0, z1, z2, z3, z4, z5, z6, z7, z8, z9⟩ := hD.2.2.at10.1
        refine bodyPost_ret (v := .agg #[.string ⟨c.text.1.toArray⟩, .int .i64 kd, .string ⟨c2.text.1.toArray⟩, .int .i64 0, .int .i64 0, .slice none 0 0, .int .i64 0, .int .i64 0, .int .i64 0, .int .i64 0]) (by simp [results, Tryz.results169, go_sem, z0, z1, z2, z3, z4, z5, z6, z7, z8, z9]) rfl (HMK.out _ _ HDF.out none 0 _ _ rfl (HNIL.out _) hD.1 hD.2.1)
      · have e1 : (kd == 1) = false := by rw [beq_eq_false_iff_ne]; omega
        have e2 : (kd == 2) = true := beq_iff_eq.2 hk
        have HDF := Lib.hid (show c.ditem = (⟨c.text.1, kd, [], (Sp.Cut.int 400 c2).1, (Sp.Cut.int 1000 (Sp.Cut.int 400 c2).2).1, [], 0, Sp.root0⟩, (Sp.Cut.int 1000 (Sp.Cut.int 400 c2).2).2) by unfold Sp.Cut.ditem; rw [if_neg (by rw [hkd]; dsimp only; omega), if_pos (by rw [hkd]; exact hk)]; rw [hkd])
        clear hk hkd
        go_upto_region 8 with (go_at_call 168; refine (dInt_any 400 (by omega) (by omega) g _ _ _ S.out.p.hl S.out.p.dc).mono ?_; rintro e w1 ⟨rfl, hc1, hk1⟩; replace S := Lib.hid (S.out.call (c' := (Sp.Cut.int 400 c2).2) hc1 hk1 (Sp.Cut.int_len _ _)); have q1 := S.out.z3.cell 3; have f1 := S.out.z3.frozen 3; simp at q1; clear hc1 hk1)
        refine wp_gen (fun W => MkS w g ((Sp.Cut.int 400 c2).2) ItemT w.heap.size #[.string ⟨#[]⟩, .int .i64 0, .string ⟨#[]⟩, .int .i64 0, .int .i64 0, .slice none 0 0, .int .i64 0, .int .i64 0, .int .i64 0, .int .i64 0] b3 #[.string ⟨c.text.1.toArray⟩, .int .i64 kd, .string ⟨#[]⟩, .int .i64 (Sp.Cut.int 400 c2).1, .int .i64 0, .slice none 0 0, .int .i64 0, .int .i64 0, .int .i64 0, .int .i64 0] W) (S.out.set 3 _) ?_
        intro W3 hm
        clear S
        try clear q0
        try clear q1 f1
        have S := Lib.hid hm
        clear hm
        go_upto_region 14 with (go_at_call 168; refine (dInt_any 1000 (by omega) (by omega) g _ _ _ S.out.p.hl S.out.p.dc).mono ?_; rintro e w1 ⟨rfl, hc1, hk1⟩; replace S := Lib.hid (S.out.call (c' := (Sp.Cut.int 1000 (Sp.Cut.int 400 c2).2).2) hc1 hk1 (Sp.Cut.int_len _ _)); have q1 := S.out.z3.cell 4; have f1 := S.out.z3.frozen 4; simp at q1; clear hc1 hk1)
        refine wp_gen (fun W => MkS w g ((Sp.Cut.int 1000 (Sp.Cut.int 400 c2).2).2) ItemT w.heap.size #[.string ⟨#[]⟩, .int .i64 0, .string ⟨#[]⟩, .int .i64 0, .int .i64 0, .slice none 0 0, .int .i64 0, .int .i64 0, .int .i64 0, .int .i64 0] b3 #[.string ⟨c.text.1.toArray⟩, .int .i64 kd, .string ⟨#[]⟩, .int .i64 (Sp.Cut.int 400 c2).1, .int .i64 (Sp.Cut.int 1000 (Sp.Cut.int 400 c2).2).1, .slice none 0 0, .int .i64 0, .int .i64 0, .int .i64 0, .int .i64 0] W) (S.out.set 4 _) ?_
        intro W3 hm
        clear S
        try clear q0
        try clear q1 f1
        have S := Lib.hid hm
        clear hm
        go_wp2_with (first
          | (refine wpList_row ItemT _ rfl b3 rfl rfl ItemT _ (0, 0) _ S.out.z3 Tryz.underlying83 rfl rfl ?_)
          | (refine wpList_store_row rfl ItemT _ _ rfl w.heap.size _ rfl rfl ItemT _ S.out.p.z2 (by kernel_rfl) rfl (by kernel_rfl) ?_))
        have hD := S.out.done
        obtain ⟨z0, z1, z2, z3, z4, z5, z6, z7, z8, z9⟩ := hD.2.2.at10.1
        refine bodyPost_ret (v := .agg #[.string ⟨c.text.1.toArray⟩, .int .i64 kd, .string ⟨#[]⟩, .int .i64 (Sp.Cut.int 400 c2).1, .int .i64 (Sp.Cut.int 1000 (Sp.Cut.int 400 c2).2).1, .slice none 0 0, .int .i64 0, .int .i64 0, .int .i64 0, .int .i64 0]) (by simp [results, Tryz.results169, go_sem, z0, z1, z2, z3, z4, z5, z6, z7, z8, z9]) rfl (HMK.out _ _ HDF.out none 0 _ _ rfl (HNIL.out _) hD.1 hD.2.1)
      · have e1 : (kd == 1) = false := by rw [beq_eq_false_iff_ne]; omega
        have e2 : (kd == 2) = false := by rw [beq_eq_false_iff_ne]; omega
        have e3 : (kd == 3) = true := beq_iff_eq.2 hk
        have HDF := Lib.hid (show c.ditem = (⟨c.text.1, kd, [], 0, 0, (Sp.Cut.dtexts 3 c2).1, (Sp.Cut.int 400 (Sp.Cut.dtexts 3 c2).2).1, Sp.root0⟩, (Sp.Cut.int 400 (Sp.Cut.dtexts 3 c2).2).2) by unfold Sp.Cut.ditem; rw [if_neg (by rw [hkd]; dsimp only; omega), if_neg (by rw [hkd]; dsimp only; omega), if_pos (by rw [hkd]; exact hk)]; rw [hkd])
        clear hk hkd
        go_upto_region 11 with (go_at_call 171; refine (dTexts_any 3 (by omega) (by omega) g c2 _ S.out.p.hl S.out.p.dc).mono ?_; rintro e w1 ⟨A, cp, rfl, htr, hc1, hk1⟩; have HTR := Lib.hid (htr.less S.out.p.ck.size); replace S := Lib.hid (S.out.call (c' := (Sp.Cut.dtexts 3 c2).2) hc1 hk1 (Sp.Cut.dtexts_len _ _)); have q1 := S.out.z3.cell 5; have f1 := S.out.z3.frozen 5; simp at q1; clear hc1 hk1 htr)
        refine wp_gen (fun W => MkS w g (Sp.Cut.dtexts 3 c2).2 ItemT w.heap.size #[.string ⟨#[]⟩, .int .i64 0, .string ⟨#[]⟩, .int .i64 0, .int .i64 0, .slice none 0 0, .int .i64 0, .int .i64 0, .int .i64 0, .int .i64 0] b3 #[.string ⟨c.text.1.toArray⟩, .int .i64 kd, .string ⟨#[]⟩, .int .i64 0, .int .i64 0, .slice A (Sp.Cut.dtexts 3 c2).1.length cp, .int .i64 0, .int .i64 0, .int .i64 0, .int .i64 0] W ∧ TRow W w.heap.size StrT A ((Sp.Cut.dtexts 3 c2).1.map tv)) ⟨S.out.set 5 _, HTR.out.keep1 (Chg.set1 _ b3 5 _) S.out.z3 (by decide)⟩ ?_
        intro W3 hm
        clear S q0 q1 f1 HTR
        have S := Lib.hid hm.1
        have HTR := Lib.hid hm.2
        clear hm
        go_upto_region 14 with (go_at_call 168; refine (dInt_any 400 (by omega) (by omega) g _ _ _ S.out.p.hl S.out.p.dc).mono ?_; rintro e w1 ⟨rfl, hc1, hk1⟩; have HTR := Lib.hid (HTR.out.chg hk1 (fun k hk e => by unfold OneM at e; omega)); replace S := Lib.hid (S.out.call (c' := (Sp.Cut.int 400 (Sp.Cut.dtexts 3 c2).2).2) hc1 hk1 (Sp.Cut.int_len _ _)); have q1 := S.out.z3.cell 6; have f1 := S.out.z3.frozen 6; simp at q1; clear hc1 hk1)
        refine wp_gen (fun W => MkS w g (Sp.Cut.int 400 (Sp.Cut.dtexts 3 c2).2).2 ItemT w.heap.size #[.string ⟨#[]⟩, .int .i64 0, .string ⟨#[]⟩, .int .i64 0, .int .i64 0, .slice none 0 0, .int .i64 0, .int .i64 0, .int .i64 0, .int .i64 0] b3 #[.string ⟨c.text.1.toArray⟩, .int .i64 kd, .string ⟨#[]⟩, .int .i64 0, .int .i64 0, .slice A (Sp.Cut.dtexts 3 c2).1.length cp, .int .i64 (Sp.Cut.int 400 (Sp.Cut.dtexts 3 c2).2).1, .int .i64 0, .int .i64 0, .int .i64 0] W ∧ TRow W w.heap.size StrT A ((Sp.Cut.dtexts 3 c2).1.map tv)) ⟨S.out.set 6 _, HTR.out.keep1 (Chg.set1 _ b3 6 _) S.out.z3 (by decide)⟩ ?_
        intro W4 hm
        clear S q1 f1 HTR
        have S := Lib.hid hm.1
        have HTR := Lib.hid hm.2
        clear hm
        go_wp2_with (first
          | (refine wpList_row ItemT _ rfl b3 rfl rfl ItemT _ (0, 0) _ S.out.z3 Tryz.underlying83 rfl rfl ?_)
          | (refine wpList_store_row rfl ItemT _ _ rfl w.heap.size _ rfl rfl ItemT _ S.out.p.z2 (by kernel_rfl) rfl (by kernel_rfl) ?_))
        have hD := S.out.done
        obtain ⟨z0, z1, z2, z3, z4, z5, z6, z7, z8, z9⟩ := hD.2.2.at10.1
        refine bodyPost_ret (v := .agg #[.string ⟨c.text.1.toArray⟩, .int .i64 kd, .string ⟨#[]⟩, .int .i64 0, .int .i64 0, .slice A (Sp.Cut.dtexts 3 c2).1.length cp, .int .i64 (Sp.Cut.int 400 (Sp.Cut.dtexts 3 c2).2).1, .int .i64 0, .int .i64 0, .int .i64 0]) (by simp [results, Tryz.results169, go_sem, z0, z1, z2, z3, z4, z5, z6, z7, z8, z9]) rfl (HMK.out _ _ HDF.out A cp _ _ rfl (HTR.out.keep1 (chg_setRow1 _ _ _) S.out.p.z2 (by decide)) hD.1 hD.2.1)
      · have e1 : (kd == 1) = false := by rw [beq_eq_false_iff_ne]; omega
        have e2 : (kd == 2) = false := by rw [beq_eq_false_iff_ne]; omega
        have e3 : (kd == 3) = false := by rw [beq_eq_false_iff_ne]; omega
        have e4 : (kd == 4) = true := beq_iff_eq.2 hk
        have HDF := Lib.hid (show c.ditem = (⟨c.text.1, kd, [], 0, 0, [], 0, c2.droot.1⟩, c2.droot.2) by unfold Sp.Cut.ditem; rw [if_neg (by rw [hkd]; dsimp only; omega), if_neg (by rw [hkd]; dsimp only; omega), if_neg (by rw [hkd]; dsimp only; omega), if_pos (by rw [hkd]; exact hk)]; rw [hkd])
        clear hk hkd
        go_upto_region 14 with (go_at_call 173; refine (dRoot_any g c2 _ S.out.p.hl S.out.p.dc).mono ?_; rintro e w1 ⟨rfl, hc1, hk1⟩; replace S := Lib.hid (S.out.call (c' := c2.droot.2) hc1 hk1 (Sp.Cut.droot_len _)); have q1 := S.out.z3.cell 7; have f1 := S.out.z3.frozen 7; have q2 := S.out.z3.cell 8; have f2 := S.out.z3.frozen 8; have q3 := S.out.z3.cell 9; have f3 := S.out.z3.frozen 9; simp at q1 q2 q3; clear hc1 hk1; simp only [rootV])
        refine wp_gen (fun W => MkS w g (c2.droot.2) ItemT w.heap.size #[.string ⟨#[]⟩, .int .i64 0, .string ⟨#[]⟩, .int .i64 0, .int .i64 0, .slice none 0 0, .int .i64 0, .int .i64 0, .int .i64 0, .int .i64 0] b3 #[.string ⟨c.text.1.toArray⟩, .int .i64 kd, .string ⟨#[]⟩, .int .i64 0, .int .i64 0, .slice none 0 0, .int .i64 0, .int .i64 c2.droot.1.page, .int .i64 c2.droot.1.count, .int .i64 c2.droot.1.flags] W) (((S.out.set 7 _).set 8 _).set 9 _) ?_
        intro W3 hm
        clear S
        try clear q0
        try clear q1 f1 q2 f2 q3 f3
        have S := Lib.hid hm
        clear hm
        go_wp2_with (first
          | (refine wpList_row ItemT _ rfl b3 rfl rfl ItemT _ (0, 0) _ S.out.z3 Tryz.underlying83 rfl rfl ?_)
          | (refine wpList_store_row rfl ItemT _ _ rfl w.heap.size _ rfl rfl ItemT _ S.out.p.z2 (by kernel_rfl) rfl (by kernel_rfl) ?_))
        have hD := S.out.done
        obtain ⟨z0, z1, z2, z3, z4, z5, z6, z7, z8, z9⟩ := hD.2.2.at10.1
        refine bodyPost_ret (v := .agg #[.string ⟨c.text.1.toArray⟩, .int .i64 kd, .string ⟨#[]⟩, .int .i64 0, .int .i64 0, .slice none 0 0, .int .i64 0, .int .i64 c2.droot.1.page, .int .i64 c2.droot.1.count, .int .i64 c2.droot.1.flags]) (by simp [results, Tryz.results169, go_sem, z0, z1, z2, z3, z4, z5, z6, z7, z8, z9]) rfl (HMK.out _ _ HDF.out none 0 _ _ rfl (HNIL.out _) hD.1 hD.2.1)
      · have e1 : (kd == 1) = false := by rw [beq_eq_false_iff_ne]; omega
        have e2 : (kd == 2) = false := by rw [beq_eq_false_iff_ne]; omega
        have e3 : (kd == 3) = false := by rw [beq_eq_false_iff_ne]; omega
        have e4 : (kd == 4) = false := by rw [beq_eq_false_iff_ne]; omega
        have HDF := Lib.hid (show c.ditem = (⟨c.text.1, kd, [], 0, 0, [], 0, Sp.root0⟩, c2) by unfold Sp.Cut.ditem; rw [if_neg (by rw [hkd]; dsimp only; omega), if_neg (by rw [hkd]; dsimp only; omega), if_neg (by rw [hkd]; dsimp only; omega), if_neg (by rw [hkd]; dsimp only; omega)]; rw [hkd])
        clear hk hkd
        go_upto_region 14 with fail
        go_wp2_with (first
          | (refine wpList_row ItemT _ rfl b3 rfl rfl ItemT _ (0, 0) _ S.out.z3 Tryz.underlying83 rfl rfl ?_)
          | (refine wpList_store_row rfl ItemT _ _ rfl w.heap.size _ rfl rfl ItemT _ S.out.p.z2 (by kernel_rfl) rfl (by kernel_rfl) ?_))
        have hD := S.out.done
        obtain ⟨z0, z1, z2, z3, z4, z5, z6, z7, z8, z9⟩ := hD.2.2.at10.1
        refine bodyPost_ret (v := .agg #[.string ⟨c.text.1.toArray⟩, .int .i64 kd, .string ⟨#[]⟩, .int .i64 0, .int .i64 0, .slice none 0 0, .int .i64 0, .int .i64 0, .int .i64 0, .int .i64 0]) (by simp [results, Tryz.results169, go_sem, z0, z1, z2, z3, z4, z5, z6, z7, z8, z9]) rfl (HMK.out _ _ HDF.out none 0 _ _ rfl (HNIL.out _) hD.1 hD.2.1)
end Go.Proofs.YtmcpkhknjdiocaaGreatDoor
namespace Go.Proofs.YtmcpkhknjdiocaaGreatDoor
open Go.RowKit
attribute [local go_sem low] mk_extract
attribute [local go_sem] After.cell After.frozen mk_extract_end ByteArray.mk_append_mk
namespace Sp
def dnumStep (l : List Int) (c : Cut) : List Int × Cut := (l ++ [(Cut.int 400 c).1], (Cut.int 400 c).2)
def Cut.dnums (c : Cut) : List Int × Cut := eachN dnumStep (Cut.int 20 c).1.toNat ([], (Cut.int 20 c).2)
def Cut.dfree (c : Cut) : Free × Cut := (⟨c.u64.1, c.u64.2.dnums.1⟩, c.u64.2.dnums.2)
def dfreeStep (l : List Free) (c : Cut) : List Free × Cut := (l ++ [c.dfree.1], c.dfree.2)
def Cut.dfrees (c : Cut) : List Free × Cut := eachN dfreeStep (Cut.int 20 c).1.toNat ([], (Cut.int 20 c).2)
theorem Cut.dnums_len (c : Cut) : c.dnums.2.s.length ≤ c.s.length := Nat.le_trans (eachN_len (f := dnumStep) (fun _ c => Cut.int_len _ c) _ _) (Cut.int_len _ _)
theorem Cut.dfree_len (c : Cut) : c.dfree.2.s.length ≤ c.s.length := Nat.le_trans (Cut.dnums_len _) c.u64_len
theorem Cut.dfrees_len (c : Cut) : c.dfrees.2.s.length ≤ c.s.length := Nat.le_trans (eachN_len (f := dfreeStep) (fun _ c => c.dfree_len) _ _) (Cut.int_len _ _)
end Sp
/-- The numbers of a free page that are read, behind world W0; the page lies in block b. -/
structure NuI (W0 : World) (g b : Nat) (tx : Value) (ids : List Int) (c : Sp.Cut) (v : Value) (W : World) : Prop where
  dc : DCut W g c.s c.bad
  ck : Chg (OneM g) W0 W
  hb : Blk W b FreeT #[tx, v]
  own : W.ownsRow (b + 1) IntT 1 v ids.length (ids.map iv)
  h0 : W0.heap.size ≤ b
  hg : g < W0.heap.size
  hl : c.s.length ≤ 4611686018427387904
/-- Free pages that are read. -/
structure FrI (w : World) (g : Nat) (l : List Sp.Free) (c : Sp.Cut) (v : Value) (W : World) : Prop where
  dc : DCut W g c.s c.bad
  ck : Chg (OneM g) w W
  ex : ∃ xs, W.ownsRow w.heap.size FreeT 2 v l.length xs ∧ FrCells W w.heap.size l xs
  hg : g < w.heap.size
  hl : c.s.length ≤ 4611686018427387904
theorem FrI.call {w W W' : World} {g : Nat} {l : List Sp.Free} {c c' : Sp.Cut} {v : Value} (h : FrI w g l c v W) (hc : DCut W' g c'.s c'.bad) (hk : Chg (OneM g) W W') (hl : c'.s.length ≤ 4611686018427387904) : FrI w g l c' v W' := by
  obtain ⟨xs, ho, hx⟩ := h.ex
  have hn : ∀ k, w.heap.size ≤ k → ¬ OneM g k := fun k hk e => by unfold OneM at e; have := h.hg; omega
  exact ⟨hc, h.ck.trans hk, ⟨xs, own_chg ho hk hn, hx.chg hk (fun k hk s => absurd s (hn k hk))⟩, h.hg, hl⟩
theorem FrI.app {w W W' : World} {g : Nat} {l : List Sp.Free} {c : Sp.Cut} {v v' : Value} {x : Sp.Free} {V : Option Addr} {cv : Nat} {xs : List Value} (hd : DCut W g c.s c.bad) (hck : Chg (OneM g) w W) (hg0 : g < w.heap.size) (hl : c.s.length ≤ 4611686018427387904)
    (ho : W.ownsRow w.heap.size FreeT 2 v l.length xs) (hx : FrCells W w.heap.size l xs) (ht : TRow W w.heap.size IntT V (x.ids.map iv)) (hr : 0 ≤ x.txn ∧ x.txn < 18446744073709551616)
    (hn : W'.ownsRow w.heap.size FreeT 2 v' (l.length + 1) (xs ++ frV x V cv)) (hg : W.grownBy W' v.ownBlock) : FrI w g (l ++ [x]) c v' W' := by
  have hk : Chg (fun k => v.ownBlock = some k) W W' := Chg.of_grown hg (fun k hk => .inl hk)
  have hno : ∀ k, w.heap.size ≤ k → v.ownBlock = some k → ∀ cs, ¬ Blk W k IntT cs := fun k _ e => own_not ho (by decide) k e
  refine ⟨DCut.chg hd hk (fun e => by have := (ho.lt _ e).1; omega), Chg.step hk (fun i hi => .inr (ho.lt i hi).1) hck, ⟨xs ++ frV x V cv, ?_, FrCells.snoc (ht.chg hk hno) hr (hx.chg hk hno)⟩, hg0, hl⟩
  have e : (l ++ [x]).length = l.length + 1 := by simp
  rw [e]
  exact hn
set_option maxRecDepth 100000 in
set_option maxHeartbeats 6400000 in
theorem dFrees_any (g : Nat) (c : Sp.Cut) (w : World) (hs : c.s.length ≤ 4611686018427387904) (hc : DCut w g c.s c.bad) :
    Calls Tryz.prog 172 #[.pointer (some ⟨g, 0, none⟩)] w fun e w' => ∃ A cp xs, e = .returned (.slice A c.dfrees.1.length cp) ∧ TRow w' w.heap.size FreeT A xs ∧ FrCells w' w.heap.size c.dfrees.1 xs ∧ c.dfrees.1.length ≤ 20 ∧ DCut w' g c.dfrees.2.s c.dfrees.2.bad ∧ Chg (OneM g) w w' := by
  obtain ⟨i0, hi0, hz0, hz1, hz2⟩ := info_parts info_free
  obtain ⟨i2, hi2, hy0, hy1, hy2⟩ := info_parts info_int
  have hgw := hc.lt
  have hr := Sp.Cut.int_rng 20 (by omega) c
  have HD := Lib.hid (fun l d' (h : Sp.eachN Sp.dfreeStep (Sp.Cut.int 20 c).1.toNat ([], (Sp.Cut.int 20 c).2) = (l, d')) => (show c.dfrees = (l, d') from h))
  have Hc := Lib.hid hc
  have HS := Lib.hid hs
  have HIL := Lib.hid (Sp.Cut.int_len 20 c)
  have HIN := Lib.hid (fun w h => dInt_any 20 (by omega) (by omega) g c.s c.bad w hs h)
  clear hc hs
  rw [show (⟨c.s, c.bad⟩ : Sp.Cut) = c from rfl] at HIN
  generalize Sp.Cut.int 20 c = nd at *
  obtain ⟨n, d⟩ := nd
  dsimp only at hr HIL HIN HD
  obtain ⟨hn0, hn1⟩ := hr
  go_enter Tryz.func172, Tryz.ntmps172
  go_wp2_with (go_at_call 168; refine (HIN.out _ Hc.out).mono ?_; rintro e w1 ⟨rfl, hc1, hk1⟩; have T0 := Lib.hid (show FrI w g [] d (.slice none 0 0) w1 from ⟨hc1, hk1, ⟨[], World.ownsRow_nil _ _ _ _, rfl⟩, hgw, Nat.le_trans HIL.out HS.out⟩); clear hc1 hk1)
  go_loopw [3, 5] (fun v i wr => ∃ (k : Nat) (l : List Sp.Free) (c' : Sp.Cut), (k : Int) ≤ n ∧ i = .int .i64 k ∧ Hid (Sp.eachN Sp.dfreeStep k ([], d) = (l, c') ∧ l.length ≤ k) ∧ FrI w g l c' v wr) (fun _ i _ => (n - intOf i).toNat)
  case atStart => exact ⟨0, [], d, hn0, rfl, ⟨rfl, Nat.le_refl _⟩, T0.out⟩
  case round =>
    obtain ⟨k, l, c', hk, rfl, he, ht⟩ := hrel
    obtain ⟨wo, rfl⟩ : ∃ W : World, W = wr := ⟨_, rfl⟩
    have T := Lib.hid ht
    have q1 := ht.dc.cell 1
    simp at q1
    have hgr := ht.dc.lt
    clear ht T0
    by_cases hlt : (k : Int) < n
    · rcases hb : c'.bad with _ | _
      · rw [hb] at q1
        have HB := Lib.hid hb
        clear hb
        have hur := c'.u64_rng
        have HUR := Lib.hid hur
        have HUL := Lib.hid c'.u64_len
        have HNU := Lib.hid (fun W hs hc => show Calls Tryz.prog 147 #[.pointer (some ⟨g, 0, none⟩)] W (fun e w' => e = .returned (.int .u64 c'.u64.1) ∧ DCut w' g c'.u64.2.s c'.u64.2.bad ∧ Chg (OneM g) W w') from dCutNum_any g c'.s c'.bad W hs hc)
        have HDF := Lib.hid (show c'.dfree = (⟨c'.u64.1, c'.u64.2.dnums.1⟩, c'.u64.2.dnums.2) from rfl)
        clear hur
        rcases hud : c'.u64 with ⟨tx, c1⟩
        rw [hud] at HNU HDF HUR HUL
        dsimp only at HNU HDF HUR HUL
        clear hud
        have hr2 := Sp.Cut.int_rng 20 (by omega) c1
        have HD2 := Lib.hid (fun l d' (h : Sp.eachN Sp.dnumStep (Sp.Cut.int 20 c1).1.toNat ([], (Sp.Cut.int 20 c1).2) = (l, d')) => (show c1.dnums = (l, d') from h))
        have HIL2 := Lib.hid (Sp.Cut.int_len 20 c1)
        have HIN2 := Lib.hid (fun w hs h => dInt_any 20 (by omega) (by omega) g c1.s c1.bad w hs h)
        rw [show (⟨c1.s, c1.bad⟩ : Sp.Cut) = c1 from rfl] at HIN2
        generalize Sp.Cut.int 20 c1 = nd2 at *
        obtain ⟨n2, d2⟩ := nd2
        dsimp only at hr2 HIL2 HIN2 HD2
        obtain ⟨hn20, hn21⟩ := hr2
        go_upto_region 6 with fail
        go_cut [6] (fun s6 W => ∃ b6, s6 = .pointer (some ⟨b6, 0, none⟩) ∧ NuI wo g b6 (.int .u64 tx) [] c1 (.slice none 0 0) W)
        case first =>
          go_wp2_with (first
            | (go_at_call 147; refine (HNU.out _ T.out.hl T.out.dc).mono ?_; rintro e w3 ⟨rfl, hc3, hk3⟩; have HC3 := Lib.hid hc3; have HK3 := Lib.hid hk3; clear hc3 hk3)
            | (refine wpList_new FreeT _ _ rfl rfl rfl rfl rfl rfl _ rfl (of_decide_eq_true (by kernel_rfl)) (by kernel_rfl) (by kernel_rfl) (by kernel_rfl) ?_))
          go_meet
          case rel => exact ⟨_, rfl, Blk.alloc HC3.out _, HK3.out.alloc _, Blk.new _ _ _, World.ownsRow_nil _ _ _ _, HK3.out.size, hgr, Nat.le_trans HUL.out T.out.hl⟩
        case rest =>
          obtain ⟨b6, rfl, hm⟩ := hcut
          have N0 := Lib.hid hm
          clear hm q1
          obtain ⟨W3, rfl⟩ : ∃ W, W = wc := ⟨_, rfl⟩
          go_wp2_with (go_at_call 168; refine (HIN2.out _ N0.out.hl N0.out.dc).mono ?_; rintro e w3 ⟨rfl, hc3, hk3⟩; replace N0 := Lib.hid (show NuI wo g b6 (.int .u64 tx) [] d2 (.slice none 0 0) w3 from ⟨hc3, N0.out.ck.trans hk3, N0.out.hb.chg hk3 (by unfold OneM; have := N0.out.h0; omega), World.ownsRow_nil _ _ _ _, N0.out.h0, hgr, Nat.le_trans HIL2.out N0.out.hl⟩); clear hc3 hk3)
          go_loopw [8] (fun j wq => ∃ (k2 : Nat) (ids : List Int) (c2 : Sp.Cut) (v2 : Value), (k2 : Int) ≤ n2 ∧ j = .int .i64 k2 ∧ Hid (Sp.eachN Sp.dnumStep k2 ([], d2) = (ids, c2) ∧ ids.length ≤ k2) ∧ NuI wo g b6 (.int .u64 tx) ids c2 v2 wq) (fun j _ => (n2 - intOf j).toNat)
          case atStart => exact ⟨0, [], d2, .slice none 0 0, hn20, rfl, ⟨rfl, Nat.le_refl _⟩, N0.out⟩
          case round =>
            obtain ⟨k2, ids, c2, v2, hk2, rfl, he2, hn⟩ := hrel
            have N := Lib.hid hn
            have q2 := hn.dc.cell 1
            simp at q2
            have q3 := hn.hb.cell 1
            have f3 := hn.hb.frozen 1
            simp at q3
            have hbw := hn.hb.lt
            have hb0 := hn.h0
            clear hn N0
            by_cases hlt2 : (k2 : Int) < n2
            · rcases hb2 : c2.bad with _ | _
              · rw [hb2] at q2
                have HB2 := Lib.hid hb2
                clear hb2
                have hLg : b6 ≠ g := by omega
                go_upto_region 11 with fail
                go_region_law (first
                  | (go_simp; go_at_call 168; refine (dInt_any 400 (by omega) (by omega) g c2.s c2.bad _ N.out.hl ?_).mono ?_; exact Blk.drew N.out.dc; rintro e w5 ⟨rfl, hc5, hk5⟩; rw [show (⟨c2.s, c2.bad⟩ : Sp.Cut) = c2 from rfl] at *; have hk6 : Chg (OneM g) wr w5 := Chg.trans ((Chg.refl _ _).drew) hk5; have HL1 := Lib.hid (Blk.chg (S := OneM g) N.out.hb hk6 hLg); have qL := HL1.out.at2; have qL1 := qL.1.2; have fqL1 := qL.2.2; clear qL; have hzw := hk6.size; have hLw1 := Nat.lt_of_lt_of_le hbw hzw)
                  | (refine step_append_lies _ rfl (.tmp 41) (.tmp 44) _ rfl (b6 + 1) IntT i2 _ 1 8 Tryz.underlying77 hi2 hy0 hy1 hy2 rfl (by omega) v2 ids.length (ids.map iv) rfl ?_ _ 1 1 [iv (Sp.Cut.int 400 c2).1] rfl rfl ?_ ?_ (by omega) ?_ ?_ ?_ _ rfl ?_; (exact own_chg N.out.own (hk6.alloc _) (fun k hk e => by unfold OneM at e; omega)); (exact cell_one_new _ _ _); (exact fun u hu => by rw [List.mem_singleton.1 hu]; rfl); (have := he2.out.2; simp only [maxLen]; omega); (have := he2.out.2; omega); (first | omega | (simp; done) | (simp; omega)); (intro g2 cap2 w8 hown8 hgr8 hat8 hlt8; have h8 := after_append N.out.own hgr8 (Nat.lt_succ_self _) HL1.out; have HL8 := Lib.hid h8.1; have hk8 := h8.2; clear h8; have qq := HL8.out.at2; have qL8 := qq.1.2; have fqL8 := qq.2.2; clear qq)))
                all_goals
                  have hnx : NuI wo g b6 (.int .u64 tx) (ids ++ [(Sp.Cut.int 400 c2).1]) (Sp.Cut.int 400 c2).2 (.slice (some ⟨g2, 0, none⟩) (ids.length + 1) cap2) (w8.setCell ⟨b6, 1, none⟩ (.slice (some ⟨g2, 0, none⟩) (ids.length + 1) cap2)) := by
                    refine ⟨?_, ?_, ?_, ?_, hb0, hgr, Nat.le_trans (Sp.Cut.int_len _ _) N.out.hl⟩
                    · exact Blk.far (DCut.chg (Blk.alloc hc5 _) hk8 (fun h => by have := (N.out.own.lt _ h).1; omega)) (p := ⟨b6, 1, none⟩) (fun e => hLg e.symm) _
                    · exact (Chg.step hk8 (fun i hi => .inr (by have := (N.out.own.lt i hi).1; omega)) ((N.out.ck.trans hk6).alloc _)).setCell (p := ⟨b6, 1, none⟩) (.inr hb0) _
                    · simpa using HL8.out.set_ 1 (.slice (some ⟨g2, 0, none⟩) (ids.length + 1) cap2)
                    · rw [List.map_append, show (ids ++ [(Sp.Cut.int 400 c2).1]).length = ids.length + 1 by simp]
                      exact own_chg hown8 (Chg.set1 _ b6 1 _) (fun k hk e => by unfold OneM at e; omega)
                  have HNX := Lib.hid hnx
                  clear hnx hown8 hgr8 hat8 hlt8 hk8 HL8 qL8 fqL8 hc5 hk5 hk6 HL1 qL1 fqL1 q2 q3 f3
                  generalize w8.setCell ⟨b6, 1, none⟩ (.slice (some ⟨g2, 0, none⟩) (ids.length + 1) cap2) = w9 at *
                  go_wp2_with fail
                  go_roundw
                  case rel =>
                    refine ⟨k2 + 1, ids ++ [(Sp.Cut.int 400 c2).1], (Sp.Cut.int 400 c2).2, _, by omega, by go_num, ⟨?_, ?_⟩, HNX.out⟩
                    · rw [Sp.eachN_succ _ _ _ (by rw [he2.out.1]; exact HB2.out), he2.out.1]
                      rfl
                    · have := he2.out.2; simp; omega
                  case measure => simp [intOf]; omega
              · rw [hb2] at q2
                have HB2 := Lib.hid hb2
                clear hb2
                have hdn := HD2.out ids c2 ((Sp.eachN_end (f := Sp.dnumStep) (s := ([], d2)) (k := k2) (n := n2.toNat) (by omega) (.inr (by rw [he2.out.1]; exact HB2.out))).trans he2.out.1)
                rw [hdn] at HDF
                have HDN := Lib.hid hdn
                clear hdn
                obtain ⟨A, cp, hv2⟩ := own_form N.out.own
                subst hv2
                obtain ⟨xs, ho, hx⟩ := ((T.out.call (c' := c2) N.out.dc N.out.ck N.out.hl).call (c' := c2) (W' := wr.alloc (.cells #[.int .u64 tx, .slice A ids.length cp] FreeT)) (Blk.alloc N.out.dc _) ((Chg.refl _ _).alloc _) N.out.hl).ex
                have HO := Lib.hid ho
                have HX := Lib.hid hx
                have HTR := Lib.hid (((TRow.of_own N.out.own (by have := he2.out.2; simp; omega)).less (base' := w.heap.size) (by have := T.out.ck.size; omega)).chg ((Chg.refl NoM wr).alloc (.cells #[.int .u64 tx, .slice A ids.length cp] FreeT)) (fun _ _ h => h.elim))
                have HCK := Lib.hid ((T.out.ck.trans N.out.ck).alloc (.cells #[.int .u64 tx, .slice A ids.length cp] FreeT))
                clear ho hx q3 f3
                go_wp2_with (first
                  | (refine wpList_row FreeT _ rfl b6 rfl rfl FreeT _ (0, 0) _ N.out.hb Tryz.underlying155 rfl rfl ?_)
                  | (at_builtin; refine wpList_append_own _ rfl _ _ 117 rfl w.heap.size FreeT i0 _ 2 32 Tryz.underlying117 hi0 hz0 hz1 hz2 rfl (by decide) _ l.length xs rfl ?c0 ⟨wr.heap.size, 0, none⟩ 1 1 (frV ⟨tx, ids⟩ A cp) rfl rfl ?c1 ?c2 ?c3 ?c4 ?c5 ?_))
                case c0 => exact HO.out
                case c1 =>
                  have h := news_of wr (frV ⟨tx, ids⟩ A cp).toArray FreeT
                  first | exact fun j u hu => hu | exact h | exact fun j u hu => h j u hu | (simp only [frV] at h ⊢; exact h) | trace_state
                case c2 => exact fun u hu => by simp only [frV, List.mem_cons, List.not_mem_nil, or_false] at hu; rcases hu with rfl | rfl <;> rfl
                case c3 => have := he.out.2; simp only [maxLen]; omega
                case c4 => have := he.out.2; omega
                case c5 => have := HCK.out.size; rw [World.size_alloc] at this; exact this
                intro v' w' hown' hgr' _
                have hfr : FrI w g (l ++ [⟨tx, ids⟩]) c2 v' w' := FrI.app (Blk.alloc N.out.dc _) HCK.out T.out.hg N.out.hl HO.out HX.out HTR.out HUR.out hown' hgr'
                obtain ⟨A', cc', hv'⟩ := own_form hown'
                subst hv'
                have HFR := Lib.hid hfr
                clear hfr hown' hgr'
                go_wp2_with fail
                go_roundw
                case rel =>
                  refine ⟨k + 1, l ++ [⟨tx, ids⟩], c2, by omega, by go_num, ⟨?_, ?_⟩, HFR.out⟩
                  · rw [Sp.eachN_succ _ _ _ (by rw [he.out.1]; exact HB.out), he.out.1]
                    show Sp.dfreeStep l c' = _
                    unfold Sp.dfreeStep
                    rw [HDF.out]
                  · have := he.out.2; simp; omega
                case measure => simp [intOf]; omega
            · have hdn := HD2.out ids c2 ((Sp.eachN_end (f := Sp.dnumStep) (s := ([], d2)) (k := k2) (n := n2.toNat) (by omega) (.inl (by omega))).trans he2.out.1)
              rw [hdn] at HDF
              have HDN := Lib.hid hdn
              clear hdn
              obtain ⟨A, cp, hv2⟩ := own_form N.out.own
              subst hv2
              obtain ⟨xs, ho, hx⟩ := ((T.out.call (c' := c2) N.out.dc N.out.ck N.out.hl).call (c' := c2) (W' := wr.alloc (.cells #[.int .u64 tx, .slice A ids.length cp] FreeT)) (Blk.alloc N.out.dc _) ((Chg.refl _ _).alloc _) N.out.hl).ex
              have HO := Lib.hid ho
              have HX := Lib.hid hx
              have HTR := Lib.hid (((TRow.of_own N.out.own (by have := he2.out.2; simp; omega)).less (base' := w.heap.size) (by have := T.out.ck.size; omega)).chg ((Chg.refl NoM wr).alloc (.cells #[.int .u64 tx, .slice A ids.length cp] FreeT)) (fun _ _ h => h.elim))
              have HCK := Lib.hid ((T.out.ck.trans N.out.ck).alloc (.cells #[.int .u64 tx, .slice A ids.length cp] FreeT))
              clear ho hx q3 f3
              go_wp2_with (first
                | (refine wpList_row FreeT _ rfl b6 rfl rfl FreeT _ (0, 0) _ N.out.hb Tryz.underlying155 rfl rfl ?_)
                | (at_builtin; refine wpList_append_own _ rfl _ _ 117 rfl w.heap.size FreeT i0 _ 2 32 Tryz.underlying117 hi0 hz0 hz1 hz2 rfl (by decide) _ l.length xs rfl ?c0 ⟨wr.heap.size, 0, none⟩ 1 1 (frV ⟨tx, ids⟩ A cp) rfl rfl ?c1 ?c2 ?c3 ?c4 ?c5 ?_))
              case c0 => exact HO.out
              case c1 =>
                have h := news_of wr (frV ⟨tx, ids⟩ A cp).toArray FreeT
                first | exact fun j u hu => hu | exact h | exact fun j u hu => h j u hu | (simp only [frV] at h ⊢; exact h) | trace_state
              case c2 => exact fun u hu => by simp only [frV, List.mem_cons, List.not_mem_nil, or_false] at hu; rcases hu with rfl | rfl <;> rfl
              case c3 => have := he.out.2; simp only [maxLen]; omega
              case c4 => have := he.out.2; omega
              case c5 => have := HCK.out.size; rw [World.size_alloc] at this; exact this
              intro v' w' hown' hgr' _
              have hfr : FrI w g (l ++ [⟨tx, ids⟩]) c2 v' w' := FrI.app (Blk.alloc N.out.dc _) HCK.out T.out.hg N.out.hl HO.out HX.out HTR.out HUR.out hown' hgr'
              obtain ⟨A', cc', hv'⟩ := own_form hown'
              subst hv'
              have HFR := Lib.hid hfr
              clear hfr hown' hgr'
              go_wp2_with fail
              go_roundw
              case rel =>
                refine ⟨k + 1, l ++ [⟨tx, ids⟩], c2, by omega, by go_num, ⟨?_, ?_⟩, HFR.out⟩
                · rw [Sp.eachN_succ _ _ _ (by rw [he.out.1]; exact HB.out), he.out.1]
                  show Sp.dfreeStep l c' = _
                  unfold Sp.dfreeStep
                  rw [HDF.out]
                · have := he.out.2; simp; omega
              case measure => simp [intOf]; omega
      · rw [hb] at q1
        have HB := Lib.hid hb
        clear hb
        go_wp2_with fail
        obtain ⟨xs, ho, hx⟩ := T.out.ex
        obtain ⟨A, cp, hv⟩ := own_form ho
        subst hv
        go_ret
        have hdt := HD.out l c' ((Sp.eachN_end (f := Sp.dfreeStep) (s := ([], d)) (k := k) (n := n.toNat) (by omega) (.inr (by rw [he.out.1]; exact HB.out))).trans he.out.1)
        have hT : TRow wo w.heap.size FreeT A xs := TRow.of_own ho (by have := he.out.2; have := ho.1; omega)
        have hC : DCut wo g c.dfrees.2.s c.dfrees.2.bad := by rw [hdt]; exact T.out.dc
        have hF : FrCells wo w.heap.size c.dfrees.1 xs := by rw [hdt]; exact hx
        have hL : c.dfrees.1.length ≤ 20 := by rw [hdt]; have := he.out.2; show l.length ≤ 20; omega
        first
          | exact ⟨A, cp, xs, by rw [hdt]; rfl, hT, hF, hL, hC, T.out.ck⟩
          | exact ⟨A, ⟨cp, by rw [hdt]; rfl⟩, ⟨xs, hT, hF⟩, hL, hC, T.out.ck⟩
          | exact ⟨A, ⟨⟨cp, by rw [hdt]; rfl⟩, xs, hT, hF, hL, hC, T.out.ck⟩⟩
          | exact ⟨A, ⟨cp, by rw [hdt]; rfl⟩, xs, hT, hF, hL, hC, T.out.ck⟩
          | trace_state
    · go_wp2_with fail
      obtain ⟨xs, ho, hx⟩ := T.out.ex
      obtain ⟨A, cp, hv⟩ := own_form ho
      subst hv
      go_ret
      have hdt := HD.out l c' ((Sp.eachN_end (f := Sp.dfreeStep) (s := ([], d)) (k := k) (n := n.toNat) (by omega) (.inl (by omega))).trans he.out.1)
      have hT : TRow wo w.heap.size FreeT A xs := TRow.of_own ho (by have := he.out.2; have := ho.1; omega)
      have hC : DCut wo g c.dfrees.2.s c.dfrees.2.bad := by rw [hdt]; exact T.out.dc
      have hF : FrCells wo w.heap.size c.dfrees.1 xs := by rw [hdt]; exact hx
      have hL : c.dfrees.1.length ≤ 20 := by rw [hdt]; have := he.out.2; show l.length ≤ 20; omega
      first
        | exact ⟨A, cp, xs, by rw [hdt]; rfl, hT, hF, hL, hC, T.out.ck⟩
        | exact ⟨A, ⟨cp, by rw [hdt]; rfl⟩, ⟨xs, hT, hF⟩, hL, hC, T.out.ck⟩
        | exact ⟨A, ⟨⟨cp, by rw [hdt]; rfl⟩, xs, hT, hF, hL, hC, T.out.ck⟩⟩
        | exact ⟨A, ⟨cp, by rw [hdt]; rfl⟩, xs, hT, hF, hL, hC, T.out.ck⟩
        | trace_state
end Go.Proofs.YtmcpkhknjdiocaaGreatDoor
