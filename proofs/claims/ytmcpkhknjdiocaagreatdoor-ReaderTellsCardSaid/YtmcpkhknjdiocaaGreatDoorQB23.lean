/- The document's pages read: kind 2. The document's pages read: kind 3. The document's pages read: kind 4. The document's pages read: kind 5. -/
import Derived.Test.YtmcpkhknjdiocaaGreatDoorQB22
set_option linter.unusedSimpArgs false
set_option linter.unusedVariables false
namespace Go.Proofs.YtmcpkhknjdiocaaGreatDoor
open Go.RowKit
attribute [local go_sem low] mk_extract
attribute [local go_sem] After.cell After.frozen mk_extract_end ByteArray.mk_append_mk
/-- Keys and kids that are read, of a page in the making. -/
structure Kk2 (w : World) (g : Nat) (kd : Int) (b3 : Nat) (ks : List Txt) (ds : List Int) (c : Sp.Cut) (v2 v3 : Value) (W : World) : Prop where
  m : MkS w g c PageT w.heap.size #[.int .i64 0, .slice none 0 0, .slice none 0 0, .slice none 0 0, .string ⟨#[]⟩, .slice none 0 0, .slice none 0 0, .int .i64 0, .int .u64 0, .int .i64 0, .int .i64 0, .int .i64 0, .int .i64 0, .int .i64 0] b3 #[.int .i64 kd, .slice none 0 0, v2, v3, .string ⟨#[]⟩, .slice none 0 0, .slice none 0 0, .int .i64 0, .int .u64 0, .int .i64 0, .int .i64 0, .int .i64 0, .int .i64 0, .int .i64 0] W
  o2 : W.ownsRow (b3 + 1) StrT 1 v2 ks.length (ks.map tv)
  o3 : W.ownsRow (b3 + 1) IntT 1 v3 ds.length (ds.map iv)
theorem own_apart2 {w : World} {base : Nat} {e t : TypeId} {s1 s2 n m : Nat} {v u : Value} {xs ys : List Value} (h : w.ownsRow base e s1 v n xs) (h2 : w.ownsRow base t s2 u m ys) (hne : e ≠ t) : ∀ k, u.ownBlock = some k → ¬ v.ownBlock = some k := fun k e1 e2 => by
  obtain ⟨cs, hb⟩ : ∃ cs, Blk w k t cs := by
    rcases h2.2 with ⟨rfl, _⟩ | ⟨g', cap, cur, rfl, _, hh, _⟩
    · simp [Value.ownBlock] at e1
    · have : g' = k := by simpa [Value.ownBlock] using e1
      subst this
      exact ⟨_, hh⟩
  exact own_not h hne k e2 _ hb
set_option maxRecDepth 100000 in
set_option maxHeartbeats 6400000 in
theorem dPage2 (g : Nat) (c : Sp.Cut) (w : World) (hs : c.s.length ≤ 4611686018427387904) (hc : DCut w g c.s c.bad) (hk : (Sp.Cut.int 6 c).1 = 2) :
    Calls Tryz.prog 148 #[.pointer (some ⟨g, 0, none⟩)] w fun e w' => DPageOut g c w e w' := by
  have hgw := hc.lt
  have hsz0 : w.heap.size < w.heap.size + 1 := by omega
  have P := Lib.hid (show PreS w g c PageT w.heap.size #[.int .i64 0, .slice none 0 0, .slice none 0 0, .slice none 0 0, .string ⟨#[]⟩, .slice none 0 0, .slice none 0 0, .int .i64 0, .int .u64 0, .int .i64 0, .int .i64 0, .int .i64 0, .int .i64 0, .int .i64 0] (w.alloc (.cells #[.int .i64 0, .slice none 0 0, .slice none 0 0, .slice none 0 0, .string ⟨#[]⟩, .slice none 0 0, .slice none 0 0, .int .i64 0, .int .u64 0, .int .i64 0, .int .i64 0, .int .i64 0, .int .i64 0, .int .i64 0] PageT)) from ⟨Blk.alloc hc _, (Chg.refl _ _).alloc _, Blk.new _ _ _, Nat.le_refl _, hgw, hs⟩)
  clear hc hs
  have hkr := Sp.Cut.int_rng 6 (by omega) c
  have hmk : ∀ (x : Sp.Page) (d : Sp.Cut), c.dpage = (x, d) → ∀ (r : Refs) (e : Ending) (w' : World), e = .returned (.agg (pageV x r).toArray) → (∀ M : Nat → Prop, (∀ k, w.heap.size ≤ k → ¬ M k) → PageRd w' M x r) → DCut w' g d.s d.bad → Chg (OneM g) w w' → DPageOut g c w e w' := fun x d h r e w' he ht hd hk => by
    unfold DPageOut
    rw [h]
    exact ⟨r, he, ht, hd, hk⟩
  have HMK := Lib.hid hmk
  clear hmk
  have HDF := Lib.hid (show c.dpage = (⟨(Sp.Cut.int 6 c).1, [], (Sp.Cut.int 6 c).2.dkeys.1.1, (Sp.Cut.int 6 c).2.dkeys.1.2, [], [], [], 0, Sp.mt0⟩, (Sp.Cut.int 6 c).2.dkeys.2) by unfold Sp.Cut.dpage; rw [if_neg (by omega), if_pos hk])
  have HIN := Lib.hid (fun w hs h => dInt_any 6 (by omega) (by omega) g c.s c.bad w hs h)
  have HIL := Lib.hid (Sp.Cut.int_len 6 c)
  rw [show (⟨c.s, c.bad⟩ : Sp.Cut) = c from rfl] at HIN
  generalize Sp.Cut.int 6 c = kdc at *
  obtain ⟨kd, c2⟩ := kdc
  dsimp only at *
  have e1 : (kd == 1) = false := by rw [beq_eq_false_iff_ne]; omega
  have e2 : (kd == 2) = true := beq_iff_eq.2 hk
  have HKR := Lib.hid hkr
  clear hk hkr
  go_enter Tryz.func148, Tryz.ntmps148
  go_upto_region 1 with fail
  go_cut [3] (fun s3 W => ∃ b3, s3 = .pointer (some ⟨b3, 0, none⟩) ∧ w.heap.size < b3 ∧ MkS w g c2 PageT w.heap.size #[.int .i64 0, .slice none 0 0, .slice none 0 0, .slice none 0 0, .string ⟨#[]⟩, .slice none 0 0, .slice none 0 0, .int .i64 0, .int .u64 0, .int .i64 0, .int .i64 0, .int .i64 0, .int .i64 0, .int .i64 0] b3 #[.int .i64 kd, .slice none 0 0, .slice none 0 0, .slice none 0 0, .string ⟨#[]⟩, .slice none 0 0, .slice none 0 0, .int .i64 0, .int .u64 0, .int .i64 0, .int .i64 0, .int .i64 0, .int .i64 0, .int .i64 0] W)
  case first =>
    go_wp2_with (first
      | (go_at_call 168; refine (HIN.out _ P.out.hl P.out.dc).mono ?_; rintro e w1 ⟨rfl, hc1, hk1⟩; replace P := Lib.hid (P.out.call (c' := c2) hc1 hk1 HIL.out); clear hc1 hk1)
      | (refine wpList_new PageT _ _ rfl rfl rfl rfl rfl rfl _ rfl (of_decide_eq_true (by kernel_rfl)) (by kernel_rfl) (by kernel_rfl) (by kernel_rfl) ?_))
    go_meet
    case rel => exact ⟨_, rfl, P.out.z2.lt, P.out.new _⟩
  case rest =>
    obtain ⟨b3, rfl, hb3, hm⟩ := hcut
    have S := Lib.hid hm
    clear hm P
    obtain ⟨W1, rfl⟩ : ∃ W, W = wc := ⟨_, rfl⟩
    have q0 := S.out.z3.cell 0
    simp at q0
    obtain ⟨i0, hi0, hz0, hz1, hz2⟩ := info_parts info_str
    obtain ⟨i2, hi2, hy0, hy1, hy2⟩ := info_parts info_int
    have hr2 := Sp.Cut.int_rng 4 (by omega) c2
    have HD2 := Lib.hid (fun l d' (h : Sp.eachN Sp.dkeyStep (Sp.Cut.int 4 c2).1.toNat (([], []), (Sp.Cut.int 4 c2).2) = (l, d')) => (show c2.dkeys = (l, d') from h))
    have HIL2 := Lib.hid (Sp.Cut.int_len 4 c2)
    have HIN2 := Lib.hid (fun w hs h => dInt_any 4 (by omega) (by omega) g c2.s c2.bad w hs h)
    rw [show (⟨c2.s, c2.bad⟩ : Sp.Cut) = c2 from rfl] at HIN2
    generalize Sp.Cut.int 4 c2 = nd2 at *
    obtain ⟨n, d⟩ := nd2
    dsimp only at hr2 HIL2 HIN2 HD2
    obtain ⟨hn0, hn1⟩ := hr2
    go_upto_region 12 with (go_at_call 168; refine (HIN2.out _ S.out.p.hl S.out.p.dc).mono ?_; rintro e w1 ⟨rfl, hc1, hk1⟩; replace S := Lib.hid (S.out.call (c' := d) hc1 hk1 HIL2.out); have q0 := S.out.z3.cell 0; simp at q0; clear hc1 hk1)
    go_wp2_with fail
    go_loopw [6] (fun i wr => ∃ (k : Nat) (ks : List Txt) (ds : List Int) (c' : Sp.Cut) (v2 v3 : Value), (k : Int) ≤ n ∧ i = .int .i64 k ∧ Hid (Sp.eachN Sp.dkeyStep k (([], []), d) = ((ks, ds), c') ∧ ks.length ≤ k ∧ ds.length ≤ k) ∧ Kk2 w g kd b3 ks ds c' v2 v3 wr) (fun i _ => (n - intOf i).toNat)
    case atStart => exact ⟨0, [], [], d, .slice none 0 0, .slice none 0 0, hn0, rfl, ⟨rfl, Nat.le_refl _, Nat.le_refl _⟩, S.out, World.ownsRow_nil _ _ _ _, World.ownsRow_nil _ _ _ _⟩
    case round =>
      obtain ⟨k, ks, ds, c', v2, v3, hk, rfl, he, ht⟩ := hrel
      have T := Lib.hid ht
      have q1 := ht.m.p.dc.cell 1
      simp at q1
      have q3 := ht.m.z3.cell 2
      have f3 := ht.m.z3.frozen 2
      simp at q3
      have hbw := ht.m.z3.lt
      clear ht S q0
      by_cases hlt : (k : Int) < n
      · rcases hb : c'.bad with _ | _
        · rw [hb] at q1
          have HB := Lib.hid hb
          clear hb
          have OWN := Lib.hid T.out.o2
          have OTH := Lib.hid T.out.o3
          have hLg : b3 ≠ g := by omega
          go_upto_region 15 with fail
          go_cut [3] (fun s3 W => s3 = .pointer (some ⟨b3, 0, none⟩) ∧ ∃ v2', Kk2 w g kd b3 (ks ++ [c'.text.1]) ds c'.text.2 v2' v3 W)
          case first =>
            go_region_law (first
              | (go_simp; go_at_call 170; refine (dCutText_any g c'.s c'.bad _ T.out.m.p.hl ?_).mono ?_; exact Blk.drew T.out.m.p.dc; rintro e w5 ⟨rfl, hc5, hk5⟩; rw [show (⟨c'.s, c'.bad⟩ : Sp.Cut) = c' from rfl] at *; have hk6 : Chg (OneM g) wr w5 := Chg.trans ((Chg.refl _ _).drew) hk5; have HL1 := Lib.hid (Blk.chg (S := OneM g) T.out.m.z3 hk6 hLg); have qL1 := HL1.out.cell 2; simp at qL1; have fqL1 := HL1.out.frozen 2; have hzw := hk6.size; have hLw1 := Nat.lt_of_lt_of_le hbw hzw)
              | (refine step_append_lies _ rfl (.tmp 58) (.tmp 61) _ rfl (b3 + 1) StrT i0 _ 1 16 Tryz.underlying26 hi0 hz0 hz1 hz2 rfl (by omega) v2 ks.length (ks.map tv) rfl ?_ _ 1 1 [tv c'.text.1] rfl rfl ?_ ?_ (by omega) ?_ ?_ ?_ _ rfl ?_; (exact own_chg OWN.out (hk6.alloc _) (fun k hk e => by unfold OneM at e; omega)); (exact cell_one_new _ _ _); (exact fun u hu => by rw [List.mem_singleton.1 hu]; rfl); (have := he.out.2.1; have := he.out.2.2; simp only [maxLen]; omega); (have := he.out.2.1; have := he.out.2.2; omega); (first | omega | (simp; done) | (simp; omega)); (intro g2 cap2 w8 hown8 hgr8 hat8 hlt8; have h8 := after_append OWN.out hgr8 (Nat.lt_succ_self _) HL1.out; have HL8 := Lib.hid h8.1; have hk8 := h8.2; clear h8; have qL8 := HL8.out.cell 2; simp at qL8; have fqL8 := HL8.out.frozen 2)))
            all_goals
              have hnx : Kk2 w g kd b3 (ks ++ [c'.text.1]) (ds) c'.text.2 (.slice (some ⟨g2, 0, none⟩) (ks.length + 1) cap2) v3 (w8.setCell ⟨b3, 2, none⟩ (.slice (some ⟨g2, 0, none⟩) (ks.length + 1) cap2)) := by
                have hownk : ∀ k, v2.ownBlock = some k → b3 + 1 ≤ k := fun k e => (OWN.out.lt k e).1
                have hck := T.out.m.p.ck
                have hA := (Chg.refl NoM w5).alloc (.cells #[tv c'.text.1] StrT)
                have hown5 := own_chg OWN.out (hk6.alloc (.cells #[tv c'.text.1] StrT)) (fun k hk e => by unfold OneM at e; omega)
                have hoth5 := own_chg OTH.out (hk6.alloc (.cells #[tv c'.text.1] StrT)) (fun k hk e => by unfold OneM at e; omega)
                refine ⟨⟨⟨?_, ?_, ?_, T.out.m.p.h2, T.out.m.p.hg, Nat.le_trans (Sp.Cut.text_len _) T.out.m.p.hl⟩, ?_, T.out.m.h3, T.out.m.hne⟩, ?_, ?_⟩
                · exact Blk.far (DCut.chg (Blk.alloc hc5 _) hk8 (fun h => by have := hownk _ h; omega)) (p := ⟨b3, 2, none⟩) (fun e => hLg e.symm) _
                · exact (Chg.step hk8 (fun i hi => .inr (by have := hownk i hi; omega)) ((hck.trans hk6).alloc _)).setCell (p := ⟨b3, 2, none⟩) (.inr (by show w.heap.size ≤ b3; omega)) _
                · exact Blk.far (((T.out.m.p.z2.chg hk6 (by unfold OneM; omega)).alloc _).chg hk8 (fun h => by have := hownk _ h; omega)) (p := ⟨b3, 2, none⟩) (by show w.heap.size ≠ b3; omega) _
                · exact HL8.out.set_ 2 (.slice (some ⟨g2, 0, none⟩) (ks.length + 1) cap2)
                · rw [List.map_append, List.length_append]
                  exact own_chg hown8 (Chg.set1 _ b3 2 _) (fun k hk e => by unfold OneM at e; omega)
                · exact own_chg (own_chg2 hoth5 hk8 (own_apart2 hown5 hoth5 (by decide))) (Chg.set1 _ b3 2 _) (fun k hk e => by unfold OneM at e; omega)
              have HNX := Lib.hid hnx
              clear hnx hown8 hgr8 hat8 hlt8 hk8 HL8 qL8 fqL8 hc5 hk5 hk6 HL1 qL1 fqL1 q1 q3 f3
              generalize w8.setCell ⟨b3, 2, none⟩ (.slice (some ⟨g2, 0, none⟩) (ks.length + 1) cap2) = w9 at *
              go_wp2_with fail
              go_meet
              case rel => exact ⟨rfl, _, HNX.out⟩
          case rest =>
            obtain ⟨rfl, v2', hm⟩ := hcut
            obtain ⟨wk, rfl⟩ : ∃ W, W = wc := ⟨_, rfl⟩
            have q3 := hm.m.z3.cell 3
            have f3 := hm.m.z3.frozen 3
            simp at q3
            have hbw := hm.m.z3.lt
            clear T OWN OTH
            have T := Lib.hid hm
            have OWN := Lib.hid hm.o3
            have OTH := Lib.hid hm.o2
            clear hm
            go_upto_region 16 with fail
            go_region_law (first
              | (go_simp; go_at_call 168; refine (dInt_any 400 (by omega) (by omega) g c'.text.2.s c'.text.2.bad _ T.out.m.p.hl ?_).mono ?_; exact Blk.drew T.out.m.p.dc; rintro e w5 ⟨rfl, hc5, hk5⟩; rw [show (⟨c'.text.2.s, c'.text.2.bad⟩ : Sp.Cut) = c'.text.2 from rfl] at *; have hk6 : Chg (OneM g) wk w5 := Chg.trans ((Chg.refl _ _).drew) hk5; have HL1 := Lib.hid (Blk.chg (S := OneM g) T.out.m.z3 hk6 hLg); have qL1 := HL1.out.cell 3; simp at qL1; have fqL1 := HL1.out.frozen 3; have hzw := hk6.size; have hLw1 := Nat.lt_of_lt_of_le hbw hzw)
              | (refine step_append_lies _ rfl (.tmp 65) (.tmp 68) _ rfl (b3 + 1) IntT i2 _ 1 8 Tryz.underlying77 hi2 hy0 hy1 hy2 rfl (by omega) v3 ds.length (ds.map iv) rfl ?_ _ 1 1 [iv (Sp.Cut.int 400 c'.text.2).1] rfl rfl ?_ ?_ (by omega) ?_ ?_ ?_ _ rfl ?_; (exact own_chg OWN.out (hk6.alloc _) (fun k hk e => by unfold OneM at e; omega)); (exact cell_one_new _ _ _); (exact fun u hu => by rw [List.mem_singleton.1 hu]; rfl); (have := he.out.2.1; have := he.out.2.2; simp only [maxLen]; omega); (have := he.out.2.1; have := he.out.2.2; omega); (first | omega | (simp; done) | (simp; omega)); (intro g2 cap2 w8 hown8 hgr8 hat8 hlt8; have h8 := after_append OWN.out hgr8 (Nat.lt_succ_self _) HL1.out; have HL8 := Lib.hid h8.1; have hk8 := h8.2; clear h8; have qL8 := HL8.out.cell 3; simp at qL8; have fqL8 := HL8.out.frozen 3)))
            all_goals
              have hnx : Kk2 w g kd b3 (ks ++ [c'.text.1]) (ds ++ [(Sp.Cut.int 400 c'.text.2).1]) (Sp.Cut.int 400 c'.text.2).2 v2' (.slice (some ⟨g2, 0, none⟩) (ds.length + 1) cap2) (w8.setCell ⟨b3, 3, none⟩ (.slice (some ⟨g2, 0, none⟩) (ds.length + 1) cap2)) := by
                have hownk : ∀ k, v3.ownBlock = some k → b3 + 1 ≤ k := fun k e => (OWN.out.lt k e).1
                have hck := T.out.m.p.ck
                have hA := (Chg.refl NoM w5).alloc (.cells #[iv (Sp.Cut.int 400 c'.text.2).1] IntT)
                have hown5 := own_chg OWN.out (hk6.alloc (.cells #[iv (Sp.Cut.int 400 c'.text.2).1] IntT)) (fun k hk e => by unfold OneM at e; omega)
                have hoth5 := own_chg OTH.out (hk6.alloc (.cells #[iv (Sp.Cut.int 400 c'.text.2).1] IntT)) (fun k hk e => by unfold OneM at e; omega)
                refine ⟨⟨⟨?_, ?_, ?_, T.out.m.p.h2, T.out.m.p.hg, Nat.le_trans (Sp.Cut.int_len _ _) T.out.m.p.hl⟩, ?_, T.out.m.h3, T.out.m.hne⟩, ?_, ?_⟩
                · exact Blk.far (DCut.chg (Blk.alloc hc5 _) hk8 (fun h => by have := hownk _ h; omega)) (p := ⟨b3, 3, none⟩) (fun e => hLg e.symm) _
                · exact (Chg.step hk8 (fun i hi => .inr (by have := hownk i hi; omega)) ((hck.trans hk6).alloc _)).setCell (p := ⟨b3, 3, none⟩) (.inr (by show w.heap.size ≤ b3; omega)) _
                · exact Blk.far (((T.out.m.p.z2.chg hk6 (by unfold OneM; omega)).alloc _).chg hk8 (fun h => by have := hownk _ h; omega)) (p := ⟨b3, 3, none⟩) (by show w.heap.size ≠ b3; omega) _
                · exact HL8.out.set_ 3 (.slice (some ⟨g2, 0, none⟩) (ds.length + 1) cap2)
                · exact own_chg (own_chg2 hoth5 hk8 (own_apart2 hown5 hoth5 (by decide))) (Chg.set1 _ b3 3 _) (fun k hk e => by unfold OneM at e; omega)
                · rw [List.map_append, List.length_append]
                  exact own_chg hown8 (Chg.set1 _ b3 3 _) (fun k hk e => by unfold OneM at e; omega)
              have HNX := Lib.hid hnx
              clear hnx hown8 hgr8 hat8 hlt8 hk8 HL8 qL8 fqL8 hc5 hk5 hk6 HL1 qL1 fqL1 q1 q3 f3
              generalize w8.setCell ⟨b3, 3, none⟩ (.slice (some ⟨g2, 0, none⟩) (ds.length + 1) cap2) = w9 at *
              go_wp2_with fail
              go_roundw
              case rel =>
                refine ⟨k + 1, ks ++ [c'.text.1], ds ++ [(Sp.Cut.int 400 c'.text.2).1], (Sp.Cut.int 400 c'.text.2).2, _, _, by omega, by go_num, ⟨?_, ?_, ?_⟩, HNX.out⟩
                · rw [Sp.eachN_succ _ _ _ (by rw [he.out.1]; exact HB.out), he.out.1]
                  rfl
                · have := he.out.2; simp; omega
                · have := he.out.2; simp; omega
              case measure => simp [intOf]; omega
        · rw [hb] at q1
          have HB := Lib.hid hb
          clear hb
          clear q3 f3
          go_upto_region 29 with fail
          have HO2 := Lib.hid T.out.o2
          have HO3 := Lib.hid T.out.o3
          obtain ⟨A, cp, hv⟩ := own_form T.out.o2
          obtain ⟨A3, cp3, hv3⟩ := own_form T.out.o3
          subst hv hv3
          have hdt := HD2.out (ks, ds) c' ((Sp.eachN_end (f := Sp.dkeyStep) (s := (([], []), d)) (k := k) (n := n.toNat) (by omega) (.inr (by rw [he.out.1]; exact HB.out))).trans he.out.1)
          rw [hdt] at HDF
          clear hdt
          have S := Lib.hid T.out.m
          go_wp2_with (first
            | (refine wpList_row PageT _ rfl b3 rfl rfl PageT _ (0, 0) _ S.out.z3 Tryz.underlying119 rfl rfl ?_)
            | (refine wpList_store_row rfl PageT _ _ rfl w.heap.size _ rfl rfl PageT _ S.out.p.z2 (by kernel_rfl) rfl (by kernel_rfl) ?_))
          have hD := S.out.done
          obtain ⟨⟨z0, z1, z2, z3, z4, z5, z6, z7, z8, z9, z10, z11, z12, z13⟩, _⟩ := hD.2.2.at14
          refine bodyPost_ret (v := .agg #[.int .i64 kd, .slice none 0 0, .slice A ks.length cp, .slice A3 ds.length cp3, .string ⟨#[]⟩, .slice none 0 0, .slice none 0 0, .int .i64 0, .int .u64 0, .int .i64 0, .int .i64 0, .int .i64 0, .int .i64 0, .int .i64 0]) (by simp [results, Tryz.results148, go_sem, z0, z1, z2, z3, z4, z5, z6, z7, z8, z9, z10, z11, z12, z13]) rfl (HMK.out _ _ HDF.out (⟨none, A, A3, none, none, 0, cp, cp3, 0, 0⟩) _ _ rfl (fun M hM => ⟨Items.nil_, TRow.row ((TRow.less (base := b3 + 1) (TRow.of_own HO2.out (by have := he.out.2; simp; omega)) (by omega)).chg (chg_setRow1 _ _ _) (fun k _ e => by unfold OneM at e; subst e; exact Blk.not_ S.out.p.z2 (by decide))) hM, TRow.row ((TRow.less (base := b3 + 1) (TRow.of_own HO3.out (by have := he.out.2; simp; omega)) (by omega)).chg (chg_setRow1 _ _ _) (fun k _ e => by unfold OneM at e; subst e; exact Blk.not_ S.out.p.z2 (by decide))) hM, Row.nil_, Frees.nil_, by simp [Sp.mt0]⟩) hD.1 hD.2.1)
      · clear q3 f3
        go_upto_region 29 with fail
        have HO2 := Lib.hid T.out.o2
        have HO3 := Lib.hid T.out.o3
        obtain ⟨A, cp, hv⟩ := own_form T.out.o2
        obtain ⟨A3, cp3, hv3⟩ := own_form T.out.o3
        subst hv hv3
        have hdt := HD2.out (ks, ds) c' ((Sp.eachN_end (f := Sp.dkeyStep) (s := (([], []), d)) (k := k) (n := n.toNat) (by omega) (.inl (by omega))).trans he.out.1)
        rw [hdt] at HDF
        clear hdt
        have S := Lib.hid T.out.m
        go_wp2_with (first
          | (refine wpList_row PageT _ rfl b3 rfl rfl PageT _ (0, 0) _ S.out.z3 Tryz.underlying119 rfl rfl ?_)
          | (refine wpList_store_row rfl PageT _ _ rfl w.heap.size _ rfl rfl PageT _ S.out.p.z2 (by kernel_rfl) rfl (by kernel_rfl) ?_))
        have hD := S.out.done
        obtain ⟨⟨z0, z1, z2, z3, z4, z5, z6, z7, z8, z9, z10, z11, z12, z13⟩, _⟩ := hD.2.2.at14
        refine bodyPost_ret (v := .agg #[.int .i64 kd, .slice none 0 0, .slice A ks.length cp, .slice A3 ds.length cp3, .string ⟨#[]⟩, .slice none 0 0, .slice none 0 0, .int .i64 0, .int .u64 0, .int .i64 0, .int .i64 0, .int .i64 0, .int .i64 0, .int .i64 0]) (by simp [results, Tryz.results148, go_sem, z0, z1, z2, z3, z4, z5, z6, z7, z8, z9, z10, z11, z12, z13]) rfl (HMK.out _ _ HDF.out (⟨none, A, A3, none, none, 0, cp, cp3, 0, 0⟩) _ _ rfl (fun M hM => ⟨Items.nil_, TRow.row ((TRow.less (base := b3 + 1) (TRow.of_own HO2.out (by have := he.out.2; simp; omega)) (by omega)).chg (chg_setRow1 _ _ _) (fun k _ e => by unfold OneM at e; subst e; exact Blk.not_ S.out.p.z2 (by decide))) hM, TRow.row ((TRow.less (base := b3 + 1) (TRow.of_own HO3.out (by have := he.out.2; simp; omega)) (by omega)).chg (chg_setRow1 _ _ _) (fun k _ e => by unfold OneM at e; subst e; exact Blk.not_ S.out.p.z2 (by decide))) hM, Row.nil_, Frees.nil_, by simp [Sp.mt0]⟩) hD.1 hD.2.1)
end Go.Proofs.YtmcpkhknjdiocaaGreatDoor
namespace Go.Proofs.YtmcpkhknjdiocaaGreatDoor
open Go.RowKit
attribute [local go_sem low] mk_extract
attribute [local go_sem] After.cell After.frozen mk_extract_end ByteArray.mk_append_mk
set_option maxRecDepth 100000 in
set_option maxHeartbeats 6400000 in
theorem dPage3 (g : Nat) (c : Sp.Cut) (w : World) (hs : c.s.length ≤ 4611686018427387904) (hc : DCut w g c.s c.bad) (hk : (Sp.Cut.int 6 c).1 = 3) :
    Calls Tryz.prog 148 #[.pointer (some ⟨g, 0, none⟩)] w fun e w' => DPageOut g c w e w' := by
  have hgw := hc.lt
  have hsz0 : w.heap.size < w.heap.size + 1 := by omega
  have P := Lib.hid (show PreS w g c PageT w.heap.size #[.int .i64 0, .slice none 0 0, .slice none 0 0, .slice none 0 0, .string ⟨#[]⟩, .slice none 0 0, .slice none 0 0, .int .i64 0, .int .u64 0, .int .i64 0, .int .i64 0, .int .i64 0, .int .i64 0, .int .i64 0] (w.alloc (.cells #[.int .i64 0, .slice none 0 0, .slice none 0 0, .slice none 0 0, .string ⟨#[]⟩, .slice none 0 0, .slice none 0 0, .int .i64 0, .int .u64 0, .int .i64 0, .int .i64 0, .int .i64 0, .int .i64 0, .int .i64 0] PageT)) from ⟨Blk.alloc hc _, (Chg.refl _ _).alloc _, Blk.new _ _ _, Nat.le_refl _, hgw, hs⟩)
  clear hc hs
  have hkr := Sp.Cut.int_rng 6 (by omega) c
  have hmk : ∀ (x : Sp.Page) (d : Sp.Cut), c.dpage = (x, d) → ∀ (r : Refs) (e : Ending) (w' : World), e = .returned (.agg (pageV x r).toArray) → (∀ M : Nat → Prop, (∀ k, w.heap.size ≤ k → ¬ M k) → PageRd w' M x r) → DCut w' g d.s d.bad → Chg (OneM g) w w' → DPageOut g c w e w' := fun x d h r e w' he ht hd hk => by
    unfold DPageOut
    rw [h]
    exact ⟨r, he, ht, hd, hk⟩
  have HMK := Lib.hid hmk
  clear hmk
  have HDF := Lib.hid (show c.dpage = (⟨(Sp.Cut.int 6 c).1, [], [], [], (Sp.Cut.int 6 c).2.text.1, [], [], 0, Sp.mt0⟩, (Sp.Cut.int 6 c).2.text.2) by unfold Sp.Cut.dpage; rw [if_neg (by omega), if_neg (by omega), if_pos hk])
  have HIN := Lib.hid (fun w hs h => dInt_any 6 (by omega) (by omega) g c.s c.bad w hs h)
  have HIL := Lib.hid (Sp.Cut.int_len 6 c)
  rw [show (⟨c.s, c.bad⟩ : Sp.Cut) = c from rfl] at HIN
  generalize Sp.Cut.int 6 c = kdc at *
  obtain ⟨kd, c2⟩ := kdc
  dsimp only at *
  have e1 : (kd == 1) = false := by rw [beq_eq_false_iff_ne]; omega
  have e2 : (kd == 2) = false := by rw [beq_eq_false_iff_ne]; omega
  have e3 : (kd == 3) = true := beq_iff_eq.2 hk
  have HKR := Lib.hid hkr
  clear hk hkr
  go_enter Tryz.func148, Tryz.ntmps148
  go_upto_region 1 with fail
  go_cut [3] (fun s3 W => ∃ b3, s3 = .pointer (some ⟨b3, 0, none⟩) ∧ w.heap.size < b3 ∧ MkS w g c2 PageT w.heap.size #[.int .i64 0, .slice none 0 0, .slice none 0 0, .slice none 0 0, .string ⟨#[]⟩, .slice none 0 0, .slice none 0 0, .int .i64 0, .int .u64 0, .int .i64 0, .int .i64 0, .int .i64 0, .int .i64 0, .int .i64 0] b3 #[.int .i64 kd, .slice none 0 0, .slice none 0 0, .slice none 0 0, .string ⟨#[]⟩, .slice none 0 0, .slice none 0 0, .int .i64 0, .int .u64 0, .int .i64 0, .int .i64 0, .int .i64 0, .int .i64 0, .int .i64 0] W)
  case first =>
    go_wp2_with (first
      | (go_at_call 168; refine (HIN.out _ P.out.hl P.out.dc).mono ?_; rintro e w1 ⟨rfl, hc1, hk1⟩; replace P := Lib.hid (P.out.call (c' := c2) hc1 hk1 HIL.out); clear hc1 hk1)
      | (refine wpList_new PageT _ _ rfl rfl rfl rfl rfl rfl _ rfl (of_decide_eq_true (by kernel_rfl)) (by kernel_rfl) (by kernel_rfl) (by kernel_rfl) ?_))
    go_meet
    case rel => exact ⟨_, rfl, P.out.z2.lt, P.out.new _⟩
  case rest =>
    obtain ⟨b3, rfl, hb3, hm⟩ := hcut
    have S := Lib.hid hm
    clear hm P
    obtain ⟨W1, rfl⟩ : ∃ W, W = wc := ⟨_, rfl⟩
    have q0 := S.out.z3.cell 0
    simp at q0
    go_upto_region 29 with (go_at_call 170; refine (dCutText_any g c2.s c2.bad _ S.out.p.hl S.out.p.dc).mono ?_; rintro e w1 ⟨rfl, hc1, hk1⟩; rw [show (⟨c2.s, c2.bad⟩ : Sp.Cut) = c2 from rfl] at *; replace S := Lib.hid (S.out.call (c' := c2.text.2) hc1 hk1 c2.text_len); have q1 := S.out.z3.cell 4; have f1 := S.out.z3.frozen 4; simp at q1; clear hc1 hk1)
    refine wp_gen (fun W => MkS w g (c2.text.2) PageT w.heap.size #[.int .i64 0, .slice none 0 0, .slice none 0 0, .slice none 0 0, .string ⟨#[]⟩, .slice none 0 0, .slice none 0 0, .int .i64 0, .int .u64 0, .int .i64 0, .int .i64 0, .int .i64 0, .int .i64 0, .int .i64 0] b3 #[.int .i64 kd, .slice none 0 0, .slice none 0 0, .slice none 0 0, .string ⟨c2.text.1.toArray⟩, .slice none 0 0, .slice none 0 0, .int .i64 0, .int .u64 0, .int .i64 0, .int .i64 0, .int .i64 0, .int .i64 0, .int .i64 0] W ∧ True) ⟨S.out.set 4 _, trivial⟩ ?_
    intro W3 hm
    clear S
    try clear q0
    try clear q1 f1
    try clear q2 f2 q3 f3
    have S := Lib.hid hm.1
    have HT := Lib.hid hm.2
    clear hm
    go_wp2_with (first
      | (refine wpList_row PageT _ rfl b3 rfl rfl PageT _ (0, 0) _ S.out.z3 Tryz.underlying119 rfl rfl ?_)
      | (refine wpList_store_row rfl PageT _ _ rfl w.heap.size _ rfl rfl PageT _ S.out.p.z2 (by kernel_rfl) rfl (by kernel_rfl) ?_))
    have hD := S.out.done
    obtain ⟨⟨z0, z1, z2, z3, z4, z5, z6, z7, z8, z9, z10, z11, z12, z13⟩, _⟩ := hD.2.2.at14
    refine bodyPost_ret (v := .agg #[.int .i64 kd, .slice none 0 0, .slice none 0 0, .slice none 0 0, .string ⟨c2.text.1.toArray⟩, .slice none 0 0, .slice none 0 0, .int .i64 0, .int .u64 0, .int .i64 0, .int .i64 0, .int .i64 0, .int .i64 0, .int .i64 0]) (by simp [results, Tryz.results148, go_sem, z0, z1, z2, z3, z4, z5, z6, z7, z8, z9, z10, z11, z12, z13]) rfl (HMK.out _ _ HDF.out (⟨none, none, none, none, none, 0, 0, 0, 0, 0⟩) _ _ rfl (fun M hM => ⟨Items.nil_, Row.nil_, Row.nil_, Row.nil_, Frees.nil_, by simp [Sp.mt0]⟩) hD.1 hD.2.1)
end Go.Proofs.YtmcpkhknjdiocaaGreatDoor
namespace Go.Proofs.YtmcpkhknjdiocaaGreatDoor
open Go.RowKit
attribute [local go_sem low] mk_extract
attribute [local go_sem] After.cell After.frozen mk_extract_end ByteArray.mk_append_mk
set_option maxRecDepth 100000 in
set_option maxHeartbeats 6400000 in
theorem dPage4 (g : Nat) (c : Sp.Cut) (w : World) (hs : c.s.length ≤ 4611686018427387904) (hc : DCut w g c.s c.bad) (hk : (Sp.Cut.int 6 c).1 = 4) :
    Calls Tryz.prog 148 #[.pointer (some ⟨g, 0, none⟩)] w fun e w' => DPageOut g c w e w' := by
  have hgw := hc.lt
  have hsz0 : w.heap.size < w.heap.size + 1 := by omega
  have P := Lib.hid (show PreS w g c PageT w.heap.size #[.int .i64 0, .slice none 0 0, .slice none 0 0, .slice none 0 0, .string ⟨#[]⟩, .slice none 0 0, .slice none 0 0, .int .i64 0, .int .u64 0, .int .i64 0, .int .i64 0, .int .i64 0, .int .i64 0, .int .i64 0] (w.alloc (.cells #[.int .i64 0, .slice none 0 0, .slice none 0 0, .slice none 0 0, .string ⟨#[]⟩, .slice none 0 0, .slice none 0 0, .int .i64 0, .int .u64 0, .int .i64 0, .int .i64 0, .int .i64 0, .int .i64 0, .int .i64 0] PageT)) from ⟨Blk.alloc hc _, (Chg.refl _ _).alloc _, Blk.new _ _ _, Nat.le_refl _, hgw, hs⟩)
  clear hc hs
  have hkr := Sp.Cut.int_rng 6 (by omega) c
  have hmk : ∀ (x : Sp.Page) (d : Sp.Cut), c.dpage = (x, d) → ∀ (r : Refs) (e : Ending) (w' : World), e = .returned (.agg (pageV x r).toArray) → (∀ M : Nat → Prop, (∀ k, w.heap.size ≤ k → ¬ M k) → PageRd w' M x r) → DCut w' g d.s d.bad → Chg (OneM g) w w' → DPageOut g c w e w' := fun x d h r e w' he ht hd hk => by
    unfold DPageOut
    rw [h]
    exact ⟨r, he, ht, hd, hk⟩
  have HMK := Lib.hid hmk
  clear hmk
  have HDF := Lib.hid (show c.dpage = (⟨(Sp.Cut.int 6 c).1, [], [], [], [], (Sp.Cut.dtexts 12 (Sp.Cut.int 6 c).2).1, [], 0, Sp.mt0⟩, (Sp.Cut.dtexts 12 (Sp.Cut.int 6 c).2).2) by unfold Sp.Cut.dpage; rw [if_neg (by omega), if_neg (by omega), if_neg (by omega), if_pos hk])
  have HIN := Lib.hid (fun w hs h => dInt_any 6 (by omega) (by omega) g c.s c.bad w hs h)
  have HIL := Lib.hid (Sp.Cut.int_len 6 c)
  rw [show (⟨c.s, c.bad⟩ : Sp.Cut) = c from rfl] at HIN
  generalize Sp.Cut.int 6 c = kdc at *
  obtain ⟨kd, c2⟩ := kdc
  dsimp only at *
  have e1 : (kd == 1) = false := by rw [beq_eq_false_iff_ne]; omega
  have e2 : (kd == 2) = false := by rw [beq_eq_false_iff_ne]; omega
  have e3 : (kd == 3) = false := by rw [beq_eq_false_iff_ne]; omega
  have e4 : (kd == 4) = true := beq_iff_eq.2 hk
  have HKR := Lib.hid hkr
  clear hk hkr
  go_enter Tryz.func148, Tryz.ntmps148
  go_upto_region 1 with fail
  go_cut [3] (fun s3 W => ∃ b3, s3 = .pointer (some ⟨b3, 0, none⟩) ∧ w.heap.size < b3 ∧ MkS w g c2 PageT w.heap.size #[.int .i64 0, .slice none 0 0, .slice none 0 0, .slice none 0 0, .string ⟨#[]⟩, .slice none 0 0, .slice none 0 0, .int .i64 0, .int .u64 0, .int .i64 0, .int .i64 0, .int .i64 0, .int .i64 0, .int .i64 0] b3 #[.int .i64 kd, .slice none 0 0, .slice none 0 0, .slice none 0 0, .string ⟨#[]⟩, .slice none 0 0, .slice none 0 0, .int .i64 0, .int .u64 0, .int .i64 0, .int .i64 0, .int .i64 0, .int .i64 0, .int .i64 0] W)
  case first =>
    go_wp2_with (first
      | (go_at_call 168; refine (HIN.out _ P.out.hl P.out.dc).mono ?_; rintro e w1 ⟨rfl, hc1, hk1⟩; replace P := Lib.hid (P.out.call (c' := c2) hc1 hk1 HIL.out); clear hc1 hk1)
      | (refine wpList_new PageT _ _ rfl rfl rfl rfl rfl rfl _ rfl (of_decide_eq_true (by kernel_rfl)) (by kernel_rfl) (by kernel_rfl) (by kernel_rfl) ?_))
    go_meet
    case rel => exact ⟨_, rfl, P.out.z2.lt, P.out.new _⟩
  case rest =>
    obtain ⟨b3, rfl, hb3, hm⟩ := hcut
    have S := Lib.hid hm
    clear hm P
    obtain ⟨W1, rfl⟩ : ∃ W, W = wc := ⟨_, rfl⟩
    have q0 := S.out.z3.cell 0
    simp at q0
    go_upto_region 29 with (go_at_call 171; refine (dTexts_any 12 (by omega) (by omega) g c2 _ S.out.p.hl S.out.p.dc).mono ?_; rintro e w1 ⟨A, cp, rfl, htr, hc1, hk1⟩; have HTR := Lib.hid (htr.less S.out.p.ck.size); replace S := Lib.hid (S.out.call (c' := (Sp.Cut.dtexts 12 c2).2) hc1 hk1 (Sp.Cut.dtexts_len _ _)); have q1 := S.out.z3.cell 5; have f1 := S.out.z3.frozen 5; simp at q1; clear hc1 hk1 htr)
    refine wp_gen (fun W => MkS w g ((Sp.Cut.dtexts 12 c2).2) PageT w.heap.size #[.int .i64 0, .slice none 0 0, .slice none 0 0, .slice none 0 0, .string ⟨#[]⟩, .slice none 0 0, .slice none 0 0, .int .i64 0, .int .u64 0, .int .i64 0, .int .i64 0, .int .i64 0, .int .i64 0, .int .i64 0] b3 #[.int .i64 kd, .slice none 0 0, .slice none 0 0, .slice none 0 0, .string ⟨#[]⟩, .slice A (Sp.Cut.dtexts 12 c2).1.length cp, .slice none 0 0, .int .i64 0, .int .u64 0, .int .i64 0, .int .i64 0, .int .i64 0, .int .i64 0, .int .i64 0] W ∧ TRow W w.heap.size StrT A ((Sp.Cut.dtexts 12 c2).1.map tv)) ⟨S.out.set 5 _, HTR.out.keep1 (Chg.set1 _ b3 5 _) S.out.z3 (by decide)⟩ ?_
    intro W3 hm
    clear S
    try clear q0
    try clear q1 f1
    try clear q2 f2 q3 f3
    have S := Lib.hid hm.1
    have HT := Lib.hid hm.2
    clear hm
    go_wp2_with (first
      | (refine wpList_row PageT _ rfl b3 rfl rfl PageT _ (0, 0) _ S.out.z3 Tryz.underlying119 rfl rfl ?_)
      | (refine wpList_store_row rfl PageT _ _ rfl w.heap.size _ rfl rfl PageT _ S.out.p.z2 (by kernel_rfl) rfl (by kernel_rfl) ?_))
    have hD := S.out.done
    obtain ⟨⟨z0, z1, z2, z3, z4, z5, z6, z7, z8, z9, z10, z11, z12, z13⟩, _⟩ := hD.2.2.at14
    refine bodyPost_ret (v := .agg #[.int .i64 kd, .slice none 0 0, .slice none 0 0, .slice none 0 0, .string ⟨#[]⟩, .slice A (Sp.Cut.dtexts 12 c2).1.length cp, .slice none 0 0, .int .i64 0, .int .u64 0, .int .i64 0, .int .i64 0, .int .i64 0, .int .i64 0, .int .i64 0]) (by simp [results, Tryz.results148, go_sem, z0, z1, z2, z3, z4, z5, z6, z7, z8, z9, z10, z11, z12, z13]) rfl (HMK.out _ _ HDF.out (⟨none, none, none, A, none, 0, 0, 0, cp, 0⟩) _ _ rfl (fun M hM => ⟨Items.nil_, Row.nil_, Row.nil_, TRow.row (HT.out.keep1 (chg_setRow1 _ _ _) S.out.p.z2 (by decide)) hM, Frees.nil_, by simp [Sp.mt0]⟩) hD.1 hD.2.1)
end Go.Proofs.YtmcpkhknjdiocaaGreatDoor
namespace Go.Proofs.YtmcpkhknjdiocaaGreatDoor
open Go.RowKit
attribute [local go_sem low] mk_extract
attribute [local go_sem] After.cell After.frozen mk_extract_end ByteArray.mk_append_mk
set_option maxRecDepth 100000 in
set_option maxHeartbeats 6400000 in
theorem dPage5 (g : Nat) (c : Sp.Cut) (w : World) (hs : c.s.length ≤ 4611686018427387904) (hc : DCut w g c.s c.bad) (hk : (Sp.Cut.int 6 c).1 = 5) :
    Calls Tryz.prog 148 #[.pointer (some ⟨g, 0, none⟩)] w fun e w' => DPageOut g c w e w' := by
  have hgw := hc.lt
  have hsz0 : w.heap.size < w.heap.size + 1 := by omega
  have P := Lib.hid (show PreS w g c PageT w.heap.size #[.int .i64 0, .slice none 0 0, .slice none 0 0, .slice none 0 0, .string ⟨#[]⟩, .slice none 0 0, .slice none 0 0, .int .i64 0, .int .u64 0, .int .i64 0, .int .i64 0, .int .i64 0, .int .i64 0, .int .i64 0] (w.alloc (.cells #[.int .i64 0, .slice none 0 0, .slice none 0 0, .slice none 0 0, .string ⟨#[]⟩, .slice none 0 0, .slice none 0 0, .int .i64 0, .int .u64 0, .int .i64 0, .int .i64 0, .int .i64 0, .int .i64 0, .int .i64 0] PageT)) from ⟨Blk.alloc hc _, (Chg.refl _ _).alloc _, Blk.new _ _ _, Nat.le_refl _, hgw, hs⟩)
  clear hc hs
  have hkr := Sp.Cut.int_rng 6 (by omega) c
  have hmk : ∀ (x : Sp.Page) (d : Sp.Cut), c.dpage = (x, d) → ∀ (r : Refs) (e : Ending) (w' : World), e = .returned (.agg (pageV x r).toArray) → (∀ M : Nat → Prop, (∀ k, w.heap.size ≤ k → ¬ M k) → PageRd w' M x r) → DCut w' g d.s d.bad → Chg (OneM g) w w' → DPageOut g c w e w' := fun x d h r e w' he ht hd hk => by
    unfold DPageOut
    rw [h]
    exact ⟨r, he, ht, hd, hk⟩
  have HMK := Lib.hid hmk
  clear hmk
  have HDF := Lib.hid (show c.dpage = (⟨(Sp.Cut.int 6 c).1, [], [], [], [], [], (Sp.Cut.int 6 c).2.dfrees.1, (Sp.Cut.int 400 (Sp.Cut.int 6 c).2.dfrees.2).1, Sp.mt0⟩, (Sp.Cut.int 400 (Sp.Cut.int 6 c).2.dfrees.2).2) by unfold Sp.Cut.dpage; rw [if_neg (by omega), if_neg (by omega), if_neg (by omega), if_neg (by omega), if_pos hk])
  have HIN := Lib.hid (fun w hs h => dInt_any 6 (by omega) (by omega) g c.s c.bad w hs h)
  have HIL := Lib.hid (Sp.Cut.int_len 6 c)
  rw [show (⟨c.s, c.bad⟩ : Sp.Cut) = c from rfl] at HIN
  generalize Sp.Cut.int 6 c = kdc at *
  obtain ⟨kd, c2⟩ := kdc
  dsimp only at *
  have e1 : (kd == 1) = false := by rw [beq_eq_false_iff_ne]; omega
  have e2 : (kd == 2) = false := by rw [beq_eq_false_iff_ne]; omega
  have e3 : (kd == 3) = false := by rw [beq_eq_false_iff_ne]; omega
  have e4 : (kd == 4) = false := by rw [beq_eq_false_iff_ne]; omega
  have e5 : (kd == 5) = true := beq_iff_eq.2 hk
  have HKR := Lib.hid hkr
  clear hk hkr
  go_enter Tryz.func148, Tryz.ntmps148
  go_upto_region 1 with fail
  go_cut [3] (fun s3 W => ∃ b3, s3 = .pointer (some ⟨b3, 0, none⟩) ∧ w.heap.size < b3 ∧ MkS w g c2 PageT w.heap.size #[.int .i64 0, .slice none 0 0, .slice none 0 0, .slice none 0 0, .string ⟨#[]⟩, .slice none 0 0, .slice none 0 0, .int .i64 0, .int .u64 0, .int .i64 0, .int .i64 0, .int .i64 0, .int .i64 0, .int .i64 0] b3 #[.int .i64 kd, .slice none 0 0, .slice none 0 0, .slice none 0 0, .string ⟨#[]⟩, .slice none 0 0, .slice none 0 0, .int .i64 0, .int .u64 0, .int .i64 0, .int .i64 0, .int .i64 0, .int .i64 0, .int .i64 0] W)
  case first =>
    go_wp2_with (first
      | (go_at_call 168; refine (HIN.out _ P.out.hl P.out.dc).mono ?_; rintro e w1 ⟨rfl, hc1, hk1⟩; replace P := Lib.hid (P.out.call (c' := c2) hc1 hk1 HIL.out); clear hc1 hk1)
      | (refine wpList_new PageT _ _ rfl rfl rfl rfl rfl rfl _ rfl (of_decide_eq_true (by kernel_rfl)) (by kernel_rfl) (by kernel_rfl) (by kernel_rfl) ?_))
    go_meet
    case rel => exact ⟨_, rfl, P.out.z2.lt, P.out.new _⟩
  case rest =>
    obtain ⟨b3, rfl, hb3, hm⟩ := hcut
    have S := Lib.hid hm
    clear hm P
    obtain ⟨W1, rfl⟩ : ∃ W, W = wc := ⟨_, rfl⟩
    have q0 := S.out.z3.cell 0
    simp at q0
    go_upto_region 23 with (go_at_call 172; refine (dFrees_any g c2 _ S.out.p.hl S.out.p.dc).mono ?_; rintro e w1 ⟨A, cp, xs, rfl, htr, hfc, hfl, hc1, hk1⟩; have HTR := Lib.hid (htr.less S.out.p.ck.size); have HFC := Lib.hid (FrCells.lessF S.out.p.ck.size hfc); have HFL := Lib.hid hfl; replace S := Lib.hid (S.out.call (c' := c2.dfrees.2) hc1 hk1 (Sp.Cut.dfrees_len _)); have q1 := S.out.z3.cell 6; have f1 := S.out.z3.frozen 6; simp at q1; clear hc1 hk1 htr hfc hfl)
    refine wp_gen (fun W => MkS w g (c2.dfrees.2) PageT w.heap.size #[.int .i64 0, .slice none 0 0, .slice none 0 0, .slice none 0 0, .string ⟨#[]⟩, .slice none 0 0, .slice none 0 0, .int .i64 0, .int .u64 0, .int .i64 0, .int .i64 0, .int .i64 0, .int .i64 0, .int .i64 0] b3 #[.int .i64 kd, .slice none 0 0, .slice none 0 0, .slice none 0 0, .string ⟨#[]⟩, .slice none 0 0, .slice A c2.dfrees.1.length cp, .int .i64 0, .int .u64 0, .int .i64 0, .int .i64 0, .int .i64 0, .int .i64 0, .int .i64 0] W ∧ TRow W w.heap.size FreeT A xs ∧ FrCells W w.heap.size c2.dfrees.1 xs ∧ c2.dfrees.1.length ≤ 20) ⟨S.out.set 6 _, HTR.out.chg (Chg.set1 _ b3 6 _) (fun k _ e => by unfold OneM at e; subst e; exact Blk.not_ S.out.z3 (by decide)), HFC.out.chg (Chg.set1 _ b3 6 _) (fun k _ e => by unfold OneM at e; subst e; exact Blk.not_ S.out.z3 (by decide)), HFL.out⟩ ?_
    intro W3 hm
    clear S
    try clear q0
    try clear q1 f1
    try clear q2 f2 q3 f3
    have S := Lib.hid hm.1
    have HT := Lib.hid hm.2
    clear hm
    go_upto_region 29 with (go_at_call 168; refine (dInt_any 400 (by omega) (by omega) g _ _ _ S.out.p.hl S.out.p.dc).mono ?_; rintro e w1 ⟨rfl, hc1, hk1⟩; have HT := Lib.hid (show TRow w1 w.heap.size FreeT A xs ∧ FrCells w1 w.heap.size c2.dfrees.1 xs ∧ c2.dfrees.1.length ≤ 20 from ⟨HT.out.1.chg hk1 (fun k hk e => by unfold OneM at e; omega), HT.out.2.1.chg hk1 (fun k hk e => by unfold OneM at e; omega), HT.out.2.2⟩); replace S := Lib.hid (S.out.call (c' := (Sp.Cut.int 400 c2.dfrees.2).2) hc1 hk1 (Sp.Cut.int_len _ _)); have q1 := S.out.z3.cell 7; have f1 := S.out.z3.frozen 7; simp at q1; clear hc1 hk1)
    refine wp_gen (fun W => MkS w g ((Sp.Cut.int 400 c2.dfrees.2).2) PageT w.heap.size #[.int .i64 0, .slice none 0 0, .slice none 0 0, .slice none 0 0, .string ⟨#[]⟩, .slice none 0 0, .slice none 0 0, .int .i64 0, .int .u64 0, .int .i64 0, .int .i64 0, .int .i64 0, .int .i64 0, .int .i64 0] b3 #[.int .i64 kd, .slice none 0 0, .slice none 0 0, .slice none 0 0, .string ⟨#[]⟩, .slice none 0 0, .slice A c2.dfrees.1.length cp, .int .i64 (Sp.Cut.int 400 c2.dfrees.2).1, .int .u64 0, .int .i64 0, .int .i64 0, .int .i64 0, .int .i64 0, .int .i64 0] W ∧ TRow W w.heap.size FreeT A xs ∧ FrCells W w.heap.size c2.dfrees.1 xs ∧ c2.dfrees.1.length ≤ 20) ⟨S.out.set 7 _, HT.out.1.chg (Chg.set1 _ b3 7 _) (fun k _ e => by unfold OneM at e; subst e; exact Blk.not_ S.out.z3 (by decide)), HT.out.2.1.chg (Chg.set1 _ b3 7 _) (fun k _ e => by unfold OneM at e; subst e; exact Blk.not_ S.out.z3 (by decide)), HT.out.2.2⟩ ?_
    intro W3 hm
    clear S
    try clear q0
    try clear q1 f1
    try clear q2 f2 q3 f3
    have S := Lib.hid hm.1
    have HT := Lib.hid hm.2
    clear hm
    go_wp2_with (first
      | (refine wpList_row PageT _ rfl b3 rfl rfl PageT _ (0, 0) _ S.out.z3 Tryz.underlying119 rfl rfl ?_)
      | (refine wpList_store_row rfl PageT _ _ rfl w.heap.size _ rfl rfl PageT _ S.out.p.z2 (by kernel_rfl) rfl (by kernel_rfl) ?_))
    have hD := S.out.done
    obtain ⟨⟨z0, z1, z2, z3, z4, z5, z6, z7, z8, z9, z10, z11, z12, z13⟩, _⟩ := hD.2.2.at14
    refine bodyPost_ret (v := .agg #[.int .i64 kd, .slice none 0 0, .slice none 0 0, .slice none 0 0, .string ⟨#[]⟩, .slice none 0 0, .slice A c2.dfrees.1.length cp, .int .i64 (Sp.Cut.int 400 c2.dfrees.2).1, .int .u64 0, .int .i64 0, .int .i64 0, .int .i64 0, .int .i64 0, .int .i64 0]) (by simp [results, Tryz.results148, go_sem, z0, z1, z2, z3, z4, z5, z6, z7, z8, z9, z10, z11, z12, z13]) rfl (HMK.out _ _ HDF.out (⟨none, none, none, none, A, 0, 0, 0, 0, cp⟩) _ _ rfl (fun M hM => ⟨Items.nil_, Row.nil_, Row.nil_, Row.nil_, Frees.of_cells (HT.out.1.chg (chg_setRow1 _ _ _) (fun k _ e => by unfold OneM at e; subst e; exact Blk.not_ S.out.p.z2 (by decide))) (HT.out.2.1.chg (chg_setRow1 _ _ _) (fun k _ e => by unfold OneM at e; subst e; exact Blk.not_ S.out.p.z2 (by decide))) hM (by have := HT.out.2.2; show c2.dfrees.1.length ≤ 1073741824; omega), by simp [Sp.mt0]⟩) hD.1 hD.2.1)
end Go.Proofs.YtmcpkhknjdiocaaGreatDoor
