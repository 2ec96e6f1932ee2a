/- The document's frees. The document's Is: the plain law by kinds. -/
import Derived.Test.YtlpmjeiogdlifaaGreatQB04
import Derived.Test.YtlpmjeiogdlifaaGreatQB07
import Derived.Test.YtlpmjeiogdlifaaGreatQB10
import Derived.Test.YtlpmjeiogdlifaaGreatQB11
import Derived.Deep.DeepCutAuto
set_option linter.unusedSimpArgs false
set_option linter.unusedVariables false
namespace Go.Proofs.YtlpmjeiogdlifaaGreat
open Go.RowKit
attribute [local go_sem low] mk_extract
attribute [local go_sem] After.cell After.frozen mk_extract_end ByteArray.mk_append_mk
set_option maxRecDepth 100000 in
set_option maxHeartbeats 1600000 in
theorem dfrees_any (p : Sp.Page) (r : Refs) {M : Nat → Prop} (w : World) (hp : PageRd w M p r) :
    Calls Tryz.prog 103 #[.agg (pageV p r).toArray] w fun e w' => e = .returned (.bool (Sp.isFree p)) ∧ Below w.heap.size w w' := by
  have Hf := Lib.hid hp.free
  clear hp
  have hlen := Hf.out.len
  have HB := Lib.hid (Sp.isFree_def p)
  obtain ⟨I, K, D, V, F, ci, ck, cd, cv, cf⟩ := r
  simp only [pageV] at *
  go_enter Tryz.func103, Tryz.ntmps103
  go_wp2
  go_loopw [3, 4] (fun n i wr => ∃ k : Nat, k ≤ p.free.length ∧ i = .int .i64 k ∧ n = .int .i64 (Sp.total (p.free.take k)) ∧ Below w.heap.size w wr ∧ w.heap.size < wr.heap.size ∧ wr.cell? ⟨w.heap.size, 6, none⟩ = some (.slice F p.free.length cf) ∧ wr.cell? ⟨w.heap.size, 7, none⟩ = some (.int .i64 p.next) ∧ Hid (∀ j, j < k → Sp.freeAt p.free j = true)) (fun _ i _ => p.free.length - (intOf i).toNat)
  case atStart => exact ⟨0, Nat.zero_le _, rfl, rfl, by go_grown, by simp, by simp [go_sem], by simp [go_sem], fun j h => absurd h (by omega)⟩
  case round =>
    obtain ⟨k, hk, rfl, rfl, hb, hsz, hbox, hbox7, hok⟩ := hrel
    by_cases hlt : k < p.free.length
    · obtain ⟨fb, fo, rfl, hfb, hfc⟩ := Hf.out.at_ hlt
      obtain ⟨V2, c2, ⟨hc0, hc1⟩, hids, htx0, htx1⟩ := hfc k hlt
      have hp1 : 0 < k → wr.cell? ⟨fb, fo + (k - 1) * 2, none⟩ = some (.int .u64 (p.free.getD (k - 1) Sp.free0).txn) := fun h => by
        obtain ⟨V3, c3, ⟨hc0, hc1⟩, _⟩ := hfc (k - 1) (by omega)
        exact (hb.cell (p := ⟨_, _, none⟩) hfb).trans hc0
      clear hfc
      have hc0 := (hb.cell (p := ⟨_, _, none⟩) hfb).trans hc0
      have hc1 := (hb.cell (p := ⟨_, _, none⟩) hfb).trans hc1
      have hil := hids.len
      have Hids := Lib.hid (hids.go hb)
      have HT := Lib.hid (Sp.total_take hlt)
      have hfbw : fb < wr.heap.size := by omega
      clear hids htx0 htx1
      have HV := Lib.hid (Sp.freeAt_def p.free k)
      have hfalse : ∀ w2, Sp.freeAt p.free k = false → Below w.heap.size w w2 → ∃ b : Bool, b = false ∧ b = Sp.isFree p := fun w2 hv _ => ⟨false, rfl, by rw [HB.out, Sp.allTo_false hlt hv]; rfl⟩
      have hfalse : Sp.freeAt p.free k = false → false = Sp.isFree p := fun hv => by rw [HB.out, Sp.allTo_false hlt hv]; rfl
      have Hfalse := Lib.hid hfalse
      clear hfalse
      have hnext : Sp.freeAt p.free k = true → ∀ j, j < k + 1 → Sp.freeAt p.free j = true := fun hv j hj => by
        rcases Nat.lt_succ_iff_lt_or_eq.1 hj with h | rfl
        · exact hok.out j h
        · exact hv
      have Hnext := Lib.hid hnext
      clear hnext
      have htot : Sp.total (p.free.take k) ≤ 398 * k := Sp.total_le k (by omega) fun j hj => by
        have := hok.out j hj
        rw [Sp.freeAt_def] at this
        simp only [Bool.and_eq_true] at this
        exact Sp.isIDs_short this.2
      generalize Sp.total (p.free.take k) = tt at *
      generalize p.free.getD k Sp.free0 = x at *
      generalize (p.free.getD (k - 1) Sp.free0).txn = y at *
      obtain ⟨tx, ids⟩ := x
      simp only at *
      by_cases hi0 : ids.length = 0
      · have hi1 : ((ids.length : Int) == 0) = true := by simp [hi0]
        have HI0 := Lib.hid hi0
        clear hi0
        go_wp2
        refine wp_region_after (by kernel_rfl) (by kernel_rfl) (wr.heap.size + 1) ?_
        repeat (go_big_quiet_step (fail))
        refine wpQuiet_nil ?_
        intro w2 hb2
        go_wp2
        go_ret
        refine ⟨ret_bool (Hfalse.out ?_), by (repeat (first | (with_reducible exact Below.refl _ _) | (with_reducible assumption) | (refine below_step (by assumption) (by first | omega | (simp; done) | (simp; omega)) ?_) | (with_reducible refine Below.alloc ?_ (by first | omega | (simp; done) | (simp; omega)) _) | (with_reducible refine Below.drew ?_) | (with_reducible refine below_drewN ?_ _) | (with_reducible refine Below.setCell ?_ (by first | omega | (simp; done) | (simp; omega)) _)))⟩
        rw [HV.out, List.eq_nil_of_length_eq_zero HI0.out]
        rfl
      · have hi1 : ((ids.length : Int) == 0) = false := by rw [beq_eq_false_iff_ne]; omega
        have hne : decide (ids ≠ []) = true := by
          rw [decide_eq_true_eq]
          intro h
          exact hi0 (by rw [h]; rfl)
        rw [hne] at HV
        clear hne
        by_cases hbad : 0 < k ∧ tx < y
        · obtain ⟨hk0, hty⟩ := hbad
          have hpv := hp1 hk0
          clear hp1
          go_wp2
          refine wp_region_after (by kernel_rfl) (by kernel_rfl) (wr.heap.size + 1) ?_
          repeat (go_big_quiet_step (fail))
          refine wpQuiet_nil ?_
          intro w2 hb2
          go_wp2
          go_ret
          refine ⟨ret_bool (Hfalse.out ?_), by (repeat (first | (with_reducible exact Below.refl _ _) | (with_reducible assumption) | (refine below_step (by assumption) (by first | omega | (simp; done) | (simp; omega)) ?_) | (with_reducible refine Below.alloc ?_ (by first | omega | (simp; done) | (simp; omega)) _) | (with_reducible refine Below.drew ?_) | (with_reducible refine below_drewN ?_ _) | (with_reducible refine Below.setCell ?_ (by first | omega | (simp; done) | (simp; omega)) _)))⟩
          rw [HV.out, decide_eq_false (show ¬ k = 0 by omega), decide_eq_false (show ¬ y ≤ tx by omega)]
          rfl
        · have hgo : ∀ K : Prop, (0 < k → ¬ tx < y → wr.cell? ⟨fb, fo + (k - 1) * 2, none⟩ = some (.int .u64 y) → K) → (k = 0 → K) → K := fun K h1 h2 => by
            by_cases h : 0 < k
            · exact h1 h (fun h' => hbad ⟨h, h'⟩) (hp1 h)
            · exact h2 (by omega)
          have hv2 : (decide (k = 0) || decide (y ≤ tx)) = true := by
            rcases Nat.eq_zero_or_pos k with h | h
            · simp [h]
            · have : y ≤ tx := Int.not_lt.1 fun h' => hbad ⟨h, h'⟩
              simp [this]
          rw [hv2] at HV
          have HGO := Lib.hid hgo
          clear hgo hp1 hv2 hbad
          refine HGO.out _ (fun hk0 hty hpv => ?_) (fun hk0 => ?_)
          · have hkx : 0 < k := hk0
            clear HGO
            have HK := Lib.hid True.intro
            obtain ⟨wo, rfl⟩ : ∃ wo : World, wo = wr := ⟨_, rfl⟩
            go_wp2
            refine wp_region_after (by kernel_rfl) (by kernel_rfl) (wo.heap.size + 1) ?_
            repeat (go_big_quiet_step (fail))
            refine wpQuiet_nil ?_
            intro w2 hb2
            obtain ⟨hc2, hf2⟩ := bcell hb2
            have hz2 := hb2.size
            simp only [World.size_alloc] at hz2
            go_wp2
            have hlb : w2.cell? ⟨wo.heap.size, 1, none⟩ = some (.slice V2 ids.length c2) := (hc2 _ _ (by simp)).trans (by simp [go_sem])
            have hbx6 := (hc2 w.heap.size 6 (by omega)).trans ((World.cell?_alloc_lt wo _ ⟨w.heap.size, 6, none⟩ hsz).trans hbox)
            have hbx7 := (hc2 w.heap.size 7 (by omega)).trans ((World.cell?_alloc_lt wo _ ⟨w.heap.size, 7, none⟩ hsz).trans hbox7)
            have hb3 : Below w.heap.size w w2 := Below.trans (b := wo.alloc _) (Below.alloc hb (by omega) _) (hb2.mono (by omega))
            have Hids2 := Lib.hid (Hids.out.go (Below.trans (b := wo.alloc _) (by go_grown) (hb2.mono (by omega))))
            clear hc2 hf2 hbox hbox7
            go_loopw [6] (fun i wr => ∃ j : Nat, j ≤ ids.length ∧ i = .int .i64 j ∧ Below w2.heap.size w2 wr ∧ Hid (∀ i, i < j → Sp.idAt ids i = true)) (fun i _ => ids.length - (intOf i).toNat)
            case atStart => exact ⟨0, Nat.zero_le _, rfl, Below.refl _ _, fun j h => absurd h (by omega)⟩
            case round =>
              obtain ⟨j, hj, rfl, hbq, hokj⟩ := hrel
              have hzq := hbq.size
              have hlbq := ((bcell hbq).1 (wo.heap.size) 1 (by omega)).trans hlb
              have hszq : w.heap.size < wr.heap.size := by omega
              by_cases hjl : j < ids.length
              · obtain ⟨ib, io, rfl, hib, hic⟩ := Hids2.out.at_ hjl
                have hic0 := (hbq.cell (p := ⟨_, _, none⟩) hib).trans (hic j hjl)
                have hic1 := (hbq.cell (p := ⟨_, _, none⟩) hib).trans (hic (j - 1) (by omega))
                clear hic
                have HJ := Lib.hid (Sp.idAt_def ids j)
                have hfl : Sp.idAt ids j = false → false = Sp.isFree p := fun h => Hfalse.out (by rw [HV.out, Sp.isIDs, Sp.allTo_false hjl h]; rfl)
                have Hfl := Lib.hid hfl
                have hnx : Sp.idAt ids j = true → ∀ i, i < j + 1 → Sp.idAt ids i = true := fun hv i hi => by
                  rcases Nat.lt_succ_iff_lt_or_eq.1 hi with h | rfl
                  · exact hokj.out i h
                  · exact hv
                have Hnx := Lib.hid hnx
                clear hfl hnx
                generalize ids.getD j 0 = u at *
                generalize ids.getD (j - 1) 0 = v at *
                have hszl : wo.heap.size < wr.heap.size := by omega
                have hibq : ib < wr.heap.size := by omega
                rcases hiv : Sp.isID u with _ | _
                · have HID := Lib.hid (fun w => show Calls Tryz.prog 100 #[.int .i64 u] w (fun e w' => e = .returned (.bool false) ∧ Below w.heap.size w w') from by have h := dpage_any u w; rw [hiv] at h; exact h)
                  have HIV := Lib.hid hiv
                  clear hiv hic1
                  go_wp2
                  refine wp_region_after (by kernel_rfl) (by kernel_rfl) (wr.heap.size) ?_
                  repeat (go_big_quiet_step ((go_at_call 100; exact after_call (Nat.le_refl _) (HID.out _))))
                  refine wpQuiet_nil ?_
                  intro w5 hb5
                  go_wp2
                  go_ret
                  refine ⟨ret_bool (Hfl.out ?_), by (repeat (first | (with_reducible exact Below.refl _ _) | (with_reducible assumption) | (refine below_step (by assumption) (by first | omega | (simp; done) | (simp; omega)) ?_) | (with_reducible refine Below.alloc ?_ (by first | omega | (simp; done) | (simp; omega)) _) | (with_reducible refine Below.drew ?_) | (with_reducible refine below_drewN ?_ _) | (with_reducible refine Below.setCell ?_ (by first | omega | (simp; done) | (simp; omega)) _)))⟩
                  rw [HJ.out, HIV.out]
                  rfl
                · have HID := Lib.hid (fun w => show Calls Tryz.prog 100 #[.int .i64 u] w (fun e w' => e = .returned (.bool true) ∧ Below w.heap.size w w') from by have h := dpage_any u w; rw [hiv] at h; exact h)
                  rw [hiv] at HJ
                  clear hiv
                  by_cases hj0 : 0 < j
                  · rcases hvu : decide (v < u) with _ | _
                    · have hvu1 : u ≤ v := Int.not_lt.1 (of_decide_eq_false hvu)
                      have HVU := Lib.hid hvu
                      clear hvu
                      go_wp2
                      refine wp_region_after (by kernel_rfl) (by kernel_rfl) (wr.heap.size) ?_
                      repeat (go_big_quiet_step ((go_at_call 100; exact after_call (Nat.le_refl _) (HID.out _))))
                      refine wpQuiet_nil ?_
                      intro w5 hb5
                      go_wp2
                      go_ret
                      refine ⟨ret_bool (Hfl.out ?_), by (repeat (first | (with_reducible exact Below.refl _ _) | (with_reducible assumption) | (refine below_step (by assumption) (by first | omega | (simp; done) | (simp; omega)) ?_) | (with_reducible refine Below.alloc ?_ (by first | omega | (simp; done) | (simp; omega)) _) | (with_reducible refine Below.drew ?_) | (with_reducible refine below_drewN ?_ _) | (with_reducible refine Below.setCell ?_ (by first | omega | (simp; done) | (simp; omega)) _)))⟩
                      rw [HJ.out, HVU.out, decide_eq_false (show ¬ j = 0 by omega)]
                      rfl
                    · have hvu1 : v < u := of_decide_eq_true hvu
                      have HVU := Lib.hid hvu
                      clear hvu
                      go_wp2
                      refine wp_region_after (by kernel_rfl) (by kernel_rfl) (wr.heap.size) ?_
                      repeat (go_big_quiet_step ((go_at_call 100; exact after_call (Nat.le_refl _) (HID.out _))))
                      refine wpQuiet_nil ?_
                      intro w5 hb5
                      go_wp2
                      refine ⟨⟨j + 1, by omega, by go_num, by (repeat (first | (with_reducible exact Below.refl _ _) | (with_reducible assumption) | (refine below_step (by assumption) (by first | omega | (simp; done) | (simp; omega)) ?_) | (with_reducible refine Below.alloc ?_ (by first | omega | (simp; done) | (simp; omega)) _) | (with_reducible refine Below.drew ?_) | (with_reducible refine below_drewN ?_ _) | (with_reducible refine Below.setCell ?_ (by first | omega | (simp; done) | (simp; omega)) _))), Hnx.out ?_⟩, by simp [intOf]; omega⟩
                      rw [HJ.out, HVU.out]
                      simp
                  · have hj00 : j = 0 := by omega
                    subst hj00
                    rw [Nat.add_zero] at hic0
                    clear hic1
                    go_wp2
                    refine wp_region_after (by kernel_rfl) (by kernel_rfl) (wr.heap.size) ?_
                    repeat (go_big_quiet_step ((go_at_call 100; exact after_call (Nat.le_refl _) (HID.out _))))
                    refine wpQuiet_nil ?_
                    intro w5 hb5
                    go_wp2
                    refine ⟨⟨1, by omega, by go_num, by (repeat (first | (with_reducible exact Below.refl _ _) | (with_reducible assumption) | (refine below_step (by assumption) (by first | omega | (simp; done) | (simp; omega)) ?_) | (with_reducible refine Below.alloc ?_ (by first | omega | (simp; done) | (simp; omega)) _) | (with_reducible refine Below.drew ?_) | (with_reducible refine below_drewN ?_ _) | (with_reducible refine Below.setCell ?_ (by first | omega | (simp; done) | (simp; omega)) _))), Hnx.out ?_⟩, by simp [intOf]; omega⟩
                    rw [HJ.out]
                    simp
              · have hjj : j = ids.length := by omega
                have hfok : Sp.freeAt p.free k = true := by
                  rw [HV.out, Sp.isIDs, Sp.allTo_true fun i hi => hokj.out i (by omega)]
                  rfl
                have HFO := Lib.hid hfok
                have hsh : ids.length ≤ 398 := by
                  have h := hfok
                  rw [Sp.freeAt_def] at h
                  have h2 : Sp.isIDs ids = true := Sp.allTo_true fun i hi => hokj.out i (by omega)
                  exact Sp.isIDs_short h2
                have hbx6q := ((bcell hbq).1 (w.heap.size) 6 (by omega)).trans hbx6
                have hbx7q := ((bcell hbq).1 (w.heap.size) 7 (by omega)).trans hbx7
                clear hfok
                go_wp2
                refine ⟨⟨k + 1, by omega, by go_num, by rw [HT.out]; go_num, hb3.trans (hbq.mono (by omega)), hszq, hbx6q, hbx7q, Hnext.out HFO.out⟩, by simp [intOf]; omega⟩
          · have hkz : ¬ 0 < k := by omega
            have HK := Lib.hid hk0
            clear hk0 HGO
            obtain ⟨wo, rfl⟩ : ∃ wo : World, wo = wr := ⟨_, rfl⟩
            go_wp2
            refine wp_region_after (by kernel_rfl) (by kernel_rfl) (wo.heap.size + 1) ?_
            repeat (go_big_quiet_step (fail))
            refine wpQuiet_nil ?_
            intro w2 hb2
            obtain ⟨hc2, hf2⟩ := bcell hb2
            have hz2 := hb2.size
            simp only [World.size_alloc] at hz2
            go_wp2
            have hlb : w2.cell? ⟨wo.heap.size, 1, none⟩ = some (.slice V2 ids.length c2) := (hc2 _ _ (by simp)).trans (by simp [go_sem])
            have hbx6 := (hc2 w.heap.size 6 (by omega)).trans ((World.cell?_alloc_lt wo _ ⟨w.heap.size, 6, none⟩ hsz).trans hbox)
            have hbx7 := (hc2 w.heap.size 7 (by omega)).trans ((World.cell?_alloc_lt wo _ ⟨w.heap.size, 7, none⟩ hsz).trans hbox7)
            have hb3 : Below w.heap.size w w2 := Below.trans (b := wo.alloc _) (Below.alloc hb (by omega) _) (hb2.mono (by omega))
            have Hids2 := Lib.hid (Hids.out.go (Below.trans (b := wo.alloc _) (by go_grown) (hb2.mono (by omega))))
            clear hc2 hf2 hbox hbox7
            go_loopw [6] (fun i wr => ∃ j : Nat, j ≤ ids.length ∧ i = .int .i64 j ∧ Below w2.heap.size w2 wr ∧ Hid (∀ i, i < j → Sp.idAt ids i = true)) (fun i _ => ids.length - (intOf i).toNat)
            case atStart => exact ⟨0, Nat.zero_le _, rfl, Below.refl _ _, fun j h => absurd h (by omega)⟩
            case round =>
              obtain ⟨j, hj, rfl, hbq, hokj⟩ := hrel
              have hzq := hbq.size
              have hlbq := ((bcell hbq).1 (wo.heap.size) 1 (by omega)).trans hlb
              have hszq : w.heap.size < wr.heap.size := by omega
              by_cases hjl : j < ids.length
              · obtain ⟨ib, io, rfl, hib, hic⟩ := Hids2.out.at_ hjl
                have hic0 := (hbq.cell (p := ⟨_, _, none⟩) hib).trans (hic j hjl)
                have hic1 := (hbq.cell (p := ⟨_, _, none⟩) hib).trans (hic (j - 1) (by omega))
                clear hic
                have HJ := Lib.hid (Sp.idAt_def ids j)
                have hfl : Sp.idAt ids j = false → false = Sp.isFree p := fun h => Hfalse.out (by rw [HV.out, Sp.isIDs, Sp.allTo_false hjl h]; rfl)
                have Hfl := Lib.hid hfl
                have hnx : Sp.idAt ids j = true → ∀ i, i < j + 1 → Sp.idAt ids i = true := fun hv i hi => by
                  rcases Nat.lt_succ_iff_lt_or_eq.1 hi with h | rfl
                  · exact hokj.out i h
                  · exact hv
                have Hnx := Lib.hid hnx
                clear hfl hnx
                generalize ids.getD j 0 = u at *
                generalize ids.getD (j - 1) 0 = v at *
                have hszl : wo.heap.size < wr.heap.size := by omega
                have hibq : ib < wr.heap.size := by omega
                rcases hiv : Sp.isID u with _ | _
                · have HID := Lib.hid (fun w => show Calls Tryz.prog 100 #[.int .i64 u] w (fun e w' => e = .returned (.bool false) ∧ Below w.heap.size w w') from by have h := dpage_any u w; rw [hiv] at h; exact h)
                  have HIV := Lib.hid hiv
                  clear hiv hic1
                  go_wp2
                  refine wp_region_after (by kernel_rfl) (by kernel_rfl) (wr.heap.size) ?_
                  repeat (go_big_quiet_step ((go_at_call 100; exact after_call (Nat.le_refl _) (HID.out _))))
                  refine wpQuiet_nil ?_
                  intro w5 hb5
                  go_wp2
                  go_ret
                  refine ⟨ret_bool (Hfl.out ?_), by (repeat (first | (with_reducible exact Below.refl _ _) | (with_reducible assumption) | (refine below_step (by assumption) (by first | omega | (simp; done) | (simp; omega)) ?_) | (with_reducible refine Below.alloc ?_ (by first | omega | (simp; done) | (simp; omega)) _) | (with_reducible refine Below.drew ?_) | (with_reducible refine below_drewN ?_ _) | (with_reducible refine Below.setCell ?_ (by first | omega | (simp; done) | (simp; omega)) _)))⟩
                  rw [HJ.out, HIV.out]
                  rfl
                · have HID := Lib.hid (fun w => show Calls Tryz.prog 100 #[.int .i64 u] w (fun e w' => e = .returned (.bool true) ∧ Below w.heap.size w w') from by have h := dpage_any u w; rw [hiv] at h; exact h)
                  rw [hiv] at HJ
                  clear hiv
                  by_cases hj0 : 0 < j
                  · rcases hvu : decide (v < u) with _ | _
                    · have hvu1 : u ≤ v := Int.not_lt.1 (of_decide_eq_false hvu)
                      have HVU := Lib.hid hvu
                      clear hvu
                      go_wp2
                      refine wp_region_after (by kernel_rfl) (by kernel_rfl) (wr.heap.size) ?_
                      repeat (go_big_quiet_step ((go_at_call 100; exact after_call (Nat.le_refl _) (HID.out _))))
                      refine wpQuiet_nil ?_
                      intro w5 hb5
                      go_wp2
                      go_ret
                      refine ⟨ret_bool (Hfl.out ?_), by (repeat (first | (with_reducible exact Below.refl _ _) | (with_reducible assumption) | (refine below_step (by assumption) (by first | omega | (simp; done) | (simp; omega)) ?_) | (with_reducible refine Below.alloc ?_ (by first | omega | (simp; done) | (simp; omega)) _) | (with_reducible refine Below.drew ?_) | (with_reducible refine below_drewN ?_ _) | (with_reducible refine Below.setCell ?_ (by first | omega | (simp; done) | (simp; omega)) _)))⟩
                      rw [HJ.out, HVU.out, decide_eq_false (show ¬ j = 0 by omega)]
                      rfl
                    · have hvu1 : v < u := of_decide_eq_true hvu
                      have HVU := Lib.hid hvu
                      clear hvu
                      go_wp2
                      refine wp_region_after (by kernel_rfl) (by kernel_rfl) (wr.heap.size) ?_
                      repeat (go_big_quiet_step ((go_at_call 100; exact after_call (Nat.le_refl _) (HID.out _))))
                      refine wpQuiet_nil ?_
                      intro w5 hb5
                      go_wp2
                      refine ⟨⟨j + 1, by omega, by go_num, by (repeat (first | (with_reducible exact Below.refl _ _) | (with_reducible assumption) | (refine below_step (by assumption) (by first | omega | (simp; done) | (simp; omega)) ?_) | (with_reducible refine Below.alloc ?_ (by first | omega | (simp; done) | (simp; omega)) _) | (with_reducible refine Below.drew ?_) | (with_reducible refine below_drewN ?_ _) | (with_reducible refine Below.setCell ?_ (by first | omega | (simp; done) | (simp; omega)) _))), Hnx.out ?_⟩, by simp [intOf]; omega⟩
                      rw [HJ.out, HVU.out]
                      simp
                  · have hj00 : j = 0 := by omega
                    subst hj00
                    rw [Nat.add_zero] at hic0
                    clear hic1
                    go_wp2
                    refine wp_region_after (by kernel_rfl) (by kernel_rfl) (wr.heap.size) ?_
                    repeat (go_big_quiet_step ((go_at_call 100; exact after_call (Nat.le_refl _) (HID.out _))))
                    refine wpQuiet_nil ?_
                    intro w5 hb5
                    go_wp2
                    refine ⟨⟨1, by omega, by go_num, by (repeat (first | (with_reducible exact Below.refl _ _) | (with_reducible assumption) | (refine below_step (by assumption) (by first | omega | (simp; done) | (simp; omega)) ?_) | (with_reducible refine Below.alloc ?_ (by first | omega | (simp; done) | (simp; omega)) _) | (with_reducible refine Below.drew ?_) | (with_reducible refine below_drewN ?_ _) | (with_reducible refine Below.setCell ?_ (by first | omega | (simp; done) | (simp; omega)) _))), Hnx.out ?_⟩, by simp [intOf]; omega⟩
                    rw [HJ.out]
                    simp
              · have hjj : j = ids.length := by omega
                have hfok : Sp.freeAt p.free k = true := by
                  rw [HV.out, Sp.isIDs, Sp.allTo_true fun i hi => hokj.out i (by omega)]
                  rfl
                have HFO := Lib.hid hfok
                have hsh : ids.length ≤ 398 := by
                  have h := hfok
                  rw [Sp.freeAt_def] at h
                  have h2 : Sp.isIDs ids = true := Sp.allTo_true fun i hi => hokj.out i (by omega)
                  exact Sp.isIDs_short h2
                have hbx6q := ((bcell hbq).1 (w.heap.size) 6 (by omega)).trans hbx6
                have hbx7q := ((bcell hbq).1 (w.heap.size) 7 (by omega)).trans hbx7
                clear hfok
                go_wp2
                refine ⟨⟨k + 1, by omega, by go_num, by rw [HT.out]; go_num, hb3.trans (hbq.mono (by omega)), hszq, hbx6q, hbx7q, Hnext.out HFO.out⟩, by simp [intOf]; omega⟩
    · have hkl : k = p.free.length := by omega
      have htot : Sp.total (p.free.take k) ≤ 398 * k := Sp.total_le k (by omega) fun j hj => by
        have := hok.out j hj
        rw [Sp.freeAt_def] at this
        simp only [Bool.and_eq_true] at this
        exact Sp.isIDs_short this.2
      have htk : p.free.take k = p.free := List.take_of_length_le (by omega)
      rw [htk] at htot ⊢
      have HB2 := HB.out
      rw [Sp.allTo_true fun j hj => hok.out j (by omega)] at HB2
      have HB := Lib.hid HB2
      clear HB2 htk
      generalize Sp.total p.free = tt at *
      go_wp2_with (go_at_call 100; refine (dpage_any _ _).mono ?_; rintro e w2 ⟨rfl, hb2⟩; have hz := hb2.size; have hsz : w.heap.size < w2.heap.size := Nat.lt_of_lt_of_le (by first | exact hsz | omega | (simp; done) | (simp; omega)) hz; obtain ⟨hc2, hf2⟩ := bcell hb2)
      all_goals
        go_ret
        refine ⟨ret_bool ?_, by (repeat (first | (with_reducible exact Below.refl _ _) | (with_reducible assumption) | (refine below_step (by assumption) (by first | omega | (simp; done) | (simp; omega)) ?_) | (with_reducible refine Below.alloc ?_ (by first | omega | (simp; done) | (simp; omega)) _) | (with_reducible refine Below.drew ?_) | (with_reducible refine below_drewN ?_ _) | (with_reducible refine Below.setCell ?_ (by first | omega | (simp; done) | (simp; omega)) _)))⟩
        rw [HB.out]
        go_light
        grind [Sp.noneOr]
end Go.Proofs.YtlpmjeiogdlifaaGreat
namespace Go.Proofs.YtlpmjeiogdlifaaGreat
open Go.RowKit
attribute [local go_sem low] mk_extract
attribute [local go_sem] After.cell After.frozen mk_extract_end ByteArray.mk_append_mk
namespace Sp
def g1 (p : Page) : Bool := decide (p.items ≠ [])
def g2 (p : Page) : Bool := decide (p.keys ≠ []) || decide (p.kids ≠ [])
def g3 (p : Page) : Bool := decide (p.text ≠ [])
def g4 (p : Page) : Bool := decide (p.vals ≠ [])
def g5 (p : Page) : Bool := decide (p.free ≠ []) || decide (p.next ≠ 0)
def g6 (p : Page) : Bool := decide (p.mt ≠ mt0)
theorem page1 {p : Page} (h : p.kind = 1) : isPage p = (allTo p.items.length (leafAt p.items) && (g1 p && decide (p.items.length ≤ 4) && !g2 p && !g3 p && !g4 p && !g5 p && !g6 p)) := by
  unfold isPage
  rw [if_pos h, Bool.eq_iff_iff]
  simp only [has, isLeaf, g1, g2, g3, g4, g5, g6, Bool.and_eq_true, Bool.not_eq_true', decide_eq_true_eq, List.cons.injEq, decide_eq_false_iff_not, Bool.or_eq_false_iff, and_true]
  have hl : 1 ≤ p.items.length ↔ p.items ≠ [] := List.length_pos_iff
  rw [hl]
  constructor
  · rintro ⟨⟨a1, a2, a3, a4, a5, a6, a7⟩, ⟨b1, b2⟩, b3⟩
    exact ⟨b1, ⟨⟨⟨⟨⟨⟨a1, b3⟩, a2⟩, a3⟩, a4⟩, a5, a6⟩, a7⟩⟩
  · rintro ⟨b1, ⟨⟨⟨⟨⟨⟨a1, b3⟩, a2⟩, a3⟩, a4⟩, a5, a6⟩, a7⟩⟩
    exact ⟨⟨a1, a2, a3, a4, a5, a6, a7⟩, ⟨b1, a1⟩, b3⟩
def brAt (p : Page) (i : Nat) : Bool := branchAt p.keys p.kids i && (decide (i ≠ 0) || decide (p.keys.getD 0 [] = []))
theorem brAt_def (p : Page) (i : Nat) : brAt p i = (isID (p.kids.getD i 0) && (decide (i = 0) || (short (p.keys.getD i []) && lt (p.keys.getD (i - 1) []) (p.keys.getD i []))) && (decide (i ≠ 0) || decide (p.keys.getD 0 [] = []))) := rfl
theorem page2 {p : Page} (h : p.kind = 2) : isPage p = (decide (p.keys.length = p.kids.length) && allTo p.kids.length (brAt p) && (decide (2 ≤ p.kids.length) && decide (p.kids.length ≤ 4) && !g1 p && !g3 p && !g4 p && !g5 p && !g6 p)) := by
  unfold isPage
  rw [if_neg (by omega), if_pos h, Bool.eq_iff_iff]
  simp only [has, isBranch, g1, g3, g4, g5, g6, Bool.and_eq_true, Bool.not_eq_true', decide_eq_true_eq, List.cons.injEq, decide_eq_false_iff_not, Bool.or_eq_false_iff, Bool.or_eq_true, and_true]
  constructor
  · rintro ⟨⟨a1, a2, a3, a4, a5, a6, a7⟩, ⟨⟨⟨b1, b2⟩, b3⟩, b4⟩, b5⟩
    refine ⟨⟨b3, allTo_true fun j hj => ?_⟩, ⟨⟨⟨⟨⟨⟨b1, b2⟩, a1⟩, a3⟩, a4⟩, a5, a6⟩, a7⟩⟩
    unfold brAt
    rw [allTo_iff.1 b5 j hj, b4]
    simp
  · rintro ⟨⟨b3, b5⟩, ⟨⟨⟨⟨⟨⟨b1, b2⟩, a1⟩, a3⟩, a4⟩, a5, a6⟩, a7⟩⟩
    have h0 := allTo_iff.1 b5 0 (by omega)
    simp only [brAt, Bool.and_eq_true, Bool.or_eq_true, decide_eq_true_eq, ne_eq, not_true_eq_false, false_or] at h0
    refine ⟨⟨a1, .inr ?_, a3, a4, a5, a6, a7⟩, ⟨⟨⟨b1, b2⟩, b3⟩, h0.2⟩, allTo_true fun j hj => ?_⟩
    · exact fun e => by rw [e] at b1; simp at b1
    · have := allTo_iff.1 b5 j hj
      simp only [brAt, Bool.and_eq_true] at this
      exact this.1
theorem page3 {p : Page} (h : p.kind = 3) : isPage p = (g3 p && decide (p.text.length ≤ 100) && !g1 p && !g2 p && !g4 p && !g5 p && !g6 p) := by
  unfold isPage
  rw [if_neg (by omega), if_neg (by omega), if_pos h, Bool.eq_iff_iff]
  simp only [has, g1, g2, g3, g4, g5, g6, Bool.and_eq_true, Bool.not_eq_true', decide_eq_true_eq, List.cons.injEq, decide_eq_false_iff_not, Bool.or_eq_false_iff, and_true]
  constructor
  · rintro ⟨⟨a1, a2, a3, a4, a5, a6, a7⟩, b1⟩
    exact ⟨⟨⟨⟨⟨⟨a3, b1⟩, a1⟩, a2⟩, a4⟩, a5, a6⟩, a7⟩
  · rintro ⟨⟨⟨⟨⟨⟨a3, b1⟩, a1⟩, a2⟩, a4⟩, a5, a6⟩, a7⟩
    exact ⟨⟨a1, a2, a3, a4, a5, a6, a7⟩, b1⟩
theorem page4 {p : Page} (h : p.kind = 4) : isPage p = (isVals p.vals 4 12 && !g1 p && !g2 p && !g3 p && !g5 p && !g6 p) := by
  unfold isPage
  rw [if_neg (by omega), if_neg (by omega), if_neg (by omega), if_pos h, Bool.eq_iff_iff]
  simp only [has, g1, g2, g3, g5, g6, Bool.and_eq_true, Bool.not_eq_true', decide_eq_true_eq, List.cons.injEq, decide_eq_false_iff_not, Bool.or_eq_false_iff, and_true]
  constructor
  · rintro ⟨⟨a1, a2, a3, a4, a5, a6, a7⟩, b1⟩
    exact ⟨⟨⟨⟨⟨b1, a1⟩, a2⟩, a3⟩, a5, a6⟩, a7⟩
  · rintro ⟨⟨⟨⟨⟨b1, a1⟩, a2⟩, a3⟩, a5, a6⟩, a7⟩
    refine ⟨⟨a1, a2, a3, ?_, a5, a6, a7⟩, b1⟩
    rintro e
    rw [e] at b1
    simp [isVals] at b1
theorem page5 {p : Page} (h : p.kind = 5) : isPage p = (isFree p && !g1 p && !g2 p && !g3 p && !g4 p && !g6 p) := by
  unfold isPage
  rw [if_neg (by omega), if_neg (by omega), if_neg (by omega), if_neg (by omega), if_pos h, Bool.eq_iff_iff]
  simp only [has, g1, g2, g3, g4, g6, Bool.and_eq_true, Bool.not_eq_true', decide_eq_true_eq, List.cons.injEq, decide_eq_false_iff_not, Bool.or_eq_false_iff, and_true, true_and]
  constructor
  · rintro ⟨⟨a1, a2, a3, a4, a7⟩, b1⟩
    exact ⟨⟨⟨⟨⟨b1, a1⟩, a2⟩, a3⟩, a4⟩, a7⟩
  · rintro ⟨⟨⟨⟨⟨b1, a1⟩, a2⟩, a3⟩, a4⟩, a7⟩
    exact ⟨⟨a1, a2, a3, a4, a7⟩, b1⟩
theorem page6 {p : Page} (h : p.kind = 6) : isPage p = (isMt p.mt && !g1 p && !g2 p && !g3 p && !g4 p && !g5 p) := by
  unfold isPage
  rw [if_neg (by omega), if_neg (by omega), if_neg (by omega), if_neg (by omega), if_neg (by omega), if_pos h, Bool.eq_iff_iff]
  simp only [has, g1, g2, g3, g4, g5, Bool.and_eq_true, Bool.not_eq_true', decide_eq_true_eq, List.cons.injEq, decide_eq_false_iff_not, Bool.or_eq_false_iff, and_true]
  constructor
  · rintro ⟨⟨a1, a2, a3, a4, a5, a6⟩, b1⟩
    exact ⟨⟨⟨⟨⟨b1, a1⟩, a2⟩, a3⟩, a4⟩, a5, a6⟩
  · rintro ⟨⟨⟨⟨⟨b1, a1⟩, a2⟩, a3⟩, a4⟩, a5, a6⟩
    exact ⟨⟨a1, a2, a3, a4, a5, a6⟩, b1⟩
theorem page7 {p : Page} (h : p.kind ≠ 1 ∧ p.kind ≠ 2 ∧ p.kind ≠ 3 ∧ p.kind ≠ 4 ∧ p.kind ≠ 5 ∧ p.kind ≠ 6) : isPage p = false := by
  unfold isPage
  simp [h]
theorem g_len {α : Type} (l : List α) : decide (0 < l.length) = decide (l ≠ []) := by simp [List.length_pos_iff]
theorem g_txt (l : Txt) : (!List.isEmpty l) = decide (l ≠ []) := by cases l <;> simp
theorem g_int (n : Int) : (n != 0) = decide (n ≠ 0) := by by_cases h : n = 0 <;> simp [h]
theorem g_mt (m : Mt) : (!decide (m = mt0)) = decide (m ≠ mt0) := by simp
end Sp
end Go.Proofs.YtlpmjeiogdlifaaGreat
