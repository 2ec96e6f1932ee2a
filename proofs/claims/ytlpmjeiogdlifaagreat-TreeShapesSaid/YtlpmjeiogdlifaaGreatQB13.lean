/- The document's Is. A page that comes in: what can be read as data lies in memory as a page does. A row of bytes' numbers that comes in. -/
import Derived.Test.YtlpmjeiogdlifaaGreatQB00
import Derived.Test.YtlpmjeiogdlifaaGreatQB04
import Derived.Test.YtlpmjeiogdlifaaGreatQB12
import Derived.SizedLaws
import Derived.SliceStrings
import Derived.ChangeSlices
import Derived.Deep.Slices
set_option linter.unusedSimpArgs false
set_option linter.unusedVariables false
namespace Go.Proofs.YtlpmjeiogdlifaaGreat
open Go.RowKit
attribute [local go_sem low] mk_extract
attribute [local go_sem] After.cell After.frozen mk_extract_end ByteArray.mk_append_mk
set_option maxRecDepth 100000 in
set_option maxHeartbeats 25600000 in
theorem dIs_any (p : Sp.Page) (r : Refs) {M : Nat → Prop} (w : World) (hp : PageRd w M p r) :
    Calls Tryz.prog 55 #[.agg (pageV p r).toArray] w fun e w' => e = .returned (.bool (Sp.isPage p)) ∧ Below w.heap.size w w' := by
  have Hp := Lib.hid hp
  clear hp
  have hmt := mt_ne p.mt
  have hsz : w.heap.size < w.heap.size + 1 := by omega
  have Blk0 := Lib.hid (Blk.new w PageT (pageV p r).toArray)
  simp only [pageV] at *
  go_enter Tryz.func55, Tryz.ntmps55
  go_upto_region 1 with fail
  go_cut [3, 4, 5, 6, 7, 8] (fun s3 s4 s5 s6 s7 s8 W => s3 = .bool (Sp.g1 p) ∧ s4 = .bool (Sp.g2 p) ∧ s5 = .bool (Sp.g3 p) ∧ s6 = .bool (Sp.g4 p) ∧ s7 = .bool (Sp.g5 p) ∧ s8 = .bool (Sp.g6 p) ∧ Below (w.heap.size + 1) (w.alloc (.cells (pageV p r).toArray PageT)) W)
  case first =>
    clear Hp Blk0
    rcases Nat.eq_zero_or_pos p.keys.length with h1 | h1
    all_goals
      rcases Nat.eq_zero_or_pos p.free.length with h2 | h2
      all_goals
        refine wp_region_after (by kernel_rfl) (by kernel_rfl) (w.heap.size + 1) ?_
        repeat (go_big_quiet_step (fail))
        refine wpQuiet_nil ?_
        intro w2 hb2
        go_wp2
        go_meet
        case rel =>
          refine ⟨congrArg Value.bool ?_, congrArg Value.bool ?_, congrArg Value.bool ?_, congrArg Value.bool ?_, congrArg Value.bool ?_, congrArg Value.bool ?_, hb2⟩
          · exact Sp.g_len _
          · unfold Sp.g2
            first
              | (have hh : p.keys ≠ [] := List.length_pos_iff.1 h1
                 simp [hh]
                 done)
              | (have hh : p.keys = [] := List.eq_nil_of_length_eq_zero h1
                 rw [Sp.g_len]
                 simp [hh]
                 done)
          · exact Sp.g_txt _
          · exact Sp.g_len _
          · unfold Sp.g5
            first
              | (have hh : p.free ≠ [] := List.length_pos_iff.1 h2
                 simp [hh]
                 done)
              | (have hh : p.free = [] := List.eq_nil_of_length_eq_zero h2
                 rw [Sp.g_int]
                 simp [hh]
                 done)
          · first | rfl | exact Sp.g_mt _
  case rest =>
    obtain ⟨rfl, rfl, rfl, rfl, rfl, rfl, hb⟩ := hcut
    have hB : Below w.heap.size w wc := Below.trans (b := w.alloc _) (by go_grown) (hb.mono (by omega))
    have hBk := Blk0.out.below hb (by omega)
    have HBK := Lib.hid hBk
    obtain ⟨⟨c0, c1, c2, c3, c4, c5, c6, c7, c8, c9, c10, c11, c12, c13⟩, _⟩ := hBk.at14
    have hsz : w.heap.size < wc.heap.size := by have := hb.size; simp at this; omega
    clear hb hBk Blk0 hmt
    obtain ⟨w1, rfl⟩ : ∃ W, W = wc := ⟨_, rfl⟩
    rcases (by omega : p.kind = 1 ∨ p.kind = 2 ∨ p.kind = 3 ∨ p.kind = 4 ∨ p.kind = 5 ∨ p.kind = 6 ∨ (p.kind ≠ 1 ∧ p.kind ≠ 2 ∧ p.kind ≠ 3 ∧ p.kind ≠ 4 ∧ p.kind ≠ 5 ∧ p.kind ≠ 6)) with hk | hk | hk | hk | hk | hk | hk
    · as_aux_lemma =>
        have e1 : (p.kind == 1) = true := beq_iff_eq.2 hk
        have HI := Lib.hid (Sp.page1 hk)
        clear hk
        generalize Sp.g1 p = g1 at *
        generalize Sp.g2 p = g2 at *
        generalize Sp.g3 p = g3 at *
        generalize Sp.g4 p = g4 at *
        generalize Sp.g5 p = g5 at *
        generalize Sp.g6 p = g6 at *
        have hit := Hp.out.items.go hB
        have HIT := Lib.hid hit
        have hitl := hit.len
        clear hit
        have hfin : ∀ b : Bool, b = (g1 && decide (p.items.length ≤ 4) && !g2 && !g3 && !g4 && !g5 && !g6) → (∀ j, j < p.items.length → Sp.leafAt p.items j = true) → b = Sp.isPage p := fun b hb h => by rw [HI.out, Sp.allTo_true h, hb]; simp
        have hno : ∀ k, k < p.items.length → Sp.leafAt p.items k = false → false = Sp.isPage p := fun k hk h => by rw [HI.out, Sp.allTo_false hk h]; rfl
        have HFIN := Lib.hid hfin
        have HNO := Lib.hid hno
        clear hfin hno
        generalize p.items = l at *
        go_wp2_with fail
        go_loopw [9] (fun i wr => ∃ k : Nat, k ≤ l.length ∧ i = .int .i64 k ∧ Below w1.heap.size w1 wr ∧ Hid (∀ j, j < k → Sp.leafAt l j = true)) (fun i _ => l.length - (intOf i).toNat)
        case atStart => exact ⟨0, Nat.zero_le _, rfl, Below.refl _ _, fun j h => absurd h (by omega)⟩
        case round =>
          obtain ⟨k, hk, rfl, hb, hok⟩ := hrel
          have hszr := hb.size
          have hszw : w.heap.size < wr.heap.size := by omega
          have d1 := (hb.cell (p := ⟨w.heap.size, 1, none⟩) hsz).trans c1
          by_cases hlt : k < l.length
          · obtain ⟨b, off, hA, hbl, hc⟩ := HIT.out.at_ hlt
            obtain ⟨V, cv, hi, ht⟩ := hc k hlt
            rw [hA] at d1
            have hk1 : 0 < k → wr.cell? ⟨b, off + (k - 1) * 10, none⟩ = some (.string ⟨(l.getD (k - 1) Sp.item0).key.toArray⟩) := fun h => by
              obtain ⟨V', cv', hi', ht'⟩ := hc (k - 1) (by omega)
              exact (hb.cell (p := ⟨_, _, none⟩) hbl).trans hi'.c0
            clear hc hA
            have hi := hi.keep (w' := wr) fun j => hb.cell (p := ⟨_, _, none⟩) hbl
            have ht := Lib.hid (ht.go hb)
            obtain ⟨h0, h1, h2, h3, h4, h5, h6, h7, h8, h9⟩ := hi
            have HV := Lib.hid (Sp.leafAt_def l k)
            have hbw : b < wr.heap.size := by omega
            generalize l.getD k Sp.item0 = x at *
            generalize (l.getD (k - 1) Sp.item0).key = y at *
            have HIX := Lib.hid (fun w => ditem_any x V cv (M := M) w)
            have hnext : Sp.leafAt l k = true → ∀ j, j < k + 1 → Sp.leafAt l j = true := fun hv j hj => by
              rcases Nat.lt_succ_iff_lt_or_eq.1 hj with h | rfl
              · exact hok.out j h
              · exact hv
            have Hnext := Lib.hid hnext
            clear hnext
            cases hI : Sp.isItem x
            · rw [hI] at HIX HV
              have HI2 := Lib.hid hI
              clear hI
              go_wp2
              refine wp_region_after (by kernel_rfl) (by kernel_rfl) (wr.heap.size) ?_
              repeat (go_big_quiet_step (first | (go_at_call 99; exact after_call (Nat.le_refl _) (HIX.out _ (Txts.go ht.out (After.h _))))))
              refine wpQuiet_nil ?_
              intro w2 hb2
              go_wp2
              go_ret
              exact ⟨ret_bool (HNO.out k hlt (by rw [HV.out]; rfl)), by (repeat (first | (with_reducible exact Below.refl _ _) | (with_reducible assumption) | (refine below_step (by assumption) (by first | omega | (simp; done) | (simp; omega)) ?_) | (with_reducible refine Below.alloc ?_ (by first | omega | (simp; done) | (simp; omega)) _) | (with_reducible refine Below.drew ?_) | (with_reducible refine below_drewN ?_ _) | (with_reducible refine Below.setCell ?_ (by first | omega | (simp; done) | (simp; omega)) _)))⟩
            · rw [hI] at HIX HV
              have HI2 := Lib.hid hI
              clear hI
              by_cases h0k : k = 0
              · subst h0k
                simp only [Nat.zero_mul, Nat.add_zero] at h0 h1 h2 h3 h4 h5 h6 h7 h8 h9
                clear hk1
                go_wp2
                refine wp_region_after (by kernel_rfl) (by kernel_rfl) (wr.heap.size) ?_
                repeat (go_big_quiet_step (first | (go_at_call 99; exact after_call (Nat.le_refl _) (HIX.out _ (Txts.go ht.out (After.h _))))))
                refine wpQuiet_nil ?_
                intro w2 hb2
                go_wp2
                exact ⟨⟨1, by omega, by go_num, by (repeat (first | (with_reducible exact Below.refl _ _) | (with_reducible assumption) | (refine below_step (by assumption) (by first | omega | (simp; done) | (simp; omega)) ?_) | (with_reducible refine Below.alloc ?_ (by first | omega | (simp; done) | (simp; omega)) _) | (with_reducible refine Below.drew ?_) | (with_reducible refine below_drewN ?_ _) | (with_reducible refine Below.setCell ?_ (by first | omega | (simp; done) | (simp; omega)) _))), Hnext.out (by rw [HV.out]; simp)⟩, by simp [intOf]; omega⟩
              · have hkz : 0 < k := by omega
                have hk2 := hk1 hkz
                clear hk1
                have HK := Lib.hid h0k
                clear h0k
                cases hlt2 : Op.bytesLess y x.key
                all_goals
                  go_wp2
                  refine wp_region_after (by kernel_rfl) (by kernel_rfl) (wr.heap.size) ?_
                  repeat (go_big_quiet_step (first | (go_at_call 99; exact after_call (Nat.le_refl _) (HIX.out _ (Txts.go ht.out (After.h _))))))
                  refine wpQuiet_nil ?_
                  intro w2 hb2
                  go_wp2
                · go_ret
                  exact ⟨ret_bool (HNO.out k hlt (by rw [HV.out]; simp [HK.out, Sp.lt, hlt2])), by (repeat (first | (with_reducible exact Below.refl _ _) | (with_reducible assumption) | (refine below_step (by assumption) (by first | omega | (simp; done) | (simp; omega)) ?_) | (with_reducible refine Below.alloc ?_ (by first | omega | (simp; done) | (simp; omega)) _) | (with_reducible refine Below.drew ?_) | (with_reducible refine below_drewN ?_ _) | (with_reducible refine Below.setCell ?_ (by first | omega | (simp; done) | (simp; omega)) _)))⟩
                · exact ⟨⟨k + 1, by omega, by go_num, by (repeat (first | (with_reducible exact Below.refl _ _) | (with_reducible assumption) | (refine below_step (by assumption) (by first | omega | (simp; done) | (simp; omega)) ?_) | (with_reducible refine Below.alloc ?_ (by first | omega | (simp; done) | (simp; omega)) _) | (with_reducible refine Below.drew ?_) | (with_reducible refine below_drewN ?_ _) | (with_reducible refine Below.setCell ?_ (by first | omega | (simp; done) | (simp; omega)) _))), Hnext.out (by rw [HV.out]; simp [Sp.lt, hlt2])⟩, by simp [intOf]; omega⟩
          · have hkl : k = l.length := by omega
            go_wp2
            all_goals
              go_ret
              refine ⟨ret_bool (HFIN.out _ ?_ fun j hj => hok.out j (by omega)), by (repeat (first | (with_reducible exact Below.refl _ _) | (with_reducible assumption) | (refine below_step (by assumption) (by first | omega | (simp; done) | (simp; omega)) ?_) | (with_reducible refine Below.alloc ?_ (by first | omega | (simp; done) | (simp; omega)) _) | (with_reducible refine Below.drew ?_) | (with_reducible refine below_drewN ?_ _) | (with_reducible refine Below.setCell ?_ (by first | omega | (simp; done) | (simp; omega)) _)))⟩
              clear HFIN HNO HIT Hp HBK HI
              go_light
              grind
    · as_aux_lemma =>
        have e1 : (p.kind == 1) = false := by rw [beq_eq_false_iff_ne]; omega
        have e2 : (p.kind == 2) = true := beq_iff_eq.2 hk
        have HI := Lib.hid (Sp.page2 hk)
        clear hk
        generalize Sp.g1 p = g1 at *
        generalize Sp.g2 p = g2 at *
        generalize Sp.g3 p = g3 at *
        generalize Sp.g4 p = g4 at *
        generalize Sp.g5 p = g5 at *
        generalize Sp.g6 p = g6 at *
        have HKY := Lib.hid (Hp.out.keys.go hB)
        have HDY := Lib.hid (Hp.out.kids.go hB)
        have hkyl := HKY.out.len
        have hdyl := HDY.out.len
        clear Hp HBK c1 c4 c5 c6 c7 c8 c9 c10 c11 c12 c13
        by_cases hkd : p.keys.length = p.kids.length
        · have he1 : ((p.keys.length : Int) == (p.kids.length : Int)) = true := by simp [hkd]
          have he2 : ((p.keys.length : Int) != (p.kids.length : Int)) = false := by simp [hkd]
          have hfin : ∀ b : Bool, b = (decide (2 ≤ p.kids.length) && decide (p.kids.length ≤ 4) && !g1 && !g3 && !g4 && !g5 && !g6) → (∀ j, j < p.kids.length → Sp.brAt p j = true) → b = Sp.isPage p := fun b hb h => by rw [HI.out, Sp.allTo_true h, hb, decide_eq_true hkd]; simp
          have hno : ∀ k, k < p.kids.length → Sp.brAt p k = false → false = Sp.isPage p := fun k hk h => by rw [HI.out, Sp.allTo_false hk h, Bool.and_false, Bool.false_and]
          have HFIN := Lib.hid hfin
          have HNO := Lib.hid hno
          have HKD := Lib.hid hkd
          clear hfin hno hkd HI
          go_wp2_with fail
          go_loopw [10] (fun i wr => ∃ k : Nat, k ≤ p.kids.length ∧ i = .int .i64 k ∧ Below w1.heap.size w1 wr ∧ Hid (∀ j, j < k → Sp.brAt p j = true)) (fun i _ => p.kids.length - (intOf i).toNat)
          case atStart => exact ⟨0, Nat.zero_le _, rfl, Below.refl _ _, fun j h => absurd h (by omega)⟩
          case round =>
            obtain ⟨k, hk, rfl, hb, hok⟩ := hrel
            have hszr := hb.size
            have hszw : w.heap.size < wr.heap.size := by omega
            have d2 := (hb.cell (p := ⟨w.heap.size, 2, none⟩) hsz).trans c2
            have d3 := (hb.cell (p := ⟨w.heap.size, 3, none⟩) hsz).trans c3
            by_cases hlt : k < p.kids.length
            · obtain ⟨kb, ko, hA, hkb, hkc⟩ := HKY.out.at_ (by have := HKD.out; omega : k < p.keys.length)
              obtain ⟨db, do_, hA2, hdb, hdc⟩ := HDY.out.at_ hlt
              rw [hA] at d2
              rw [hA2] at d3
              have hdc0 := (hb.cell (p := ⟨_, _, none⟩) hdb).trans (hdc k hlt)
              have hkc1 := (hb.cell (p := ⟨_, _, none⟩) hkb).trans (hkc k (by have := HKD.out; omega))
              have hkc2 := (hb.cell (p := ⟨_, _, none⟩) hkb).trans (hkc (k - 1) (by have := HKD.out; omega))
              have hkc3 := (hb.cell (p := ⟨_, _, none⟩) hkb).trans (hkc 0 (by have := HKD.out; omega))
              simp only [Nat.add_zero] at hkc3
              have hltk : k < p.keys.length := by have := HKD.out; omega
              have hk0p : 0 < p.keys.length := by omega
              have hkbw : kb < wr.heap.size := by omega
              have hdbw : db < wr.heap.size := by omega
              have HV := Lib.hid (Sp.brAt_def p k)
              clear hkc hdc hA hA2 c2 c3
              generalize p.kids.getD k 0 = u at *
              generalize p.keys.getD k [] = x at *
              generalize p.keys.getD (k - 1) [] = y at *
              generalize p.keys.getD 0 [] = z at *
              have hnext : Sp.brAt p k = true → ∀ j, j < k + 1 → Sp.brAt p j = true := fun hv j hj => by
                rcases Nat.lt_succ_iff_lt_or_eq.1 hj with h | rfl
                · exact hok.out j h
                · exact hv
              have Hnext := Lib.hid hnext
              clear hnext
              have HIX := Lib.hid (dpage_any u)
              have HS := Lib.hid (dShort_any x)
              cases h1 : Sp.isID u <;> rw [h1] at HIX HV <;> clear h1
              · clear hkc1 hkc2 hkc3
                go_wp2
                refine wp_region_after (by kernel_rfl) (by kernel_rfl) (wr.heap.size) ?_
                repeat (go_big_quiet_step ((go_at_call 100; exact after_call (Nat.le_refl _) (HIX.out _))))
                refine wpQuiet_nil ?_
                intro w2 hb2
                go_wp2
                go_ret
                exact ⟨ret_bool (HNO.out k hlt (by rw [HV.out]; rfl)), by (repeat (first | (with_reducible exact Below.refl _ _) | (with_reducible assumption) | (refine below_step (by assumption) (by first | omega | (simp; done) | (simp; omega)) ?_) | (with_reducible refine Below.alloc ?_ (by first | omega | (simp; done) | (simp; omega)) _) | (with_reducible refine Below.drew ?_) | (with_reducible refine below_drewN ?_ _) | (with_reducible refine Below.setCell ?_ (by first | omega | (simp; done) | (simp; omega)) _)))⟩
              · by_cases h0k : k = 0
                · subst h0k
                  simp only [Nat.add_zero] at hdc0
                  clear hkc1 hkc2 HS
                  cases h2 : List.isEmpty z
                  · have hz : decide (z = []) = false := decide_eq_false (fun e => by rw [e] at h2; simp at h2)
                    rw [hz] at HV
                    clear hz
                    go_wp2
                    refine wp_region_after (by kernel_rfl) (by kernel_rfl) (wr.heap.size) ?_
                    repeat (go_big_quiet_step ((go_at_call 100; exact after_call (Nat.le_refl _) (HIX.out _))))
                    refine wpQuiet_nil ?_
                    intro w2 hb2
                    go_wp2
                    go_ret
                    exact ⟨ret_bool (HNO.out 0 hlt (by rw [HV.out]; rfl)), by (repeat (first | (with_reducible exact Below.refl _ _) | (with_reducible assumption) | (refine below_step (by assumption) (by first | omega | (simp; done) | (simp; omega)) ?_) | (with_reducible refine Below.alloc ?_ (by first | omega | (simp; done) | (simp; omega)) _) | (with_reducible refine Below.drew ?_) | (with_reducible refine below_drewN ?_ _) | (with_reducible refine Below.setCell ?_ (by first | omega | (simp; done) | (simp; omega)) _)))⟩
                  · have hz : decide (z = []) = true := decide_eq_true (List.isEmpty_iff.1 h2)
                    rw [hz] at HV
                    clear hz
                    go_wp2
                    refine wp_region_after (by kernel_rfl) (by kernel_rfl) (wr.heap.size) ?_
                    repeat (go_big_quiet_step ((go_at_call 100; exact after_call (Nat.le_refl _) (HIX.out _))))
                    refine wpQuiet_nil ?_
                    intro w2 hb2
                    go_wp2
                    exact ⟨⟨1, by omega, by go_num, by (repeat (first | (with_reducible exact Below.refl _ _) | (with_reducible assumption) | (refine below_step (by assumption) (by first | omega | (simp; done) | (simp; omega)) ?_) | (with_reducible refine Below.alloc ?_ (by first | omega | (simp; done) | (simp; omega)) _) | (with_reducible refine Below.drew ?_) | (with_reducible refine below_drewN ?_ _) | (with_reducible refine Below.setCell ?_ (by first | omega | (simp; done) | (simp; omega)) _))), Hnext.out (by rw [HV.out]; simp)⟩, by simp [intOf]; omega⟩
                · have hkz : 0 < k := by omega
                  have hkz2 : ((k : Int) == 0) = false := by rw [beq_eq_false_iff_ne]; omega
                  have hkd0 : decide (k = 0) = false := by simp [h0k]
                  have hkd1 : decide (k ≠ 0) = true := by simp [h0k]
                  rw [hkd0, hkd1] at HV
                  clear h0k hkd0 hkd1 hkc3
                  cases h2 : Sp.short x <;> rw [h2] at HS HV <;> clear h2
                  · go_wp2
                    refine wp_region_after (by kernel_rfl) (by kernel_rfl) (wr.heap.size) ?_
                    repeat (go_big_quiet_step (first | (go_at_call 100; exact after_call (Nat.le_refl _) (HIX.out _)) | (go_at_call 101; exact after_call (Nat.le_refl _) (HS.out _))))
                    refine wpQuiet_nil ?_
                    intro w2 hb2
                    go_wp2
                    go_ret
                    exact ⟨ret_bool (HNO.out k hlt (by rw [HV.out]; rfl)), by (repeat (first | (with_reducible exact Below.refl _ _) | (with_reducible assumption) | (refine below_step (by assumption) (by first | omega | (simp; done) | (simp; omega)) ?_) | (with_reducible refine Below.alloc ?_ (by first | omega | (simp; done) | (simp; omega)) _) | (with_reducible refine Below.drew ?_) | (with_reducible refine below_drewN ?_ _) | (with_reducible refine Below.setCell ?_ (by first | omega | (simp; done) | (simp; omega)) _)))⟩
                  · cases h3 : Op.bytesLess y x
                    all_goals
                      go_wp2
                      refine wp_region_after (by kernel_rfl) (by kernel_rfl) (wr.heap.size) ?_
                      repeat (go_big_quiet_step (first | (go_at_call 100; exact after_call (Nat.le_refl _) (HIX.out _)) | (go_at_call 101; exact after_call (Nat.le_refl _) (HS.out _))))
                      refine wpQuiet_nil ?_
                      intro w2 hb2
                      go_wp2
                    · go_ret
                      exact ⟨ret_bool (HNO.out k hlt (by rw [HV.out]; simp [Sp.lt, h3])), by (repeat (first | (with_reducible exact Below.refl _ _) | (with_reducible assumption) | (refine below_step (by assumption) (by first | omega | (simp; done) | (simp; omega)) ?_) | (with_reducible refine Below.alloc ?_ (by first | omega | (simp; done) | (simp; omega)) _) | (with_reducible refine Below.drew ?_) | (with_reducible refine below_drewN ?_ _) | (with_reducible refine Below.setCell ?_ (by first | omega | (simp; done) | (simp; omega)) _)))⟩
                    · exact ⟨⟨k + 1, by omega, by go_num, by (repeat (first | (with_reducible exact Below.refl _ _) | (with_reducible assumption) | (refine below_step (by assumption) (by first | omega | (simp; done) | (simp; omega)) ?_) | (with_reducible refine Below.alloc ?_ (by first | omega | (simp; done) | (simp; omega)) _) | (with_reducible refine Below.drew ?_) | (with_reducible refine below_drewN ?_ _) | (with_reducible refine Below.setCell ?_ (by first | omega | (simp; done) | (simp; omega)) _))), Hnext.out (by rw [HV.out]; simp [Sp.lt, h3])⟩, by simp [intOf]; omega⟩
            · have hkl : k = p.kids.length := by omega
              clear c2 c3
              go_wp2
              all_goals
                go_ret
                refine ⟨ret_bool (HFIN.out _ ?_ fun j hj => hok.out j (by omega)), by (repeat (first | (with_reducible exact Below.refl _ _) | (with_reducible assumption) | (refine below_step (by assumption) (by first | omega | (simp; done) | (simp; omega)) ?_) | (with_reducible refine Below.alloc ?_ (by first | omega | (simp; done) | (simp; omega)) _) | (with_reducible refine Below.drew ?_) | (with_reducible refine below_drewN ?_ _) | (with_reducible refine Below.setCell ?_ (by first | omega | (simp; done) | (simp; omega)) _)))⟩
                clear HFIN HNO HKY HDY
                go_light
                grind
        · have he1 : ((p.keys.length : Int) == (p.kids.length : Int)) = false := by rw [beq_eq_false_iff_ne]; omega
          have he2 : ((p.keys.length : Int) != (p.kids.length : Int)) = true := by simp; omega
          have hfin : false = Sp.isPage p := by rw [HI.out, decide_eq_false hkd]; rfl
          have HFIN := Lib.hid hfin
          clear hfin hkd HI HKY HDY
          go_wp2_with fail
          go_loopw [10] (fun i wr => i = .int .i64 0 ∧ wr = w1) (fun _ _ => 0)
          case atStart => exact ⟨rfl, rfl⟩
          case round =>
            obtain ⟨rfl, rfl⟩ := hrel
            go_wp2
            all_goals
              go_ret
              exact ⟨ret_bool HFIN.out, by (repeat (first | (with_reducible exact Below.refl _ _) | (with_reducible assumption) | (refine below_step (by assumption) (by first | omega | (simp; done) | (simp; omega)) ?_) | (with_reducible refine Below.alloc ?_ (by first | omega | (simp; done) | (simp; omega)) _) | (with_reducible refine Below.drew ?_) | (with_reducible refine below_drewN ?_ _) | (with_reducible refine Below.setCell ?_ (by first | omega | (simp; done) | (simp; omega)) _)))⟩
    · as_aux_lemma =>
        have e1 : (p.kind == 1) = false := by rw [beq_eq_false_iff_ne]; omega
        have e2 : (p.kind == 2) = false := by rw [beq_eq_false_iff_ne]; omega
        have e3 : (p.kind == 3) = true := beq_iff_eq.2 hk
        have HI := Lib.hid (Sp.page3 hk)
        clear hk
        generalize Sp.g1 p = g1 at *
        generalize Sp.g2 p = g2 at *
        generalize Sp.g3 p = g3 at *
        generalize Sp.g4 p = g4 at *
        generalize Sp.g5 p = g5 at *
        generalize Sp.g6 p = g6 at *
        clear c1 c2 c3 c5 c6 c7 c8 c9 c10 c11 c12 c13
        go_upto_region 18 with fail
        clear c0
        go_wp2_with (first
          | (go_at_call 100; refine (dpage_any _ _).mono ?_; rintro e w2 ⟨rfl, hb2⟩; have hz := hb2.size; have hsz : w.heap.size < w2.heap.size := Nat.lt_of_lt_of_le (by first | exact hsz | omega | (simp; done) | (simp; omega)) hz; obtain ⟨hc2, hf2⟩ := bcell hb2)
          | (go_at_call 102; refine (dvals_any p.vals r.V r.v 4 12 _ (Hp.out.vals.go (by (repeat (first | (with_reducible exact Below.refl _ _) | (with_reducible assumption) | (refine below_step (by assumption) (by first | omega | (simp; done) | (simp; omega)) ?_) | (with_reducible refine Below.alloc ?_ (by first | omega | (simp; done) | (simp; omega)) _) | (with_reducible refine Below.drew ?_) | (with_reducible refine below_drewN ?_ _) | (with_reducible refine Below.setCell ?_ (by first | omega | (simp; done) | (simp; omega)) _)))))).mono ?_; rintro e w2 ⟨rfl, hb2⟩; have hz := hb2.size; have hsz : w.heap.size < w2.heap.size := Nat.lt_of_lt_of_le (by first | exact hsz | omega | (simp; done) | (simp; omega)) hz; obtain ⟨hc2, hf2⟩ := bcell hb2)
          | (go_at_call 103; refine (dfrees_any p r _ (Hp.out.go (by (repeat (first | (with_reducible exact Below.refl _ _) | (with_reducible assumption) | (refine below_step (by assumption) (by first | omega | (simp; done) | (simp; omega)) ?_) | (with_reducible refine Below.alloc ?_ (by first | omega | (simp; done) | (simp; omega)) _) | (with_reducible refine Below.drew ?_) | (with_reducible refine below_drewN ?_ _) | (with_reducible refine Below.setCell ?_ (by first | omega | (simp; done) | (simp; omega)) _)))))).mono ?_; rintro e w2 ⟨rfl, hb2⟩; have hz := hb2.size; have hsz : w.heap.size < w2.heap.size := Nat.lt_of_lt_of_le (by first | exact hsz | omega | (simp; done) | (simp; omega)) hz; obtain ⟨hc2, hf2⟩ := bcell hb2)
          | (go_at_call 104; refine (droot_any p.mt.main _).mono ?_; rintro e w2 ⟨rfl, hb2⟩; have hz := hb2.size; have hsz : w.heap.size < w2.heap.size := Nat.lt_of_lt_of_le (by first | exact hsz | omega | (simp; done) | (simp; omega)) hz; obtain ⟨hc2, hf2⟩ := bcell hb2))
        all_goals
          go_ret
          refine ⟨ret_bool ?_, by (repeat (first | (with_reducible exact Below.refl _ _) | (with_reducible assumption) | (refine below_step (by assumption) (by first | omega | (simp; done) | (simp; omega)) ?_) | (with_reducible refine Below.alloc ?_ (by first | omega | (simp; done) | (simp; omega)) _) | (with_reducible refine Below.drew ?_) | (with_reducible refine below_drewN ?_ _) | (with_reducible refine Below.setCell ?_ (by first | omega | (simp; done) | (simp; omega)) _)))⟩
          rw [HI.out]
          clear HI Hp HBK
          go_light
          first | rfl | grind [Sp.isMt, Sp.noneOr]
    · as_aux_lemma =>
        have e1 : (p.kind == 1) = false := by rw [beq_eq_false_iff_ne]; omega
        have e2 : (p.kind == 2) = false := by rw [beq_eq_false_iff_ne]; omega
        have e3 : (p.kind == 3) = false := by rw [beq_eq_false_iff_ne]; omega
        have e4 : (p.kind == 4) = true := beq_iff_eq.2 hk
        have HI := Lib.hid (Sp.page4 hk)
        clear hk
        generalize Sp.g1 p = g1 at *
        generalize Sp.g2 p = g2 at *
        generalize Sp.g3 p = g3 at *
        generalize Sp.g4 p = g4 at *
        generalize Sp.g5 p = g5 at *
        generalize Sp.g6 p = g6 at *
        clear c1 c2 c3 c4 c6 c7 c8 c9 c10 c11 c12 c13
        go_upto_region 20 with fail
        clear c0
        go_wp2_with (first
          | (go_at_call 100; refine (dpage_any _ _).mono ?_; rintro e w2 ⟨rfl, hb2⟩; have hz := hb2.size; have hsz : w.heap.size < w2.heap.size := Nat.lt_of_lt_of_le (by first | exact hsz | omega | (simp; done) | (simp; omega)) hz; obtain ⟨hc2, hf2⟩ := bcell hb2)
          | (go_at_call 102; refine (dvals_any p.vals r.V r.v 4 12 _ (Hp.out.vals.go (by (repeat (first | (with_reducible exact Below.refl _ _) | (with_reducible assumption) | (refine below_step (by assumption) (by first | omega | (simp; done) | (simp; omega)) ?_) | (with_reducible refine Below.alloc ?_ (by first | omega | (simp; done) | (simp; omega)) _) | (with_reducible refine Below.drew ?_) | (with_reducible refine below_drewN ?_ _) | (with_reducible refine Below.setCell ?_ (by first | omega | (simp; done) | (simp; omega)) _)))))).mono ?_; rintro e w2 ⟨rfl, hb2⟩; have hz := hb2.size; have hsz : w.heap.size < w2.heap.size := Nat.lt_of_lt_of_le (by first | exact hsz | omega | (simp; done) | (simp; omega)) hz; obtain ⟨hc2, hf2⟩ := bcell hb2)
          | (go_at_call 103; refine (dfrees_any p r _ (Hp.out.go (by (repeat (first | (with_reducible exact Below.refl _ _) | (with_reducible assumption) | (refine below_step (by assumption) (by first | omega | (simp; done) | (simp; omega)) ?_) | (with_reducible refine Below.alloc ?_ (by first | omega | (simp; done) | (simp; omega)) _) | (with_reducible refine Below.drew ?_) | (with_reducible refine below_drewN ?_ _) | (with_reducible refine Below.setCell ?_ (by first | omega | (simp; done) | (simp; omega)) _)))))).mono ?_; rintro e w2 ⟨rfl, hb2⟩; have hz := hb2.size; have hsz : w.heap.size < w2.heap.size := Nat.lt_of_lt_of_le (by first | exact hsz | omega | (simp; done) | (simp; omega)) hz; obtain ⟨hc2, hf2⟩ := bcell hb2)
          | (go_at_call 104; refine (droot_any p.mt.main _).mono ?_; rintro e w2 ⟨rfl, hb2⟩; have hz := hb2.size; have hsz : w.heap.size < w2.heap.size := Nat.lt_of_lt_of_le (by first | exact hsz | omega | (simp; done) | (simp; omega)) hz; obtain ⟨hc2, hf2⟩ := bcell hb2))
        all_goals
          go_ret
          refine ⟨ret_bool ?_, by (repeat (first | (with_reducible exact Below.refl _ _) | (with_reducible assumption) | (refine below_step (by assumption) (by first | omega | (simp; done) | (simp; omega)) ?_) | (with_reducible refine Below.alloc ?_ (by first | omega | (simp; done) | (simp; omega)) _) | (with_reducible refine Below.drew ?_) | (with_reducible refine below_drewN ?_ _) | (with_reducible refine Below.setCell ?_ (by first | omega | (simp; done) | (simp; omega)) _)))⟩
          rw [HI.out]
          clear HI Hp HBK
          go_light
          first | rfl | grind [Sp.isMt, Sp.noneOr]
    · as_aux_lemma =>
        have e1 : (p.kind == 1) = false := by rw [beq_eq_false_iff_ne]; omega
        have e2 : (p.kind == 2) = false := by rw [beq_eq_false_iff_ne]; omega
        have e3 : (p.kind == 3) = false := by rw [beq_eq_false_iff_ne]; omega
        have e4 : (p.kind == 4) = false := by rw [beq_eq_false_iff_ne]; omega
        have e5 : (p.kind == 5) = true := beq_iff_eq.2 hk
        have HI := Lib.hid (Sp.page5 hk)
        clear hk
        generalize Sp.g1 p = g1 at *
        generalize Sp.g2 p = g2 at *
        generalize Sp.g3 p = g3 at *
        generalize Sp.g4 p = g4 at *
        generalize Sp.g5 p = g5 at *
        generalize Sp.g6 p = g6 at *
        clear c1 c2 c3 c4 c5 c6 c7 c8 c9 c10 c11 c12 c13
        go_upto_region 22 with fail
        clear c0
        go_wp2_with (first
          | (refine wpList_row PageT _ rfl w.heap.size rfl rfl PageT _ (0, 0) _ HBK.out Tryz.underlying59 rfl rfl ?_)
          | (go_at_call 100; refine (dpage_any _ _).mono ?_; rintro e w2 ⟨rfl, hb2⟩; have hz := hb2.size; have hsz : w.heap.size < w2.heap.size := Nat.lt_of_lt_of_le (by first | exact hsz | omega | (simp; done) | (simp; omega)) hz; obtain ⟨hc2, hf2⟩ := bcell hb2)
          | (go_at_call 102; refine (dvals_any p.vals r.V r.v 4 12 _ (Hp.out.vals.go (by (repeat (first | (with_reducible exact Below.refl _ _) | (with_reducible assumption) | (refine below_step (by assumption) (by first | omega | (simp; done) | (simp; omega)) ?_) | (with_reducible refine Below.alloc ?_ (by first | omega | (simp; done) | (simp; omega)) _) | (with_reducible refine Below.drew ?_) | (with_reducible refine below_drewN ?_ _) | (with_reducible refine Below.setCell ?_ (by first | omega | (simp; done) | (simp; omega)) _)))))).mono ?_; rintro e w2 ⟨rfl, hb2⟩; have hz := hb2.size; have hsz : w.heap.size < w2.heap.size := Nat.lt_of_lt_of_le (by first | exact hsz | omega | (simp; done) | (simp; omega)) hz; obtain ⟨hc2, hf2⟩ := bcell hb2)
          | (go_at_call 103; refine (dfrees_any p r _ (Hp.out.go (by (repeat (first | (with_reducible exact Below.refl _ _) | (with_reducible assumption) | (refine below_step (by assumption) (by first | omega | (simp; done) | (simp; omega)) ?_) | (with_reducible refine Below.alloc ?_ (by first | omega | (simp; done) | (simp; omega)) _) | (with_reducible refine Below.drew ?_) | (with_reducible refine below_drewN ?_ _) | (with_reducible refine Below.setCell ?_ (by first | omega | (simp; done) | (simp; omega)) _)))))).mono ?_; rintro e w2 ⟨rfl, hb2⟩; have hz := hb2.size; have hsz : w.heap.size < w2.heap.size := Nat.lt_of_lt_of_le (by first | exact hsz | omega | (simp; done) | (simp; omega)) hz; obtain ⟨hc2, hf2⟩ := bcell hb2)
          | (go_at_call 104; refine (droot_any p.mt.main _).mono ?_; rintro e w2 ⟨rfl, hb2⟩; have hz := hb2.size; have hsz : w.heap.size < w2.heap.size := Nat.lt_of_lt_of_le (by first | exact hsz | omega | (simp; done) | (simp; omega)) hz; obtain ⟨hc2, hf2⟩ := bcell hb2))
        all_goals
          go_ret
          refine ⟨ret_bool ?_, by (repeat (first | (with_reducible exact Below.refl _ _) | (with_reducible assumption) | (refine below_step (by assumption) (by first | omega | (simp; done) | (simp; omega)) ?_) | (with_reducible refine Below.alloc ?_ (by first | omega | (simp; done) | (simp; omega)) _) | (with_reducible refine Below.drew ?_) | (with_reducible refine below_drewN ?_ _) | (with_reducible refine Below.setCell ?_ (by first | omega | (simp; done) | (simp; omega)) _)))⟩
          rw [HI.out]
          clear HI Hp HBK
          go_light
          first | rfl | grind [Sp.isMt, Sp.noneOr]
    · as_aux_lemma =>
        have e1 : (p.kind == 1) = false := by rw [beq_eq_false_iff_ne]; omega
        have e2 : (p.kind == 2) = false := by rw [beq_eq_false_iff_ne]; omega
        have e3 : (p.kind == 3) = false := by rw [beq_eq_false_iff_ne]; omega
        have e4 : (p.kind == 4) = false := by rw [beq_eq_false_iff_ne]; omega
        have e5 : (p.kind == 5) = false := by rw [beq_eq_false_iff_ne]; omega
        have e6 : (p.kind == 6) = true := beq_iff_eq.2 hk
        have HI := Lib.hid (Sp.page6 hk)
        clear hk
        generalize Sp.g1 p = g1 at *
        generalize Sp.g2 p = g2 at *
        generalize Sp.g3 p = g3 at *
        generalize Sp.g4 p = g4 at *
        generalize Sp.g5 p = g5 at *
        generalize Sp.g6 p = g6 at *
        clear c1 c2 c3 c4 c5 c6 c7 c8 c9 c10 c11 c12 c13
        go_upto_region 24 with fail
        go_upto_region 25 with (first
          | (refine wpList_at MetaT _ rfl w.heap.size 8 rfl rfl #[.int .u64 p.mt.txn, .int .i64 p.mt.main.page, .int .i64 p.mt.main.count, .int .i64 p.mt.main.flags, .int .i64 p.mt.free, .int .i64 p.mt.last] _ (fun j v hv => by rw [HBK.out.cell (8 + j)]; match j, hv with | 0, hv => exact hv | 1, hv => exact hv | 2, hv => exact hv | 3, hv => exact hv | 4, hv => exact hv | 5, hv => exact hv | j + 6, hv => simp at hv) Tryz.underlying57 rfl rfl ?_)
          | (refine wpList_new MetaT _ _ rfl rfl rfl rfl rfl rfl _ rfl (of_decide_eq_true (by kernel_rfl)) (by kernel_rfl) (by kernel_rfl) (by kernel_rfl) ?_))
        clear c0
        obtain ⟨z0, z1, z2, z3, z4, z5⟩ := (Blk.new w1 MetaT #[.int .u64 p.mt.txn, .int .i64 p.mt.main.page, .int .i64 p.mt.main.count, .int .i64 p.mt.main.flags, .int .i64 p.mt.free, .int .i64 p.mt.last]).at6
        have hB := hB.alloc hB.size (.cells #[.int .u64 p.mt.txn, .int .i64 p.mt.main.page, .int .i64 p.mt.main.count, .int .i64 p.mt.main.flags, .int .i64 p.mt.free, .int .i64 p.mt.last] MetaT)
        have hszm : w1.heap.size < (w1.alloc (.cells #[.int .u64 p.mt.txn, .int .i64 p.mt.main.page, .int .i64 p.mt.main.count, .int .i64 p.mt.main.flags, .int .i64 p.mt.free, .int .i64 p.mt.last] MetaT)).heap.size := by simp
        generalize w1.alloc (.cells #[.int .u64 p.mt.txn, .int .i64 p.mt.main.page, .int .i64 p.mt.main.count, .int .i64 p.mt.main.flags, .int .i64 p.mt.free, .int .i64 p.mt.last] MetaT) = w4 at *
        clear HBK Hp
        go_wp2_with (first
          | ((go_at_call 100; refine (dpage_any _ _).mono ?_; rintro e w2 ⟨rfl, hb2⟩; have hz := hb2.size; have hsz : w.heap.size < w2.heap.size := Nat.lt_of_lt_of_le (by first | exact hsz | omega | (simp; done) | (simp; omega)) hz; obtain ⟨hc2, hf2⟩ := bcell hb2); have hszm := Nat.lt_of_lt_of_le hszm hz)
          | ((go_at_call 104; refine (droot_any p.mt.main _).mono ?_; rintro e w2 ⟨rfl, hb2⟩; have hz := hb2.size; have hsz : w.heap.size < w2.heap.size := Nat.lt_of_lt_of_le (by first | exact hsz | omega | (simp; done) | (simp; omega)) hz; obtain ⟨hc2, hf2⟩ := bcell hb2); have hszm := Nat.lt_of_lt_of_le hszm hz))
        all_goals
          go_ret
          refine ⟨ret_bool ?_, by (repeat (first | (with_reducible exact Below.refl _ _) | (with_reducible assumption) | (refine below_step (by assumption) (by first | omega | (simp; done) | (simp; omega)) ?_) | (with_reducible refine Below.alloc ?_ (by first | omega | (simp; done) | (simp; omega)) _) | (with_reducible refine Below.drew ?_) | (with_reducible refine below_drewN ?_ _) | (with_reducible refine Below.setCell ?_ (by first | omega | (simp; done) | (simp; omega)) _)))⟩
          rw [HI.out]
          clear HI
          go_light
          first | rfl | grind [Sp.isMt, Sp.noneOr]
    · as_aux_lemma =>
        have e1 : (p.kind == 1) = false := by rw [beq_eq_false_iff_ne]; omega
        have e2 : (p.kind == 2) = false := by rw [beq_eq_false_iff_ne]; omega
        have e3 : (p.kind == 3) = false := by rw [beq_eq_false_iff_ne]; omega
        have e4 : (p.kind == 4) = false := by rw [beq_eq_false_iff_ne]; omega
        have e5 : (p.kind == 5) = false := by rw [beq_eq_false_iff_ne]; omega
        have e6 : (p.kind == 6) = false := by rw [beq_eq_false_iff_ne]; omega
        have HI := Lib.hid (Sp.page7 hk)
        clear hk
        generalize Sp.g1 p = g1 at *
        generalize Sp.g2 p = g2 at *
        generalize Sp.g3 p = g3 at *
        generalize Sp.g4 p = g4 at *
        generalize Sp.g5 p = g5 at *
        generalize Sp.g6 p = g6 at *
        go_wp2_with (first
          | (go_at_call 100; refine (dpage_any _ _).mono ?_; rintro e w2 ⟨rfl, hb2⟩; have hz := hb2.size; have hsz : w.heap.size < w2.heap.size := Nat.lt_of_lt_of_le (by first | exact hsz | omega | (simp; done) | (simp; omega)) hz; obtain ⟨hc2, hf2⟩ := bcell hb2)
          | (go_at_call 102; refine (dvals_any p.vals r.V r.v 4 12 _ (Hp.out.vals.go (by (repeat (first | (with_reducible exact Below.refl _ _) | (with_reducible assumption) | (refine below_step (by assumption) (by first | omega | (simp; done) | (simp; omega)) ?_) | (with_reducible refine Below.alloc ?_ (by first | omega | (simp; done) | (simp; omega)) _) | (with_reducible refine Below.drew ?_) | (with_reducible refine below_drewN ?_ _) | (with_reducible refine Below.setCell ?_ (by first | omega | (simp; done) | (simp; omega)) _)))))).mono ?_; rintro e w2 ⟨rfl, hb2⟩; have hz := hb2.size; have hsz : w.heap.size < w2.heap.size := Nat.lt_of_lt_of_le (by first | exact hsz | omega | (simp; done) | (simp; omega)) hz; obtain ⟨hc2, hf2⟩ := bcell hb2)
          | (go_at_call 103; refine (dfrees_any p r _ (Hp.out.go (by (repeat (first | (with_reducible exact Below.refl _ _) | (with_reducible assumption) | (refine below_step (by assumption) (by first | omega | (simp; done) | (simp; omega)) ?_) | (with_reducible refine Below.alloc ?_ (by first | omega | (simp; done) | (simp; omega)) _) | (with_reducible refine Below.drew ?_) | (with_reducible refine below_drewN ?_ _) | (with_reducible refine Below.setCell ?_ (by first | omega | (simp; done) | (simp; omega)) _)))))).mono ?_; rintro e w2 ⟨rfl, hb2⟩; have hz := hb2.size; have hsz : w.heap.size < w2.heap.size := Nat.lt_of_lt_of_le (by first | exact hsz | omega | (simp; done) | (simp; omega)) hz; obtain ⟨hc2, hf2⟩ := bcell hb2)
          | (go_at_call 104; refine (droot_any p.mt.main _).mono ?_; rintro e w2 ⟨rfl, hb2⟩; have hz := hb2.size; have hsz : w.heap.size < w2.heap.size := Nat.lt_of_lt_of_le (by first | exact hsz | omega | (simp; done) | (simp; omega)) hz; obtain ⟨hc2, hf2⟩ := bcell hb2))
        all_goals
          go_ret
          refine ⟨ret_bool ?_, by (repeat (first | (with_reducible exact Below.refl _ _) | (with_reducible assumption) | (refine below_step (by assumption) (by first | omega | (simp; done) | (simp; omega)) ?_) | (with_reducible refine Below.alloc ?_ (by first | omega | (simp; done) | (simp; omega)) _) | (with_reducible refine Below.drew ?_) | (with_reducible refine below_drewN ?_ _) | (with_reducible refine Below.setCell ?_ (by first | omega | (simp; done) | (simp; omega)) _)))⟩
          rw [HI.out]
end Go.Proofs.YtlpmjeiogdlifaaGreat
namespace Go.Proofs.YtlpmjeiogdlifaaGreat
open Go.RowKit Go.WideShapes Go.ChangeShapes Go.Deep
theorem addr_of {w : World} {a : Addr} {u : Value} (h : w.cell? (a.add 0) = some u) : ∃ b off, a = ⟨b, off, none⟩ ∧ b < w.heap.size := by
  obtain ⟨b, off, spot⟩ := a
  have hspot : spot = none := by simpa [Addr.add] using World.cell?_spot h
  subst hspot
  refine ⟨b, off, rfl, ?_⟩
  have := block_lt_of_cell h
  simpa [Go.WideShapes.add_plain] using this
section
variable {H : Type} {enc : TypeId × Value → H} {w : World} {base : Nat} {spare : Nat → Bool} {held : Bool}
end
end Go.Proofs.YtlpmjeiogdlifaaGreat
namespace Go.Proofs.YtlpmjeiogdlifaaGreat
open Go.RowKit Go.WideShapes Go.ChangeShapes Go.Deep
def u8v (n : Nat) : Value := .int .u8 (n : Int)
abbrev U8s (w : World) (A : Option Addr) (l : List Nat) : Prop := Row w NoM A (l.map u8v)
theorem U8s.at_ {w : World} {A : Option Addr} {l : List Nat} (h : U8s w A l) {j : Nat} (hj : j < l.length) : ∃ b off, A = some ⟨b, off, none⟩ ∧ b < w.heap.size ∧ ∀ j, j < l.length → w.cell? ⟨b, off + j, none⟩ = some (.int .u8 ((l.getD j 0 : Nat) : Int)) := by
  obtain ⟨b, off, e, hb, _, hc⟩ := Row.open_ h (by rw [List.length_map]; omega)
  refine ⟨b, off, e, hb, fun i hi => hc i _ ?_⟩
  rw [List.getElem?_map, List.getElem?_eq_getElem hi]
  simp [u8v, List.getD, hi]
section
variable {H : Type} {enc : TypeId × Value → H} {w : World} {base : Nat} {held : Bool}
set_option maxRecDepth 100000 in
theorem open_u8s {r : Reach} {b0 : Nat} {v : Value} {d : DataW H} {ps : List MemPlace} (hv : Value.okWide Tryz.prog w r b0 22 v) (h : DataW.Trod enc Tryz.prog w base (fun _ => true) held 22 v d ps) :
    ∃ (l : List Nat) (A : Option Addr) (c : Nat), v = .slice A l.length c ∧ U8s w A l ∧ ∀ k ∈ l, k < 256 := by
  obtain ⟨a, n, c, rfl⟩ := okWide_slice Tryz.underlying22 hv
  obtain ⟨fuel, hf⟩ := h
  rcases open_ints Tryz.underlying22 Tryz.underlying5 (by kernel_rfl) hf with ⟨hc, _⟩ | ⟨a', len, cap, zs, hc, _, hl, hm, hz, _, hcell, hwf⟩
  · simp only [Value.cells, List.cons.injEq, and_true] at hc
    exact ⟨[], none, 0, hc, Row.nil_, by simp⟩
  · simp only [Value.cells, List.cons.injEq, and_true] at hc
    unfold maxLen at hm
    simp only [if_true] at hz
    have hb : ∀ n ∈ zs, 0 ≤ n ∧ n < 256 := fun n hn => by have := bounds_u8 (hwf n hn); omega
    have hll : ((zs.take len).map Int.toNat).length = len := by simp; omega
    refine ⟨(zs.take len).map Int.toNat, some a', cap, by rw [hc, hll], ⟨by rw [List.length_map, hll]; omega, ?_⟩, fun k hk => ?_⟩
    · rcases Nat.eq_zero_or_pos len with h0 | h0
      · left; rw [h0]; rfl
      · right
        obtain ⟨b, off, rfl, hbl⟩ := addr_of (hcell 0 (by omega))
        refine ⟨b, off, rfl, hbl, id, fun j u hu => ?_⟩
        have hj : j < len := by
          have := (List.getElem?_eq_some_iff.1 hu).1
          rw [List.length_map, hll] at this
          exact this
        have h1 := hcell j (by omega)
        rw [Go.WideShapes.add_plain] at h1
        rw [h1]
        have hjz : j < zs.length := by omega
        have hz0 := hb zs[j] (List.getElem_mem hjz)
        have e : ((zs.take len).map Int.toNat)[j]? = some (zs[j].toNat) := by rw [List.getElem?_map, List.getElem?_take, if_pos hj, List.getElem?_eq_getElem hjz]; rfl
        rw [List.getElem?_map, e] at hu
        have hu : u8v zs[j].toNat = u := by simpa using hu
        rw [← hu]
        have e2 : zs.getD j 0 = zs[j] := by simp [List.getD, hjz]
        rw [e2]
        unfold u8v
        rw [Int.toNat_of_nonneg hz0.1]
    · obtain ⟨n, hn, rfl⟩ := List.mem_map.1 hk
      have := hb n (List.mem_of_mem_take hn)
      omega
end
end Go.Proofs.YtlpmjeiogdlifaaGreat
