/- isLeaf. isBranch. isFree. What a page has; whether a page may be. -/
import Derived.Test.YtlpmjeiogdlifaaGreatQB00
import Derived.Test.YtlpmjeiogdlifaaGreatQB05
import Derived.Test.YtlpmjeiogdlifaaGreatQB06
import Derived.StillTailTactics
set_option linter.unusedSimpArgs false
set_option linter.unusedVariables false
namespace Go.Proofs.YtlpmjeiogdlifaaGreat
open Go.RowKit
attribute [local go_sem low] mk_extract
attribute [local go_sem] After.cell After.frozen mk_extract_end ByteArray.mk_append_mk
set_option maxRecDepth 100000 in
set_option maxHeartbeats 1600000 in
theorem isLeaf_any (l : List Sp.Item) (A : Option Addr) (c : Nat) {M : Nat → Prop} (w : World) (hl : Items w M A l) :
    Calls Tryz.prog 106 #[.slice A l.length c] w fun e w' => e = .returned (.bool (Sp.isLeaf l)) ∧ Below w.heap.size w w' := by
  have hlen := hl.len
  have Hl := Lib.hid hl
  clear hl
  go_enter Tryz.func106, Tryz.ntmps106
  go_wp2
  go_loopw [7] (fun i wr => ∃ k : Nat, k ≤ l.length ∧ i = .int .i64 k ∧ Below w.heap.size w wr ∧ Hid (∀ j, j < k → Sp.leafAt l j = true)) (fun i _ => l.length - (intOf i).toNat)
  case atStart => exact ⟨0, Nat.zero_le _, rfl, Below.refl _ _, fun j h => absurd h (by omega)⟩
  case round =>
    obtain ⟨k, hk, rfl, hb, hok⟩ := hrel
    have hsz := hb.size
    by_cases hlt : k < l.length
    · obtain ⟨b, off, rfl, hbl, hc⟩ := Hl.out.at_ hlt
      obtain ⟨V, cv, hi, ht⟩ := hc k hlt
      have hk1 : 0 < k → wr.cell? ⟨b, off + (k - 1) * 10, none⟩ = some (.string ⟨(l.getD (k - 1) Sp.item0).key.toArray⟩) := fun h => by
        obtain ⟨V', cv', hi', ht'⟩ := hc (k - 1) (by omega)
        exact (hb.cell (p := ⟨_, _, none⟩) hbl).trans hi'.c0
      clear hc
      have hi := hi.keep (w' := wr) fun j => hb.cell (p := ⟨_, _, none⟩) hbl
      have ht := Lib.hid (ht.go hb)
      obtain ⟨h0, h1, h2, h3, h4, h5, h6, h7, h8, h9⟩ := hi
      have HV := Lib.hid (Sp.leafAt_def l k)
      have hbw : b < wr.heap.size := by omega
      generalize l.getD k Sp.item0 = x at *
      generalize (l.getD (k - 1) Sp.item0).key = y at *
      have HI := Lib.hid (fun w => isItem_any x V cv (M := M) w)
      have hclose : ∀ w2, Sp.leafAt l k = false → Below w.heap.size w w2 → (Ending.returned (.bool false) = .returned (.bool (Sp.isLeaf l)) ∧ Below w.heap.size w w2) := fun w2 hv h2 =>
        ⟨by rw [Sp.isLeaf, Sp.allTo_false hlt hv]; rfl, h2⟩
      have Hclose := Lib.hid hclose
      clear hclose
      have hnext : Sp.leafAt l k = true → ∀ j, j < k + 1 → Sp.leafAt l j = true := fun hv j hj => by
        rcases Nat.lt_succ_iff_lt_or_eq.1 hj with h | rfl
        · exact hok.out j h
        · exact hv
      have Hnext := Lib.hid hnext
      clear hnext
      cases hI : Sp.isItem x
      · rw [hI] at HI HV
        have HI2 := Lib.hid hI
        clear hI
        go_wp2
        refine wp_region_after (by kernel_rfl) (by kernel_rfl) (wr.heap.size + 1) ?_
        repeat (go_big_quiet_step (first | (go_at_call 161; exact after_call (by simp) (HI.out _ (Txts.go ht.out (Below.trans (b := wr.alloc _) (by go_grown) ((After.h _).mono (by simp))))))))
        refine wpQuiet_nil ?_
        intro w2 hb2
        go_wp2
        go_ret
        exact Hclose.out _ (by rw [HV.out]; rfl) (by (repeat (first | (with_reducible exact Below.refl _ _) | (with_reducible assumption) | (refine below_step (by assumption) (by first | omega | (simp; done) | (simp; omega)) ?_) | (with_reducible refine Below.alloc ?_ (by first | omega | (simp; done) | (simp; omega)) _) | (with_reducible refine Below.drew ?_) | (with_reducible refine below_drewN ?_ _) | (with_reducible refine Below.setCell ?_ (by first | omega | (simp; done) | (simp; omega)) _))))
      · rw [hI] at HI HV
        have HI2 := Lib.hid hI
        clear hI
        by_cases h0k : k = 0
        · have hkz : ¬ 0 < k := by omega
          have HK := Lib.hid h0k
          clear h0k
          go_wp2
          refine wp_region_after (by kernel_rfl) (by kernel_rfl) (wr.heap.size + 1) ?_
          repeat (go_big_quiet_step (first | (go_at_call 161; exact after_call (by simp) (HI.out _ (Txts.go ht.out (Below.trans (b := wr.alloc _) (by go_grown) ((After.h _).mono (by simp))))))))
          refine wpQuiet_nil ?_
          intro w2 hb2
          go_wp2
          exact ⟨⟨k + 1, by omega, by go_num, by (repeat (first | (with_reducible exact Below.refl _ _) | (with_reducible assumption) | (refine below_step (by assumption) (by first | omega | (simp; done) | (simp; omega)) ?_) | (with_reducible refine Below.alloc ?_ (by first | omega | (simp; done) | (simp; omega)) _) | (with_reducible refine Below.drew ?_) | (with_reducible refine below_drewN ?_ _) | (with_reducible refine Below.setCell ?_ (by first | omega | (simp; done) | (simp; omega)) _))), Hnext.out (by rw [HV.out]; simp [HK.out])⟩, by simp [intOf]; omega⟩
        · have hkz : 0 < k := by omega
          have hk2 := hk1 hkz
          clear hk1
          have HK := Lib.hid h0k
          clear h0k
          cases hlt2 : Op.bytesLess y x.key
          all_goals
            go_wp2
            refine wp_region_after (by kernel_rfl) (by kernel_rfl) (wr.heap.size + 1) ?_
            repeat (go_big_quiet_step (first | (go_at_call 161; exact after_call (by simp) (HI.out _ (Txts.go ht.out (Below.trans (b := wr.alloc _) (by go_grown) ((After.h _).mono (by simp))))))))
            refine wpQuiet_nil ?_
            intro w2 hb2
            go_wp2
          · go_ret
            exact Hclose.out _ (by rw [HV.out]; simp [HK.out, Sp.lt, hlt2]) (by (repeat (first | (with_reducible exact Below.refl _ _) | (with_reducible assumption) | (refine below_step (by assumption) (by first | omega | (simp; done) | (simp; omega)) ?_) | (with_reducible refine Below.alloc ?_ (by first | omega | (simp; done) | (simp; omega)) _) | (with_reducible refine Below.drew ?_) | (with_reducible refine below_drewN ?_ _) | (with_reducible refine Below.setCell ?_ (by first | omega | (simp; done) | (simp; omega)) _))))
          · exact ⟨⟨k + 1, by omega, by go_num, by (repeat (first | (with_reducible exact Below.refl _ _) | (with_reducible assumption) | (refine below_step (by assumption) (by first | omega | (simp; done) | (simp; omega)) ?_) | (with_reducible refine Below.alloc ?_ (by first | omega | (simp; done) | (simp; omega)) _) | (with_reducible refine Below.drew ?_) | (with_reducible refine below_drewN ?_ _) | (with_reducible refine Below.setCell ?_ (by first | omega | (simp; done) | (simp; omega)) _))), Hnext.out (by rw [HV.out]; simp [Sp.lt, hlt2])⟩, by simp [intOf]; omega⟩
    · have hkl : k = l.length := by omega
      go_wp2
      all_goals
        go_ret
        refine ⟨ret_bool ?_, hb⟩
        go_light
        rw [Sp.isLeaf, Sp.allTo_true fun j hj => hok.out j (by omega)]
        grind
end Go.Proofs.YtlpmjeiogdlifaaGreat
namespace Go.Proofs.YtlpmjeiogdlifaaGreat
open Go.RowKit
attribute [local go_sem low] mk_extract
attribute [local go_sem] After.cell After.frozen mk_extract_end ByteArray.mk_append_mk
set_option maxRecDepth 100000 in
set_option maxHeartbeats 1600000 in
theorem isBranch_any (p : Sp.Page) (r : Refs) {M : Nat → Prop} (w : World) (hp : PageRd w M p r) :
    Calls Tryz.prog 107 #[.agg (pageV p r).toArray] w fun e w' => e = .returned (.bool (Sp.isBranch p)) ∧ Below w.heap.size w w' := by
  have Hk := Lib.hid hp.keys
  have Hd := Lib.hid hp.kids
  clear hp
  have hdl := Hd.out.len
  have hkl := Hk.out.len
  have HB := Lib.hid (Sp.isBranch_def p)
  obtain ⟨I, K, D, V, F, ci, ck, cd, cv, cf⟩ := r
  simp only [pageV] at *
  by_cases hd : 2 ≤ p.kids.length ∧ p.kids.length ≤ 4 ∧ p.keys.length = p.kids.length
  · obtain ⟨d2, d4, hkd⟩ := hd
    have he1 : ((p.keys.length : Int) == (p.kids.length : Int)) = true := by simp [hkd]
    have he2 : ((p.keys.length : Int) != (p.kids.length : Int)) = false := by simp [hkd]
    have hk0 : 0 < p.keys.length := by omega
    obtain ⟨kb, ko, rfl, hkb, hkc⟩ := Hk.out.at_ hk0
    obtain ⟨db, do_, rfl, hdb, hdc⟩ := Hd.out.at_ (by omega : 0 < p.kids.length)
    have hkc0 := hkc 0 (by omega)
    simp only [Nat.add_zero] at hkc0
    have Hkc := Lib.hid hkc
    have Hdc := Lib.hid hdc
    have HKD := Lib.hid hkd
    have HB2 := HB.out
    rw [decide_eq_true d2, decide_eq_true d4, decide_eq_true hkd] at HB2
    simp only [Bool.true_and] at HB2
    clear hkc hdc hkd HB
    have HB := Lib.hid HB2
    clear HB2
    by_cases hf : p.keys.getD 0 [] = []
    · have hfe : List.isEmpty (p.keys.getD 0 []) = true := by rw [hf]; rfl
      have HB2 := HB.out
      rw [decide_eq_true hf] at HB2
      simp only [Bool.true_and] at HB2
      clear HB hf
      have HB := Lib.hid HB2
      clear HB2
      generalize p.keys.getD 0 [] = y0 at hkc0 hfe
      go_enter Tryz.func107, Tryz.ntmps107
      go_wp2
      go_loopw [34] (fun i wr => ∃ k : Nat, k ≤ p.kids.length ∧ i = .int .i64 k ∧ Below w.heap.size w wr ∧ w.heap.size < wr.heap.size ∧ wr.cell? ⟨w.heap.size, 2, none⟩ = some (.slice (some ⟨kb, ko, none⟩) p.keys.length ck) ∧ Hid (∀ j, j < k → Sp.branchAt p.keys p.kids j = true)) (fun i _ => p.kids.length - (intOf i).toNat)
      case atStart => exact ⟨0, Nat.zero_le _, rfl, by go_grown, by simp, by simp [go_sem], fun j h => absurd h (by omega)⟩
      case round =>
        obtain ⟨k, hk, rfl, hb, hsw, hbox, hok⟩ := hrel
        by_cases hlt : k < p.kids.length
        · have hdc0 := (hb.cell (p := ⟨_, _, none⟩) hdb).trans (Hdc.out k hlt)
          have hkc1 := (hb.cell (p := ⟨_, _, none⟩) hkb).trans (Hkc.out k (by have := HKD.out; omega))
          have hkc2 := (hb.cell (p := ⟨_, _, none⟩) hkb).trans (Hkc.out (k - 1) (by have := HKD.out; omega))
          have hltk : k < p.keys.length := by have := HKD.out; omega
          have hkbw : kb < wr.heap.size := by omega
          have HV := Lib.hid (Sp.branchAt_def p.keys p.kids k)
          generalize p.kids.getD k 0 = d at *
          generalize p.keys.getD k [] = x at *
          generalize p.keys.getD (k - 1) [] = y at *
          have hnext : Sp.branchAt p.keys p.kids k = true → ∀ j, j < k + 1 → Sp.branchAt p.keys p.kids j = true := fun hv j hj => by
            rcases Nat.lt_succ_iff_lt_or_eq.1 hj with h | rfl
            · exact hok.out j h
            · exact hv
          have Hnext := Lib.hid hnext
          clear hnext
          have HI := Lib.hid (isID_any d)
          have HS := Lib.hid (short_any x)
          cases h1 : Sp.isID d <;> rw [h1] at HI HV
          · clear h1
            go_wp2
            refine wp_region_after (by kernel_rfl) (by kernel_rfl) (wr.heap.size) ?_
            repeat (go_big_quiet_step ((go_at_call 162; exact after_call (by simp) (HI.out _))))
            refine wpQuiet_nil ?_
            intro w2 hb2
            go_wp2
            go_ret
            exact ⟨ret_bool (by rw [HB.out, Sp.allTo_false hlt (by rw [HV.out]; rfl)]), by (repeat (first | (with_reducible exact Below.refl _ _) | (with_reducible assumption) | (refine below_step (by assumption) (by first | omega | (simp; done) | (simp; omega)) ?_) | (with_reducible refine Below.alloc ?_ (by first | omega | (simp; done) | (simp; omega)) _) | (with_reducible refine Below.drew ?_) | (with_reducible refine below_drewN ?_ _) | (with_reducible refine Below.setCell ?_ (by first | omega | (simp; done) | (simp; omega)) _)))⟩
          · clear h1
            by_cases h0k : k = 0
            · have hkz : ¬ 0 < k := by omega
              have HK := Lib.hid h0k
              clear h0k
              go_wp2
              refine wp_region_after (by kernel_rfl) (by kernel_rfl) (wr.heap.size) ?_
              repeat (go_big_quiet_step ((go_at_call 162; exact after_call (by simp) (HI.out _))))
              refine wpQuiet_nil ?_
              intro w2 hb2
              obtain ⟨hc2, hf2⟩ := bcell hb2
              have hz2 := hb2.size
              go_wp2
              exact ⟨⟨k + 1, by omega, by go_num, by (repeat (first | (with_reducible exact Below.refl _ _) | (with_reducible assumption) | (refine below_step (by assumption) (by first | omega | (simp; done) | (simp; omega)) ?_) | (with_reducible refine Below.alloc ?_ (by first | omega | (simp; done) | (simp; omega)) _) | (with_reducible refine Below.drew ?_) | (with_reducible refine below_drewN ?_ _) | (with_reducible refine Below.setCell ?_ (by first | omega | (simp; done) | (simp; omega)) _))), by omega, (hc2 _ _ hsw).trans hbox, Hnext.out (by rw [HV.out]; simp [HK.out])⟩, by simp [intOf]; omega⟩
            · have hkz : 0 < k := by omega
              have hkd0 : decide (k = 0) = false := by simp [h0k]
              rw [hkd0] at HV
              clear h0k hkd0
              cases h2 : Sp.short x <;> rw [h2] at HS HV <;> clear h2
              · go_wp2
                refine wp_region_after (by kernel_rfl) (by kernel_rfl) (wr.heap.size) ?_
                repeat (go_big_quiet_step (first | (go_at_call 162; exact after_call (by simp) (HI.out _)) | (go_at_call 135; exact after_call (by simp) (HS.out _))))
                refine wpQuiet_nil ?_
                intro w2 hb2
                go_wp2
                go_ret
                exact ⟨ret_bool (by rw [HB.out, Sp.allTo_false hlt (by rw [HV.out]; rfl)]), by (repeat (first | (with_reducible exact Below.refl _ _) | (with_reducible assumption) | (refine below_step (by assumption) (by first | omega | (simp; done) | (simp; omega)) ?_) | (with_reducible refine Below.alloc ?_ (by first | omega | (simp; done) | (simp; omega)) _) | (with_reducible refine Below.drew ?_) | (with_reducible refine below_drewN ?_ _) | (with_reducible refine Below.setCell ?_ (by first | omega | (simp; done) | (simp; omega)) _)))⟩
              · cases h3 : Op.bytesLess y x
                all_goals
                  go_wp2
                  refine wp_region_after (by kernel_rfl) (by kernel_rfl) (wr.heap.size) ?_
                  repeat (go_big_quiet_step (first | (go_at_call 162; exact after_call (by simp) (HI.out _)) | (go_at_call 135; exact after_call (by simp) (HS.out _))))
                  refine wpQuiet_nil ?_
                  intro w2 hb2
                  obtain ⟨hc2, hf2⟩ := bcell hb2
                  have hz2 := hb2.size
                  go_wp2
                · go_ret
                  exact ⟨ret_bool (by rw [HB.out, Sp.allTo_false hlt (by rw [HV.out]; simp [Sp.lt, h3])]), by (repeat (first | (with_reducible exact Below.refl _ _) | (with_reducible assumption) | (refine below_step (by assumption) (by first | omega | (simp; done) | (simp; omega)) ?_) | (with_reducible refine Below.alloc ?_ (by first | omega | (simp; done) | (simp; omega)) _) | (with_reducible refine Below.drew ?_) | (with_reducible refine below_drewN ?_ _) | (with_reducible refine Below.setCell ?_ (by first | omega | (simp; done) | (simp; omega)) _)))⟩
                · exact ⟨⟨k + 1, by omega, by go_num, by (repeat (first | (with_reducible exact Below.refl _ _) | (with_reducible assumption) | (refine below_step (by assumption) (by first | omega | (simp; done) | (simp; omega)) ?_) | (with_reducible refine Below.alloc ?_ (by first | omega | (simp; done) | (simp; omega)) _) | (with_reducible refine Below.drew ?_) | (with_reducible refine below_drewN ?_ _) | (with_reducible refine Below.setCell ?_ (by first | omega | (simp; done) | (simp; omega)) _))), by omega, (hc2 _ _ hsw).trans hbox, Hnext.out (by rw [HV.out]; simp [Sp.lt, h3])⟩, by simp [intOf]; omega⟩
        · have hkl2 : k = p.kids.length := by omega
          go_wp2
          go_ret
          exact ⟨ret_bool (by rw [HB.out, Sp.allTo_true fun j hj => hok.out j (by omega)]), hb⟩
    · have hfe : List.isEmpty (p.keys.getD 0 []) = false := by simpa [List.isEmpty_eq_false_iff] using hf
      have HB2 := HB.out
      rw [decide_eq_false hf] at HB2
      clear HB hf
      have HB := Lib.hid HB2
      clear HB2
      generalize p.keys.getD 0 [] = y0 at hkc0 hfe
      go_enter Tryz.func107, Tryz.ntmps107
      go_wp2
      go_ret
      exact ⟨ret_bool (by rw [HB.out]; rfl), by go_grown⟩
  · have hno : Sp.isBranch p = false := by
      rw [HB.out]
      by_cases a1 : 2 ≤ p.kids.length
      · by_cases a2 : p.kids.length ≤ 4
        · have a3 : ¬ p.keys.length = p.kids.length := fun h => hd ⟨a1, a2, h⟩
          simp [a3]
        · simp [a2]
      · simp [a1]
    have HN := Lib.hid hno
    clear hno HB
    rcases (by omega : p.kids.length < 2 ∨ 4 < p.kids.length ∨ p.keys.length ≠ p.kids.length) with h | h | h
    · clear hd
      go_enter Tryz.func107, Tryz.ntmps107
      go_wp2
      go_ret
      exact ⟨ret_bool (by rw [HN.out]), by go_grown⟩
    · clear hd
      go_enter Tryz.func107, Tryz.ntmps107
      go_wp2
      go_ret
      exact ⟨ret_bool (by rw [HN.out]), by go_grown⟩
    · have he1 : ((p.keys.length : Int) == (p.kids.length : Int)) = false := by simp; omega
      have he2 : ((p.keys.length : Int) != (p.kids.length : Int)) = true := by simp; omega
      have HX := Lib.hid h
      by_cases a1 : 2 ≤ p.kids.length
      · by_cases a2 : p.kids.length ≤ 4
        · clear hd h
          go_enter Tryz.func107, Tryz.ntmps107
          go_wp2
          go_ret
          exact ⟨ret_bool (by rw [HN.out]), by go_grown⟩
        · clear hd h
          go_enter Tryz.func107, Tryz.ntmps107
          go_wp2
          go_ret
          exact ⟨ret_bool (by rw [HN.out]), by go_grown⟩
      · clear hd h
        go_enter Tryz.func107, Tryz.ntmps107
        go_wp2
        go_ret
        exact ⟨ret_bool (by rw [HN.out]), by go_grown⟩
end Go.Proofs.YtlpmjeiogdlifaaGreat
namespace Go.Proofs.YtlpmjeiogdlifaaGreat
open Go.RowKit
attribute [local go_sem low] mk_extract
attribute [local go_sem] After.cell After.frozen mk_extract_end ByteArray.mk_append_mk
namespace Sp
theorem isFree_def (p : Page) : isFree p = (allTo p.free.length (freeAt p.free) && decide (total p.free ≤ 20) && noneOr p.next) := rfl
end Sp
set_option maxRecDepth 100000 in
set_option maxHeartbeats 1600000 in
theorem isFree_any (p : Sp.Page) (r : Refs) {M : Nat → Prop} (w : World) (hp : PageRd w M p r) :
    Calls Tryz.prog 109 #[.agg (pageV p r).toArray] w fun e w' => e = .returned (.bool (Sp.isFree p)) ∧ Below w.heap.size w w' := by
  have Hf := Lib.hid hp.free
  clear hp
  have hlen := Hf.out.len
  have HB := Lib.hid (Sp.isFree_def p)
  obtain ⟨I, K, D, V, F, ci, ck, cd, cv, cf⟩ := r
  simp only [pageV] at *
  go_enter Tryz.func109, Tryz.ntmps109
  go_wp2
  go_loopw [3, 11] (fun n i wr => ∃ k : Nat, k ≤ p.free.length ∧ i = .int .i64 k ∧ n = .int .i64 (Sp.total (p.free.take k)) ∧ Below w.heap.size w wr ∧ w.heap.size < wr.heap.size ∧ wr.cell? ⟨w.heap.size, 6, none⟩ = some (.slice F p.free.length cf) ∧ wr.cell? ⟨w.heap.size, 7, none⟩ = some (.int .i64 p.next) ∧ Hid (∀ j, j < k → Sp.freeAt p.free j = true)) (fun _ i _ => p.free.length - (intOf i).toNat)
  case atStart => exact ⟨0, Nat.zero_le _, rfl, rfl, by go_grown, by simp, by simp [go_sem], by simp [go_sem], fun j h => absurd h (by omega)⟩
  case round =>
    obtain ⟨k, hk, rfl, rfl, hb, hsz, hbox, hbox7, hok⟩ := hrel
    by_cases hlt : k < p.free.length
    · obtain ⟨fb, fo, rfl, hfb, hfc⟩ := Hf.out.at_ hlt
      obtain ⟨V2, c2, ⟨hc0, hc1⟩, hids, htx0, htx1⟩ := hfc k hlt
      have hp1 : 0 < k → wr.cell? ⟨fb, fo + (k - 1) * 2, none⟩ = some (.int .u64 (p.free.getD (k - 1) Sp.free0).txn) := fun h => by
        obtain ⟨V3, c3, ⟨hc0, hc1⟩, _⟩ := hfc (k - 1) (by omega)
        exact (hb.cell (p := ⟨_, _, none⟩) hfb).trans hc0
      clear hfc
      have hc0 := (hb.cell (p := ⟨_, _, none⟩) hfb).trans hc0
      have hc1 := (hb.cell (p := ⟨_, _, none⟩) hfb).trans hc1
      have hil := hids.len
      have Hids := Lib.hid (hids.go hb)
      have HT := Lib.hid (Sp.total_take hlt)
      have hfbw : fb < wr.heap.size := by omega
      clear hids htx0 htx1
      have HV := Lib.hid (Sp.freeAt_def p.free k)
      have hfalse : ∀ w2, Sp.freeAt p.free k = false → Below w.heap.size w w2 → ∃ b : Bool, b = false ∧ b = Sp.isFree p := fun w2 hv _ => ⟨false, rfl, by rw [HB.out, Sp.allTo_false hlt hv]; rfl⟩
      have hfalse : Sp.freeAt p.free k = false → false = Sp.isFree p := fun hv => by rw [HB.out, Sp.allTo_false hlt hv]; rfl
      have Hfalse := Lib.hid hfalse
      clear hfalse
      have hnext : Sp.freeAt p.free k = true → ∀ j, j < k + 1 → Sp.freeAt p.free j = true := fun hv j hj => by
        rcases Nat.lt_succ_iff_lt_or_eq.1 hj with h | rfl
        · exact hok.out j h
        · exact hv
      have Hnext := Lib.hid hnext
      clear hnext
      have htot : Sp.total (p.free.take k) ≤ 398 * k := Sp.total_le k (by omega) fun j hj => by
        have := hok.out j hj
        rw [Sp.freeAt_def] at this
        simp only [Bool.and_eq_true] at this
        exact Sp.isIDs_short this.2
      generalize Sp.total (p.free.take k) = tt at *
      generalize p.free.getD k Sp.free0 = x at *
      generalize (p.free.getD (k - 1) Sp.free0).txn = y at *
      obtain ⟨tx, ids⟩ := x
      simp only at *
      by_cases hi0 : ids.length = 0
      · have hi1 : ((ids.length : Int) == 0) = true := by simp [hi0]
        have HI0 := Lib.hid hi0
        clear hi0
        go_wp2
        refine wp_region_after (by kernel_rfl) (by kernel_rfl) (wr.heap.size + 1) ?_
        repeat (go_big_quiet_step (fail))
        refine wpQuiet_nil ?_
        intro w2 hb2
        go_wp2
        go_ret
        refine ⟨ret_bool (Hfalse.out ?_), by (repeat (first | (with_reducible exact Below.refl _ _) | (with_reducible assumption) | (refine below_step (by assumption) (by first | omega | (simp; done) | (simp; omega)) ?_) | (with_reducible refine Below.alloc ?_ (by first | omega | (simp; done) | (simp; omega)) _) | (with_reducible refine Below.drew ?_) | (with_reducible refine below_drewN ?_ _) | (with_reducible refine Below.setCell ?_ (by first | omega | (simp; done) | (simp; omega)) _)))⟩
        rw [HV.out, List.eq_nil_of_length_eq_zero HI0.out]
        rfl
      · have hi1 : ((ids.length : Int) == 0) = false := by rw [beq_eq_false_iff_ne]; omega
        have hne : decide (ids ≠ []) = true := by
          rw [decide_eq_true_eq]
          intro h
          exact hi0 (by rw [h]; rfl)
        rw [hne] at HV
        clear hne
        by_cases hbad : 0 < k ∧ tx < y
        · obtain ⟨hk0, hty⟩ := hbad
          have hpv := hp1 hk0
          clear hp1
          go_wp2
          refine wp_region_after (by kernel_rfl) (by kernel_rfl) (wr.heap.size + 1) ?_
          repeat (go_big_quiet_step (fail))
          refine wpQuiet_nil ?_
          intro w2 hb2
          go_wp2
          go_ret
          refine ⟨ret_bool (Hfalse.out ?_), by (repeat (first | (with_reducible exact Below.refl _ _) | (with_reducible assumption) | (refine below_step (by assumption) (by first | omega | (simp; done) | (simp; omega)) ?_) | (with_reducible refine Below.alloc ?_ (by first | omega | (simp; done) | (simp; omega)) _) | (with_reducible refine Below.drew ?_) | (with_reducible refine below_drewN ?_ _) | (with_reducible refine Below.setCell ?_ (by first | omega | (simp; done) | (simp; omega)) _)))⟩
          rw [HV.out, decide_eq_false (show ¬ k = 0 by omega), decide_eq_false (show ¬ y ≤ tx by omega)]
          rfl
        · have hgo : ∀ K : Prop, (0 < k → ¬ tx < y → wr.cell? ⟨fb, fo + (k - 1) * 2, none⟩ = some (.int .u64 y) → K) → (k = 0 → K) → K := fun K h1 h2 => by
            by_cases h : 0 < k
            · exact h1 h (fun h' => hbad ⟨h, h'⟩) (hp1 h)
            · exact h2 (by omega)
          have hv2 : (decide (k = 0) || decide (y ≤ tx)) = true := by
            rcases Nat.eq_zero_or_pos k with h | h
            · simp [h]
            · have : y ≤ tx := Int.not_lt.1 fun h' => hbad ⟨h, h'⟩
              simp [this]
          rw [hv2] at HV
          have HGO := Lib.hid hgo
          clear hgo hp1 hv2 hbad
          refine HGO.out _ (fun hk0 hty hpv => ?_) (fun hk0 => ?_)
          · have hkx : 0 < k := hk0
            clear HGO
            have HK := Lib.hid True.intro
            obtain ⟨wo, rfl⟩ : ∃ wo : World, wo = wr := ⟨_, rfl⟩
            go_wp2
            refine wp_region_after (by kernel_rfl) (by kernel_rfl) (wo.heap.size + 1) ?_
            repeat (go_big_quiet_step (fail))
            refine wpQuiet_nil ?_
            intro w2 hb2
            obtain ⟨hc2, hf2⟩ := bcell hb2
            have hz2 := hb2.size
            simp only [World.size_alloc] at hz2
            go_wp2
            have hlb : w2.cell? ⟨wo.heap.size, 1, none⟩ = some (.slice V2 ids.length c2) := (hc2 _ _ (by simp)).trans (by simp [go_sem])
            have hbx6 := (hc2 w.heap.size 6 (by omega)).trans ((World.cell?_alloc_lt wo _ ⟨w.heap.size, 6, none⟩ hsz).trans hbox)
            have hbx7 := (hc2 w.heap.size 7 (by omega)).trans ((World.cell?_alloc_lt wo _ ⟨w.heap.size, 7, none⟩ hsz).trans hbox7)
            have hb3 : Below w.heap.size w w2 := Below.trans (b := wo.alloc _) (Below.alloc hb (by omega) _) (hb2.mono (by omega))
            have Hids2 := Lib.hid (Hids.out.go (Below.trans (b := wo.alloc _) (by go_grown) (hb2.mono (by omega))))
            clear hc2 hf2 hbox hbox7
            go_loopw [39] (fun i wr => ∃ j : Nat, j ≤ ids.length ∧ i = .int .i64 j ∧ Below w2.heap.size w2 wr ∧ Hid (∀ i, i < j → Sp.idAt ids i = true)) (fun i _ => ids.length - (intOf i).toNat)
            case atStart => exact ⟨0, Nat.zero_le _, rfl, Below.refl _ _, fun j h => absurd h (by omega)⟩
            case round =>
              obtain ⟨j, hj, rfl, hbq, hokj⟩ := hrel
              have hzq := hbq.size
              have hlbq := ((bcell hbq).1 (wo.heap.size) 1 (by omega)).trans hlb
              have hszq : w.heap.size < wr.heap.size := by omega
              by_cases hjl : j < ids.length
              · obtain ⟨ib, io, rfl, hib, hic⟩ := Hids2.out.at_ hjl
                have hic0 := (hbq.cell (p := ⟨_, _, none⟩) hib).trans (hic j hjl)
                have hic1 := (hbq.cell (p := ⟨_, _, none⟩) hib).trans (hic (j - 1) (by omega))
                clear hic
                have HJ := Lib.hid (Sp.idAt_def ids j)
                have hfl : Sp.idAt ids j = false → false = Sp.isFree p := fun h => Hfalse.out (by rw [HV.out, Sp.isIDs, Sp.allTo_false hjl h]; rfl)
                have Hfl := Lib.hid hfl
                have hnx : Sp.idAt ids j = true → ∀ i, i < j + 1 → Sp.idAt ids i = true := fun hv i hi => by
                  rcases Nat.lt_succ_iff_lt_or_eq.1 hi with h | rfl
                  · exact hokj.out i h
                  · exact hv
                have Hnx := Lib.hid hnx
                clear hfl hnx
                generalize ids.getD j 0 = u at *
                generalize ids.getD (j - 1) 0 = v at *
                have hszl : wo.heap.size < wr.heap.size := by omega
                have hibq : ib < wr.heap.size := by omega
                go_wp2_with (go_at_call 162; refine (isID_any _ _).mono ?_; rintro e w4 ⟨rfl, hb4⟩; obtain ⟨hc4, hf4⟩ := bcell hb4; have hz4 := hb4.size)
                all_goals first
                  | (go_ret
                     refine ⟨ret_bool (Hfl.out ?_), by (repeat (first | (with_reducible exact Below.refl _ _) | (with_reducible assumption) | (refine below_step (by assumption) (by first | omega | (simp; done) | (simp; omega)) ?_) | (with_reducible refine Below.alloc ?_ (by first | omega | (simp; done) | (simp; omega)) _) | (with_reducible refine Below.drew ?_) | (with_reducible refine below_drewN ?_ _) | (with_reducible refine Below.setCell ?_ (by first | omega | (simp; done) | (simp; omega)) _)))⟩
                     rw [HJ.out]
                     go_light
                     grind)
                  | (refine ⟨⟨j + 1, by omega, by go_num, by (repeat (first | (with_reducible exact Below.refl _ _) | (with_reducible assumption) | (refine below_step (by assumption) (by first | omega | (simp; done) | (simp; omega)) ?_) | (with_reducible refine Below.alloc ?_ (by first | omega | (simp; done) | (simp; omega)) _) | (with_reducible refine Below.drew ?_) | (with_reducible refine below_drewN ?_ _) | (with_reducible refine Below.setCell ?_ (by first | omega | (simp; done) | (simp; omega)) _))), Hnx.out ?_⟩, by simp [intOf]; omega⟩
                     rw [HJ.out]
                     go_light
                     grind)
              · have hjj : j = ids.length := by omega
                have hfok : Sp.freeAt p.free k = true := by
                  rw [HV.out, Sp.isIDs, Sp.allTo_true fun i hi => hokj.out i (by omega)]
                  rfl
                have HFO := Lib.hid hfok
                have hsh : ids.length ≤ 398 := by
                  have h := hfok
                  rw [Sp.freeAt_def] at h
                  have h2 : Sp.isIDs ids = true := Sp.allTo_true fun i hi => hokj.out i (by omega)
                  exact Sp.isIDs_short h2
                have hbx6q := ((bcell hbq).1 (w.heap.size) 6 (by omega)).trans hbx6
                have hbx7q := ((bcell hbq).1 (w.heap.size) 7 (by omega)).trans hbx7
                clear hfok
                go_wp2
                refine ⟨⟨k + 1, by omega, by go_num, by rw [HT.out]; go_num, hb3.trans (hbq.mono (by omega)), hszq, hbx6q, hbx7q, Hnext.out HFO.out⟩, by simp [intOf]; omega⟩
          · have hkz : ¬ 0 < k := by omega
            have HK := Lib.hid hk0
            clear hk0 HGO
            obtain ⟨wo, rfl⟩ : ∃ wo : World, wo = wr := ⟨_, rfl⟩
            go_wp2
            refine wp_region_after (by kernel_rfl) (by kernel_rfl) (wo.heap.size + 1) ?_
            repeat (go_big_quiet_step (fail))
            refine wpQuiet_nil ?_
            intro w2 hb2
            obtain ⟨hc2, hf2⟩ := bcell hb2
            have hz2 := hb2.size
            simp only [World.size_alloc] at hz2
            go_wp2
            have hlb : w2.cell? ⟨wo.heap.size, 1, none⟩ = some (.slice V2 ids.length c2) := (hc2 _ _ (by simp)).trans (by simp [go_sem])
            have hbx6 := (hc2 w.heap.size 6 (by omega)).trans ((World.cell?_alloc_lt wo _ ⟨w.heap.size, 6, none⟩ hsz).trans hbox)
            have hbx7 := (hc2 w.heap.size 7 (by omega)).trans ((World.cell?_alloc_lt wo _ ⟨w.heap.size, 7, none⟩ hsz).trans hbox7)
            have hb3 : Below w.heap.size w w2 := Below.trans (b := wo.alloc _) (Below.alloc hb (by omega) _) (hb2.mono (by omega))
            have Hids2 := Lib.hid (Hids.out.go (Below.trans (b := wo.alloc _) (by go_grown) (hb2.mono (by omega))))
            clear hc2 hf2 hbox hbox7
            go_loopw [39] (fun i wr => ∃ j : Nat, j ≤ ids.length ∧ i = .int .i64 j ∧ Below w2.heap.size w2 wr ∧ Hid (∀ i, i < j → Sp.idAt ids i = true)) (fun i _ => ids.length - (intOf i).toNat)
            case atStart => exact ⟨0, Nat.zero_le _, rfl, Below.refl _ _, fun j h => absurd h (by omega)⟩
            case round =>
              obtain ⟨j, hj, rfl, hbq, hokj⟩ := hrel
              have hzq := hbq.size
              have hlbq := ((bcell hbq).1 (wo.heap.size) 1 (by omega)).trans hlb
              have hszq : w.heap.size < wr.heap.size := by omega
              by_cases hjl : j < ids.length
              · obtain ⟨ib, io, rfl, hib, hic⟩ := Hids2.out.at_ hjl
                have hic0 := (hbq.cell (p := ⟨_, _, none⟩) hib).trans (hic j hjl)
                have hic1 := (hbq.cell (p := ⟨_, _, none⟩) hib).trans (hic (j - 1) (by omega))
                clear hic
                have HJ := Lib.hid (Sp.idAt_def ids j)
                have hfl : Sp.idAt ids j = false → false = Sp.isFree p := fun h => Hfalse.out (by rw [HV.out, Sp.isIDs, Sp.allTo_false hjl h]; rfl)
                have Hfl := Lib.hid hfl
                have hnx : Sp.idAt ids j = true → ∀ i, i < j + 1 → Sp.idAt ids i = true := fun hv i hi => by
                  rcases Nat.lt_succ_iff_lt_or_eq.1 hi with h | rfl
                  · exact hokj.out i h
                  · exact hv
                have Hnx := Lib.hid hnx
                clear hfl hnx
                generalize ids.getD j 0 = u at *
                generalize ids.getD (j - 1) 0 = v at *
                have hszl : wo.heap.size < wr.heap.size := by omega
                have hibq : ib < wr.heap.size := by omega
                go_wp2_with (go_at_call 162; refine (isID_any _ _).mono ?_; rintro e w4 ⟨rfl, hb4⟩; obtain ⟨hc4, hf4⟩ := bcell hb4; have hz4 := hb4.size)
                all_goals first
                  | (go_ret
                     refine ⟨ret_bool (Hfl.out ?_), by (repeat (first | (with_reducible exact Below.refl _ _) | (with_reducible assumption) | (refine below_step (by assumption) (by first | omega | (simp; done) | (simp; omega)) ?_) | (with_reducible refine Below.alloc ?_ (by first | omega | (simp; done) | (simp; omega)) _) | (with_reducible refine Below.drew ?_) | (with_reducible refine below_drewN ?_ _) | (with_reducible refine Below.setCell ?_ (by first | omega | (simp; done) | (simp; omega)) _)))⟩
                     rw [HJ.out]
                     go_light
                     grind)
                  | (refine ⟨⟨j + 1, by omega, by go_num, by (repeat (first | (with_reducible exact Below.refl _ _) | (with_reducible assumption) | (refine below_step (by assumption) (by first | omega | (simp; done) | (simp; omega)) ?_) | (with_reducible refine Below.alloc ?_ (by first | omega | (simp; done) | (simp; omega)) _) | (with_reducible refine Below.drew ?_) | (with_reducible refine below_drewN ?_ _) | (with_reducible refine Below.setCell ?_ (by first | omega | (simp; done) | (simp; omega)) _))), Hnx.out ?_⟩, by simp [intOf]; omega⟩
                     rw [HJ.out]
                     go_light
                     grind)
              · have hjj : j = ids.length := by omega
                have hfok : Sp.freeAt p.free k = true := by
                  rw [HV.out, Sp.isIDs, Sp.allTo_true fun i hi => hokj.out i (by omega)]
                  rfl
                have HFO := Lib.hid hfok
                have hsh : ids.length ≤ 398 := by
                  have h := hfok
                  rw [Sp.freeAt_def] at h
                  have h2 : Sp.isIDs ids = true := Sp.allTo_true fun i hi => hokj.out i (by omega)
                  exact Sp.isIDs_short h2
                have hbx6q := ((bcell hbq).1 (w.heap.size) 6 (by omega)).trans hbx6
                have hbx7q := ((bcell hbq).1 (w.heap.size) 7 (by omega)).trans hbx7
                clear hfok
                go_wp2
                refine ⟨⟨k + 1, by omega, by go_num, by rw [HT.out]; go_num, hb3.trans (hbq.mono (by omega)), hszq, hbx6q, hbx7q, Hnext.out HFO.out⟩, by simp [intOf]; omega⟩
    · have hkl : k = p.free.length := by omega
      have htot : Sp.total (p.free.take k) ≤ 398 * k := Sp.total_le k (by omega) fun j hj => by
        have := hok.out j hj
        rw [Sp.freeAt_def] at this
        simp only [Bool.and_eq_true] at this
        exact Sp.isIDs_short this.2
      have htk : p.free.take k = p.free := List.take_of_length_le (by omega)
      rw [htk] at htot ⊢
      have HB2 := HB.out
      rw [Sp.allTo_true fun j hj => hok.out j (by omega)] at HB2
      have HB := Lib.hid HB2
      clear HB2 htk
      generalize Sp.total p.free = tt at *
      go_wp2_with (go_at_call 111; refine (noneOr_any _ _).mono ?_; rintro e w2 ⟨rfl, hb2⟩; have hz := hb2.size; have hsz : w.heap.size < w2.heap.size := Nat.lt_of_lt_of_le (by first | exact hsz | omega | (simp; done) | (simp; omega)) hz; obtain ⟨hc2, hf2⟩ := bcell hb2)
      all_goals
        go_ret
        refine ⟨ret_bool ?_, by (repeat (first | (with_reducible exact Below.refl _ _) | (with_reducible assumption) | (refine below_step (by assumption) (by first | omega | (simp; done) | (simp; omega)) ?_) | (with_reducible refine Below.alloc ?_ (by first | omega | (simp; done) | (simp; omega)) _) | (with_reducible refine Below.drew ?_) | (with_reducible refine below_drewN ?_ _) | (with_reducible refine Below.setCell ?_ (by first | omega | (simp; done) | (simp; omega)) _)))⟩
        rw [HB.out]
        go_light
        grind
end Go.Proofs.YtlpmjeiogdlifaaGreat
namespace Go.Proofs.YtlpmjeiogdlifaaGreat
open Go.RowKit
attribute [local go_sem low] mk_extract
attribute [local go_sem] After.cell After.frozen mk_extract_end ByteArray.mk_append_mk
namespace Sp
def hb (p : Page) (i : Nat) : Bool := (has p).getD i false
def eqL (a b : List Bool) : Bool := decide (a = b)
theorem isPage_def (p : Page) : isPage p =
  if p.kind = 1 then eqL [hb p 0, hb p 1, hb p 2, hb p 3, hb p 4, hb p 5, hb p 6] [true, false, false, false, false, false, false] && isLeaf p.items
  else if p.kind = 2 then eqL [hb p 0, hb p 1, hb p 2, hb p 3, hb p 4, hb p 5, hb p 6] [false, true, false, false, false, false, false] && isBranch p
  else if p.kind = 3 then eqL [hb p 0, hb p 1, hb p 2, hb p 3, hb p 4, hb p 5, hb p 6] [false, false, true, false, false, false, false] && decide (p.text.length ≤ 100)
  else if p.kind = 4 then eqL [hb p 0, hb p 1, hb p 2, hb p 3, hb p 4, hb p 5, hb p 6] [false, false, false, true, false, false, false] && isVals p.vals 4 12
  else if p.kind = 5 then eqL [hb p 0, hb p 1, hb p 2, hb p 3, hb p 4, hb p 5, hb p 6] [false, false, false, false, hb p 4, hb p 5, false] && isFree p
  else if p.kind = 6 then eqL [hb p 0, hb p 1, hb p 2, hb p 3, hb p 4, hb p 5, hb p 6] [false, false, false, false, false, false, hb p 6] && isMt p.mt
  else false := rfl
end Sp
set_option maxRecDepth 100000 in
set_option maxHeartbeats 400000 in
theorem mt_ne (m : Sp.Mt) (W : World) : (binOp .neq 57 (.agg #[.int .u64 m.txn, .int .i64 m.main.page, .int .i64 m.main.count, .int .i64 m.main.flags, .int .i64 m.free, .int .i64 m.last]) (.agg #[.int .u64 0, .int .i64 0, .int .i64 0, .int .i64 0, .int .i64 0, .int .i64 0])).run Tryz.prog W = .ok (.bool (decide (m ≠ Sp.mt0))) W := by
  obtain ⟨a, ⟨b, c, d⟩, e, f⟩ := m
  go_simp
  simp only [Sp.mt0, Sp.root0, Sp.Mt.mk.injEq, Sp.Root.mk.injEq]
  by_cases h1 : a = 0 <;> by_cases h2 : b = 0 <;> by_cases h3 : c = 0 <;> by_cases h4 : d = 0 <;> by_cases h5 : e = 0 <;> by_cases h6 : f = 0 <;> simp [h1, h2, h3, h4, h5, h6]
theorem wp_region_tail {P : Program} {id : Nat} {Q : Exit → Act → World → Prop} {a : Act} {w : World} {l : List Oper} (n : Nat) (hm : P.follows .mixedOrders = true) (hB : Region.lexTailB .any l.toArray n = true)
    (h : wpStill P l.toArray w.drew (fun a' => wpList P l.toArray Q (l.drop n) a' w.drew) (l.take n) a) : (Code.region id l.toArray true).wp P Q a w := wp_region_still_tail n hm hB h
set_option maxRecDepth 100000 in
set_option maxHeartbeats 1600000 in
theorem of_any (p : Sp.Page) (r : Refs) (w : World) :
    Calls Tryz.prog 105 #[.agg (pageV p r).toArray] w fun e w' => e = .returned (.agg #[.bool (Sp.hb p 0), .bool (Sp.hb p 1), .bool (Sp.hb p 2), .bool (Sp.hb p 3), .bool (Sp.hb p 4), .bool (Sp.hb p 5), .bool (Sp.hb p 6)]) ∧ Below w.heap.size w w' := by
  obtain ⟨I, K, D, V, F, ci, ck, cd, cv, cf⟩ := r
  simp only [pageV] at *
  have hmt := mt_ne p.mt
  have e1 : ∀ (α : Type) (l : List α), decide (0 < l.length) = decide (l ≠ []) := fun _ l => by simp [List.length_pos_iff]
  have e2 : ∀ (l : Txt), (!List.isEmpty l) = decide (l ≠ []) := fun l => by cases l <;> simp
  have e3 : ∀ n : Int, (n != 0) = decide (n ≠ 0) := fun n => by by_cases h : n = 0 <;> simp [h]
  have e4 : (!decide (p.mt = Sp.mt0)) = decide (p.mt ≠ Sp.mt0) := by simp
  have E3 := Lib.hid e3
  have E4 := Lib.hid e4
  have E1 := Lib.hid e1
  have E2 := Lib.hid e2
  clear e1 e2 e3 e4
  by_cases hk : 0 < p.keys.length
  · have hkd : decide (0 < (p.keys.length : Int)) = true := by simp; omega
    go_enter Tryz.func105, Tryz.ntmps105
    go_wp2
    refine wp_region_tail 33 (by kernel_rfl) (by kernel_rfl) ?_
    simp only [List.take_succ_cons, List.take_zero, List.drop_succ_cons, List.drop_zero]
    repeat still_step
    refine wpStill_nil ?_
    go_wp2
    go_returns
    refine ⟨?_, by go_grown⟩
    have hke : p.keys ≠ [] := List.length_pos_iff.1 hk
    simp only [E1.out, E2.out, E3.out, E4.out, Sp.hb, Sp.has, decide_eq_true hke]
    rfl
  · have hkd : decide (0 < (p.keys.length : Int)) = false := by rw [decide_eq_false_iff_not]; omega
    go_enter Tryz.func105, Tryz.ntmps105
    go_wp2
    refine wp_region_tail 33 (by kernel_rfl) (by kernel_rfl) ?_
    simp only [List.take_succ_cons, List.take_zero, List.drop_succ_cons, List.drop_zero]
    repeat still_step
    refine wpStill_nil ?_
    go_wp2
    go_returns
    refine ⟨?_, by go_grown⟩
    have hke : p.keys = [] := List.eq_nil_of_length_eq_zero (by omega)
    simp only [E1.out, E2.out, E3.out, E4.out, Sp.hb, Sp.has, hke]
    rfl
set_option maxRecDepth 100000 in
set_option maxHeartbeats 400000 in
theorem has_eq (x0 x1 x2 x3 x4 x5 x6 y0 y1 y2 y3 y4 y5 y6 : Bool) (W : World) : (binOp .eql 172 (.agg #[.bool x0, .bool x1, .bool x2, .bool x3, .bool x4, .bool x5, .bool x6]) (.agg #[.bool y0, .bool y1, .bool y2, .bool y3, .bool y4, .bool y5, .bool y6])).run Tryz.prog W = .ok (.bool (Sp.eqL [x0, x1, x2, x3, x4, x5, x6] [y0, y1, y2, y3, y4, y5, y6])) W := by
  have e : Sp.eqL [x0, x1, x2, x3, x4, x5, x6] [y0, y1, y2, y3, y4, y5, y6] = decide (x0 = y0 ∧ x1 = y1 ∧ x2 = y2 ∧ x3 = y3 ∧ x4 = y4 ∧ x5 = y5 ∧ x6 = y6) := by
    simp [Sp.eqL]
  rw [e]
  go_simp
  by_cases h0 : x0 = y0 <;> by_cases h1 : x1 = y1 <;> by_cases h2 : x2 = y2 <;> by_cases h3 : x3 = y3 <;> by_cases h4 : x4 = y4 <;> by_cases h5 : x5 = y5 <;> by_cases h6 : x6 = y6 <;> simp [h0, h1, h2, h3, h4, h5, h6]
end Go.Proofs.YtlpmjeiogdlifaaGreat
