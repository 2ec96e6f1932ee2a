/- isBranch. Whether a page may be. The parts of a page as bytes; a page as bytes. -/
import Derived.Test.YtmcpkhknjdiocaaGreatDoorQB01
import Derived.Test.YtmcpkhknjdiocaaGreatDoorQB04
import Derived.Test.YtmcpkhknjdiocaaGreatDoorQB05
import Derived.Test.YtmcpkhknjdiocaaGreatDoorQB06
import Derived.Test.YtmcpkhknjdiocaaGreatDoorQB09
set_option linter.unusedSimpArgs false
set_option linter.unusedVariables false
namespace Go.Proofs.YtmcpkhknjdiocaaGreatDoor
open Go.RowKit
attribute [local go_sem low] mk_extract
attribute [local go_sem] After.cell After.frozen mk_extract_end ByteArray.mk_append_mk
set_option maxRecDepth 100000 in
set_option maxHeartbeats 1600000 in
theorem isBranch_any (p : Sp.Page) (r : Refs) {M : Nat → Prop} (w : World) (hp : PageRd w M p r) :
    Calls Tryz.prog 156 #[.agg (pageV p r).toArray] w fun e w' => e = .returned (.bool (Sp.isBranch p)) ∧ Below w.heap.size w w' := by
  have Hk := Lib.hid hp.keys
  have Hd := Lib.hid hp.kids
  clear hp
  have hdl := Hd.out.len
  have hkl := Hk.out.len
  have HB := Lib.hid (Sp.isBranch_def p)
  obtain ⟨I, K, D, V, F, ci, ck, cd, cv, cf⟩ := r
  simp only [pageV] at *
  by_cases hd : 2 ≤ p.kids.length ∧ p.kids.length ≤ 4 ∧ p.keys.length = p.kids.length
  · obtain ⟨d2, d4, hkd⟩ := hd
    have he1 : ((p.keys.length : Int) == (p.kids.length : Int)) = true := by simp [hkd]
    have he2 : ((p.keys.length : Int) != (p.kids.length : Int)) = false := by simp [hkd]
    have hk0 : 0 < p.keys.length := by omega
    obtain ⟨kb, ko, rfl, hkb, hkc⟩ := Hk.out.at_ hk0
    obtain ⟨db, do_, rfl, hdb, hdc⟩ := Hd.out.at_ (by omega : 0 < p.kids.length)
    have hkc0 := hkc 0 (by omega)
    simp only [Nat.add_zero] at hkc0
    have Hkc := Lib.hid hkc
    have Hdc := Lib.hid hdc
    have HKD := Lib.hid hkd
    have HB2 := HB.out
    rw [decide_eq_true d2, decide_eq_true d4, decide_eq_true hkd] at HB2
    simp only [Bool.true_and] at HB2
    clear hkc hdc hkd HB
    have HB := Lib.hid HB2
    clear HB2
    by_cases hf : p.keys.getD 0 [] = []
    · have hfe : List.isEmpty (p.keys.getD 0 []) = true := by rw [hf]; rfl
      have HB2 := HB.out
      rw [decide_eq_true hf] at HB2
      simp only [Bool.true_and] at HB2
      clear HB hf
      have HB := Lib.hid HB2
      clear HB2
      generalize p.keys.getD 0 [] = y0 at hkc0 hfe
      go_enter Tryz.func156, Tryz.ntmps156
      go_wp2
      go_loopw [34] (fun i wr => ∃ k : Nat, k ≤ p.kids.length ∧ i = .int .i64 k ∧ Below w.heap.size w wr ∧ w.heap.size < wr.heap.size ∧ wr.cell? ⟨w.heap.size, 2, none⟩ = some (.slice (some ⟨kb, ko, none⟩) p.keys.length ck) ∧ Hid (∀ j, j < k → Sp.branchAt p.keys p.kids j = true)) (fun i _ => p.kids.length - (intOf i).toNat)
      case atStart => exact ⟨0, Nat.zero_le _, rfl, by go_grown, by simp, by simp [go_sem], fun j h => absurd h (by omega)⟩
      case round =>
        obtain ⟨k, hk, rfl, hb, hsw, hbox, hok⟩ := hrel
        by_cases hlt : k < p.kids.length
        · have hdc0 := (hb.cell (p := ⟨_, _, none⟩) hdb).trans (Hdc.out k hlt)
          have hkc1 := (hb.cell (p := ⟨_, _, none⟩) hkb).trans (Hkc.out k (by have := HKD.out; omega))
          have hkc2 := (hb.cell (p := ⟨_, _, none⟩) hkb).trans (Hkc.out (k - 1) (by have := HKD.out; omega))
          have hltk : k < p.keys.length := by have := HKD.out; omega
          have hkbw : kb < wr.heap.size := by omega
          have HV := Lib.hid (Sp.branchAt_def p.keys p.kids k)
          generalize p.kids.getD k 0 = d at *
          generalize p.keys.getD k [] = x at *
          generalize p.keys.getD (k - 1) [] = y at *
          have hnext : Sp.branchAt p.keys p.kids k = true → ∀ j, j < k + 1 → Sp.branchAt p.keys p.kids j = true := fun hv j hj => by
            rcases Nat.lt_succ_iff_lt_or_eq.1 hj with h | rfl
            · exact hok.out j h
            · exact hv
          have Hnext := Lib.hid hnext
          clear hnext
          have HI := Lib.hid (isID_any d)
          have HS := Lib.hid (short_any x)
          cases h1 : Sp.isID d <;> rw [h1] at HI HV
          · clear h1
            go_wp2
            refine wp_region_after (by kernel_rfl) (by kernel_rfl) (wr.heap.size) ?_
            repeat (go_big_quiet_step ((go_at_call 182; exact after_call (by simp) (HI.out _))))
            refine wpQuiet_nil ?_
            intro w2 hb2
            go_wp2
            go_ret
            exact ⟨ret_bool (by rw [HB.out, Sp.allTo_false hlt (by rw [HV.out]; rfl)]), by (repeat (first | (with_reducible exact Below.refl _ _) | (with_reducible assumption) | (refine below_step (by assumption) (by first | omega | (simp; done) | (simp; omega)) ?_) | (with_reducible refine Below.alloc ?_ (by first | omega | (simp; done) | (simp; omega)) _) | (with_reducible refine Below.drew ?_) | (with_reducible refine below_drewN ?_ _) | (with_reducible refine Below.setCell ?_ (by first | omega | (simp; done) | (simp; omega)) _)))⟩
          · clear h1
            by_cases h0k : k = 0
            · have hkz : ¬ 0 < k := by omega
              have HK := Lib.hid h0k
              clear h0k
              go_wp2
              refine wp_region_after (by kernel_rfl) (by kernel_rfl) (wr.heap.size) ?_
              repeat (go_big_quiet_step ((go_at_call 182; exact after_call (by simp) (HI.out _))))
              refine wpQuiet_nil ?_
              intro w2 hb2
              obtain ⟨hc2, hf2⟩ := bcell hb2
              have hz2 := hb2.size
              go_wp2
              exact ⟨⟨k + 1, by omega, by go_num, by (repeat (first | (with_reducible exact Below.refl _ _) | (with_reducible assumption) | (refine below_step (by assumption) (by first | omega | (simp; done) | (simp; omega)) ?_) | (with_reducible refine Below.alloc ?_ (by first | omega | (simp; done) | (simp; omega)) _) | (with_reducible refine Below.drew ?_) | (with_reducible refine below_drewN ?_ _) | (with_reducible refine Below.setCell ?_ (by first | omega | (simp; done) | (simp; omega)) _))), by omega, (hc2 _ _ hsw).trans hbox, Hnext.out (by rw [HV.out]; simp [HK.out])⟩, by simp [intOf]; omega⟩
            · have hkz : 0 < k := by omega
              have hkd0 : decide (k = 0) = false := by simp [h0k]
              rw [hkd0] at HV
              clear h0k hkd0
              cases h2 : Sp.short x <;> rw [h2] at HS HV <;> clear h2
              · go_wp2
                refine wp_region_after (by kernel_rfl) (by kernel_rfl) (wr.heap.size) ?_
                repeat (go_big_quiet_step (first | (go_at_call 182; exact after_call (by simp) (HI.out _)) | (go_at_call 183; exact after_call (by simp) (HS.out _))))
                refine wpQuiet_nil ?_
                intro w2 hb2
                go_wp2
                go_ret
                exact ⟨ret_bool (by rw [HB.out, Sp.allTo_false hlt (by rw [HV.out]; rfl)]), by (repeat (first | (with_reducible exact Below.refl _ _) | (with_reducible assumption) | (refine below_step (by assumption) (by first | omega | (simp; done) | (simp; omega)) ?_) | (with_reducible refine Below.alloc ?_ (by first | omega | (simp; done) | (simp; omega)) _) | (with_reducible refine Below.drew ?_) | (with_reducible refine below_drewN ?_ _) | (with_reducible refine Below.setCell ?_ (by first | omega | (simp; done) | (simp; omega)) _)))⟩
              · cases h3 : Op.bytesLess y x
                all_goals
                  go_wp2
                  refine wp_region_after (by kernel_rfl) (by kernel_rfl) (wr.heap.size) ?_
                  repeat (go_big_quiet_step (first | (go_at_call 182; exact after_call (by simp) (HI.out _)) | (go_at_call 183; exact after_call (by simp) (HS.out _))))
                  refine wpQuiet_nil ?_
                  intro w2 hb2
                  obtain ⟨hc2, hf2⟩ := bcell hb2
                  have hz2 := hb2.size
                  go_wp2
                · go_ret
                  exact ⟨ret_bool (by rw [HB.out, Sp.allTo_false hlt (by rw [HV.out]; simp [Sp.lt, h3])]), by (repeat (first | (with_reducible exact Below.refl _ _) | (with_reducible assumption) | (refine below_step (by assumption) (by first | omega | (simp; done) | (simp; omega)) ?_) | (with_reducible refine Below.alloc ?_ (by first | omega | (simp; done) | (simp; omega)) _) | (with_reducible refine Below.drew ?_) | (with_reducible refine below_drewN ?_ _) | (with_reducible refine Below.setCell ?_ (by first | omega | (simp; done) | (simp; omega)) _)))⟩
                · exact ⟨⟨k + 1, by omega, by go_num, by (repeat (first | (with_reducible exact Below.refl _ _) | (with_reducible assumption) | (refine below_step (by assumption) (by first | omega | (simp; done) | (simp; omega)) ?_) | (with_reducible refine Below.alloc ?_ (by first | omega | (simp; done) | (simp; omega)) _) | (with_reducible refine Below.drew ?_) | (with_reducible refine below_drewN ?_ _) | (with_reducible refine Below.setCell ?_ (by first | omega | (simp; done) | (simp; omega)) _))), by omega, (hc2 _ _ hsw).trans hbox, Hnext.out (by rw [HV.out]; simp [Sp.lt, h3])⟩, by simp [intOf]; omega⟩
        · have hkl2 : k = p.kids.length := by omega
          go_wp2
          go_ret
          exact ⟨ret_bool (by rw [HB.out, Sp.allTo_true fun j hj => hok.out j (by omega)]), hb⟩
    · have hfe : List.isEmpty (p.keys.getD 0 []) = false := by simpa [List.isEmpty_eq_false_iff] using hf
      have HB2 := HB.out
      rw [decide_eq_false hf] at HB2
      clear HB hf
      have HB := Lib.hid HB2
      clear HB2
      generalize p.keys.getD 0 [] = y0 at hkc0 hfe
      go_enter Tryz.func156, Tryz.ntmps156
      go_wp2
      go_ret
      exact ⟨ret_bool (by rw [HB.out]; rfl), by go_grown⟩
  · have hno : Sp.isBranch p = false := by
      rw [HB.out]
      by_cases a1 : 2 ≤ p.kids.length
      · by_cases a2 : p.kids.length ≤ 4
        · have a3 : ¬ p.keys.length = p.kids.length := fun h => hd ⟨a1, a2, h⟩
          simp [a3]
        · simp [a2]
      · simp [a1]
    have HN := Lib.hid hno
    clear hno HB
    rcases (by omega : p.kids.length < 2 ∨ 4 < p.kids.length ∨ p.keys.length ≠ p.kids.length) with h | h | h
    · clear hd
      go_enter Tryz.func156, Tryz.ntmps156
      go_wp2
      go_ret
      exact ⟨ret_bool (by rw [HN.out]), by go_grown⟩
    · clear hd
      go_enter Tryz.func156, Tryz.ntmps156
      go_wp2
      go_ret
      exact ⟨ret_bool (by rw [HN.out]), by go_grown⟩
    · have he1 : ((p.keys.length : Int) == (p.kids.length : Int)) = false := by simp; omega
      have he2 : ((p.keys.length : Int) != (p.kids.length : Int)) = true := by simp; omega
      have HX := Lib.hid h
      by_cases a1 : 2 ≤ p.kids.length
      · by_cases a2 : p.kids.length ≤ 4
        · clear hd h
          go_enter Tryz.func156, Tryz.ntmps156
          go_wp2
          go_ret
          exact ⟨ret_bool (by rw [HN.out]), by go_grown⟩
        · clear hd h
          go_enter Tryz.func156, Tryz.ntmps156
          go_wp2
          go_ret
          exact ⟨ret_bool (by rw [HN.out]), by go_grown⟩
      · clear hd h
        go_enter Tryz.func156, Tryz.ntmps156
        go_wp2
        go_ret
        exact ⟨ret_bool (by rw [HN.out]), by go_grown⟩
end Go.Proofs.YtmcpkhknjdiocaaGreatDoor
namespace Go.Proofs.YtmcpkhknjdiocaaGreatDoor
open Go.RowKit
attribute [local go_sem low] mk_extract
attribute [local go_sem] After.cell After.frozen mk_extract_end ByteArray.mk_append_mk
set_option maxRecDepth 100000 in
set_option maxHeartbeats 1600000 in
theorem isPage_any (p : Sp.Page) (r : Refs) {M : Nat → Prop} (w : World) (hp : PageRd w M p r) :
    Calls Tryz.prog 134 #[.agg (pageV p r).toArray] w fun e w' => e = .returned (.bool (Sp.isPage p)) ∧ Below w.heap.size w w' := by
  have Hp := Lib.hid hp
  clear hp
  have hheq := has_eq
  have HI := Lib.hid (Sp.isPage_def p)
  have hsz : w.heap.size < w.heap.size + 1 := by omega
  simp only [pageV]
  go_enter Tryz.func134, Tryz.ntmps134
  go_wp2_with (first
    | (go_at_call 154; refine (of_any p r _).mono ?_; rintro e w2 ⟨rfl, hb2⟩; have hz := hb2.size; have hsz : w.heap.size < w2.heap.size := Nat.lt_of_lt_of_le (by first | exact hsz | omega | (simp; done) | (simp; omega)) hz; obtain ⟨hc2, hf2⟩ := bcell hb2)
    | (go_at_call 155; refine (isLeaf_any p.items r.I r.i _ (Hp.out.items.go (by (repeat (first | (with_reducible exact Below.refl _ _) | (with_reducible assumption) | (refine below_step (by assumption) (by first | omega | (simp; done) | (simp; omega)) ?_) | (with_reducible refine Below.alloc ?_ (by first | omega | (simp; done) | (simp; omega)) _) | (with_reducible refine Below.drew ?_) | (with_reducible refine below_drewN ?_ _) | (with_reducible refine Below.setCell ?_ (by first | omega | (simp; done) | (simp; omega)) _)))))).mono ?_; rintro e w2 ⟨rfl, hb2⟩; have hz := hb2.size; have hsz : w.heap.size < w2.heap.size := Nat.lt_of_lt_of_le (by first | exact hsz | omega | (simp; done) | (simp; omega)) hz; obtain ⟨hc2, hf2⟩ := bcell hb2)
    | (go_at_call 156; refine (isBranch_any p r _ (Hp.out.go (by (repeat (first | (with_reducible exact Below.refl _ _) | (with_reducible assumption) | (refine below_step (by assumption) (by first | omega | (simp; done) | (simp; omega)) ?_) | (with_reducible refine Below.alloc ?_ (by first | omega | (simp; done) | (simp; omega)) _) | (with_reducible refine Below.drew ?_) | (with_reducible refine below_drewN ?_ _) | (with_reducible refine Below.setCell ?_ (by first | omega | (simp; done) | (simp; omega)) _)))))).mono ?_; rintro e w2 ⟨rfl, hb2⟩; have hz := hb2.size; have hsz : w.heap.size < w2.heap.size := Nat.lt_of_lt_of_le (by first | exact hsz | omega | (simp; done) | (simp; omega)) hz; obtain ⟨hc2, hf2⟩ := bcell hb2)
    | (go_at_call 157; refine (isVals_any p.vals r.V r.v 4 12 _ (Hp.out.vals.go (by (repeat (first | (with_reducible exact Below.refl _ _) | (with_reducible assumption) | (refine below_step (by assumption) (by first | omega | (simp; done) | (simp; omega)) ?_) | (with_reducible refine Below.alloc ?_ (by first | omega | (simp; done) | (simp; omega)) _) | (with_reducible refine Below.drew ?_) | (with_reducible refine below_drewN ?_ _) | (with_reducible refine Below.setCell ?_ (by first | omega | (simp; done) | (simp; omega)) _)))))).mono ?_; rintro e w2 ⟨rfl, hb2⟩; have hz := hb2.size; have hsz : w.heap.size < w2.heap.size := Nat.lt_of_lt_of_le (by first | exact hsz | omega | (simp; done) | (simp; omega)) hz; obtain ⟨hc2, hf2⟩ := bcell hb2)
    | (go_at_call 158; refine (isFree_any p r _ (Hp.out.go (by (repeat (first | (with_reducible exact Below.refl _ _) | (with_reducible assumption) | (refine below_step (by assumption) (by first | omega | (simp; done) | (simp; omega)) ?_) | (with_reducible refine Below.alloc ?_ (by first | omega | (simp; done) | (simp; omega)) _) | (with_reducible refine Below.drew ?_) | (with_reducible refine below_drewN ?_ _) | (with_reducible refine Below.setCell ?_ (by first | omega | (simp; done) | (simp; omega)) _)))))).mono ?_; rintro e w2 ⟨rfl, hb2⟩; have hz := hb2.size; have hsz : w.heap.size < w2.heap.size := Nat.lt_of_lt_of_le (by first | exact hsz | omega | (simp; done) | (simp; omega)) hz; obtain ⟨hc2, hf2⟩ := bcell hb2)
    | (go_at_call 159; refine (isRoot_any p.mt.main _).mono ?_; rintro e w2 ⟨rfl, hb2⟩; have hz := hb2.size; have hsz : w.heap.size < w2.heap.size := Nat.lt_of_lt_of_le (by first | exact hsz | omega | (simp; done) | (simp; omega)) hz; obtain ⟨hc2, hf2⟩ := bcell hb2)
    | (go_at_call 160; refine (noneOr_any _ _).mono ?_; rintro e w2 ⟨rfl, hb2⟩; have hz := hb2.size; have hsz : w.heap.size < w2.heap.size := Nat.lt_of_lt_of_le (by first | exact hsz | omega | (simp; done) | (simp; omega)) hz; obtain ⟨hc2, hf2⟩ := bcell hb2))
  all_goals
    go_ret
    refine ⟨ret_bool ?_, by (repeat (first | (with_reducible exact Below.refl _ _) | (with_reducible assumption) | (refine below_step (by assumption) (by first | omega | (simp; done) | (simp; omega)) ?_) | (with_reducible refine Below.alloc ?_ (by first | omega | (simp; done) | (simp; omega)) _) | (with_reducible refine Below.drew ?_) | (with_reducible refine below_drewN ?_ _) | (with_reducible refine Below.setCell ?_ (by first | omega | (simp; done) | (simp; omega)) _)))⟩
    rw [HI.out]
    clear HI Hp
    go_light
    grind [Sp.isMt]
end Go.Proofs.YtmcpkhknjdiocaaGreatDoor
namespace Go.Proofs.YtmcpkhknjdiocaaGreatDoor
open Go.RowKit
attribute [local go_sem low] mk_extract
attribute [local go_sem] After.cell After.frozen mk_extract_end ByteArray.mk_append_mk
attribute [local go_sem] Sp.le8_length Sp.rootB_len
namespace Sp
theorem itemsB_succ (l : List Item) (k : Nat) (h : k < l.length) : itemsB (l.take (k + 1)) = itemsB (l.take k) ++ itemB (l.getD k item0) := by
  unfold itemsB
  rw [List.take_succ_eq_append_getElem h, List.map_append, List.flatten_append]
  simp [List.getD, h]
theorem kidsTo_succ (keys : List Txt) (kids : List Int) (k : Nat) : kidsTo keys kids (k + 1) = kidsTo keys kids k ++ kidB keys kids k := by
  unfold kidsTo
  rw [List.range_succ, List.map_append, List.flatten_append]
  simp
theorem kidB_def (keys : List Txt) (kids : List Int) (k : Nat) : kidB keys kids k = text (keys.getD k []) ++ le8 (kids.getD k 0) := rfl
theorem body_def (p : Page) : body p = le8 p.kind ++ partsB p := rfl
theorem kidB_len (keys : List Txt) (kids : List Int) (k : Nat) : (kidB keys kids k).length ≤ 65545 := by
  have := text_le (keys.getD k [])
  simp only [kidB, List.length_append, le8_length]
  omega
theorem kidsTo_le (keys : List Txt) (kids : List Int) : ∀ n, (kidsTo keys kids n).length ≤ 65545 * n
  | 0 => by simp [kidsTo]
  | n + 1 => by
    rw [kidsTo_succ, List.length_append]
    have := kidsTo_le keys kids n
    have := kidB_len keys kids n
    omega
theorem itemsB_le {l : List Item} (h : ∀ j, j < l.length → isItem (l.getD j item0) = true) : ∀ k, k ≤ l.length → (itemsB (l.take k)).length ≤ 262188 * k
  | 0, _ => by simp [itemsB]
  | k + 1, hk => by
    rw [itemsB_succ l k (by omega), List.length_append]
    have h1 := itemsB_le h k (by omega)
    have h2 := itemB_le (isItem_rng (h k (by omega))).2.2.2.2.2.2.2.2.1
    omega
theorem isLeaf_rng {l : List Item} (h : isLeaf l = true) : l.length ≤ 4 ∧ ∀ j, j < l.length → isItem (l.getD j item0) = true := by
  simp only [isLeaf, Bool.and_eq_true, decide_eq_true_eq] at h
  refine ⟨h.2, fun j hj => ?_⟩
  have := allTo_iff.1 h.1.1 j hj
  rw [leafAt_def] at this
  simp only [Bool.and_eq_true] at this
  exact this.1
theorem isBranch_rng {p : Page} (h : isBranch p = true) : p.kids.length ≤ 4 ∧ p.keys.length = p.kids.length ∧ ∀ j, j < p.kids.length → 0 ≤ p.kids.getD j 0 ∧ p.kids.getD j 0 < 400 := by
  simp only [isBranch, Bool.and_eq_true, decide_eq_true_eq] at h
  refine ⟨h.1.1.1.2, h.1.1.2, fun j hj => ?_⟩
  have := allTo_iff.1 h.2 j hj
  rw [branchAt_def] at this
  simp only [isID, Bool.and_eq_true, decide_eq_true_eq] at this
  omega
theorem isVals_rng {l : List Txt} {a b : Int} (h : isVals l a b = true) : (l.length : Int) ≤ b := by
  simp only [isVals, Bool.and_eq_true, decide_eq_true_eq] at h
  exact h.2
theorem isMt_rng {m : Mt} (h : isMt m = true) : isRoot m.main = true ∧ 0 ≤ m.free ∧ m.free < 400 ∧ 2 ≤ m.last ∧ m.last ≤ 400 := by
  simp only [isMt, noneOr, isID, Bool.and_eq_true, Bool.or_eq_true, decide_eq_true_eq] at h
  exact ⟨h.1.1.1, by omega, by omega, by omega, by omega⟩
theorem isPage_kind {p : Page} (h : isPage p = true) : (p.kind = 1 ∧ isLeaf p.items = true) ∨ (p.kind = 2 ∧ isBranch p = true) ∨ p.kind = 3 ∨ (p.kind = 4 ∧ isVals p.vals 4 12 = true) ∨ (p.kind = 5 ∧ isFree p = true) ∨ (p.kind = 6 ∧ isMt p.mt = true) := by
  unfold isPage at h
  split at h
  · simp only [Bool.and_eq_true] at h; exact .inl ⟨‹_›, h.2⟩
  · split at h
    · simp only [Bool.and_eq_true] at h; exact .inr (.inl ⟨‹_›, h.2⟩)
    · split at h
      · exact .inr (.inr (.inl ‹_›))
      · split at h
        · simp only [Bool.and_eq_true] at h; exact .inr (.inr (.inr (.inl ⟨‹_›, h.2⟩)))
        · split at h
          · simp only [Bool.and_eq_true] at h; exact .inr (.inr (.inr (.inr (.inl ⟨‹_›, h.2⟩))))
          · split at h
            · simp only [Bool.and_eq_true] at h; exact .inr (.inr (.inr (.inr (.inr ⟨‹_›, h.2⟩))))
            · cases h
theorem partsB1 {p : Page} (h : p.kind = 1) : partsB p = le8 p.items.length ++ itemsB p.items := by simp [partsB, h]
theorem partsB2 {p : Page} (h : p.kind = 2) : partsB p = le8 p.kids.length ++ kidsTo p.keys p.kids p.kids.length := by simp [partsB, h]
theorem partsB3 {p : Page} (h : p.kind = 3) : partsB p = text p.text := by simp [partsB, h]
theorem partsB4 {p : Page} (h : p.kind = 4) : partsB p = valsB p.vals := by simp [partsB, h]
theorem partsB5 {p : Page} (h : p.kind = 5) : partsB p = le8 p.free.length ++ freesB p.free ++ le8 p.next := by simp [partsB, h]
theorem partsB6 {p : Page} (h : p.kind = 6) : partsB p = mtB p.mt := by simp [partsB, h]
theorem partsB_le {p : Page} (h : isPage p = true) : (partsB p).length ≤ 1200000 := by
  rcases isPage_kind h with ⟨hk, hi⟩ | ⟨hk, hi⟩ | hk | ⟨hk, hi⟩ | ⟨hk, hi⟩ | ⟨hk, hi⟩
  · rw [partsB1 hk, List.length_append, le8_length]
    obtain ⟨h1, h2⟩ := isLeaf_rng hi
    have := itemsB_le h2 p.items.length (Nat.le_refl _)
    rw [List.take_of_length_le (Nat.le_refl _)] at this
    omega
  · rw [partsB2 hk, List.length_append, le8_length]
    have := isBranch_rng hi
    have := kidsTo_le p.keys p.kids p.kids.length
    omega
  · rw [partsB3 hk]
    have := text_le p.text
    omega
  · rw [partsB4 hk]
    have := isVals_rng hi
    have := valsB_le p.vals
    omega
  · rw [partsB5 hk]
    have h1 := isFree_rng hi
    have := freesB_le (l := p.free) p.free.length (Nat.le_refl _) fun j hj => (h1.2.2.2 j hj).1
    rw [List.take_of_length_le (Nat.le_refl _)] at this
    simp only [List.length_append, le8_length]
    omega
  · rw [partsB6 hk]
    simp [mtB, le8_length, rootB_len]
end Sp
set_option maxRecDepth 100000 in
set_option maxHeartbeats 1600000 in
theorem parts_any (p : Sp.Page) (r : Refs) {M : Nat → Prop} (w : World) (hp : PageRd w M p r) (h : Sp.isPage p = true) :
    Calls Tryz.prog 196 #[.agg (pageV p r).toArray] w fun e w' => e = .returned (.string ⟨(Sp.partsB p).toArray⟩) ∧ Below w.heap.size w w' := by
  have Hp := Lib.hid hp
  clear hp
  obtain ⟨I, K, D, V, F, ci, ck, cd, cv, cf⟩ := r
  simp only [pageV] at *
  have hsz : w.heap.size < w.heap.size + 1 := by omega
  rcases Sp.isPage_kind h with ⟨hk, hi⟩ | ⟨hk, hi⟩ | hk | ⟨hk, hi⟩ | ⟨hk, hi⟩ | ⟨hk, hi⟩
  · have e1 : (p.kind == 1) = true := by rw [beq_iff_eq]; omega
    have HK := Lib.hid (Sp.partsB1 hk)
    obtain ⟨hl4, hall⟩ := Sp.isLeaf_rng hi
    have HA := Lib.hid hall
    clear hk h hi hall
    go_enter Tryz.func196, Tryz.ntmps196
    go_wp2_with (go_at_call 195; refine (num_any _ (by omega) (by omega) _).mono ?_; rintro e w2 ⟨rfl, hb2⟩; have hz := hb2.size; have hsz : w.heap.size < w2.heap.size := Nat.lt_of_lt_of_le (by first | exact hsz | omega | (simp; done) | (simp; omega)) hz; obtain ⟨hc2, hf2⟩ := bcell hb2)
    clear hc2 hf2
    have hb3 : Below w.heap.size w w2 := by (repeat (first | (with_reducible exact Below.refl _ _) | (with_reducible assumption) | (refine below_step (by assumption) (by first | omega | (simp; done) | (simp; omega)) ?_) | (with_reducible refine Below.alloc ?_ (by first | omega | (simp; done) | (simp; omega)) _) | (with_reducible refine Below.drew ?_) | (with_reducible refine below_drewN ?_ _) | (with_reducible refine Below.setCell ?_ (by first | omega | (simp; done) | (simp; omega)) _)))
    go_loopw [3, 19] (fun o i wr => ∃ k : Nat, k ≤ p.items.length ∧ i = .int .i64 k ∧ o = .string ⟨(Sp.le8 p.items.length ++ Sp.itemsB (p.items.take k)).toArray⟩ ∧ Below w2.heap.size w2 wr) (fun _ i _ => p.items.length - (intOf i).toNat)
    case atStart => exact ⟨0, Nat.zero_le _, rfl, by simp [Sp.itemsB], Below.refl _ _⟩
    case round =>
      obtain ⟨k, hk, rfl, rfl, hb⟩ := hrel
      have hz4 := hb.size
      by_cases hlt : k < p.items.length
      · obtain ⟨b, off, rfl, hbl, hc⟩ := Hp.out.items.at_ hlt
        obtain ⟨V2, cv2, hit, htx⟩ := hc k hlt
        clear hc
        have hb5 := hb3.trans (hb.mono (by omega))
        have hit := hit.keep (w' := wr) fun j => hb5.cell (p := ⟨_, _, none⟩) hbl
        have Ht := Lib.hid (htx.go hb5)
        obtain ⟨h0, h1, h2, h3, h4, h5, h6, h7, h8, h9⟩ := hit
        have HI := Lib.hid (HA.out k hlt)
        have hbw : b < wr.heap.size := by omega
        have HS := Lib.hid (Sp.itemsB_succ p.items k hlt)
        have hle := Sp.itemsB_le HA.out k (by omega)
        have hle2 := Sp.itemB_le (Sp.isItem_rng HI.out).2.2.2.2.2.2.2.2.1
        generalize Sp.itemsB (p.items.take k) = t at *
        generalize p.items.getD k Sp.item0 = x at *
        clear htx
        go_wp2_with (go_at_call 203; refine (item_any x V2 cv2 _ (Ht.out.go (by (repeat (first | (with_reducible exact Below.refl _ _) | (with_reducible assumption) | (refine below_step (by assumption) (by first | omega | (simp; done) | (simp; omega)) ?_) | (with_reducible refine Below.alloc ?_ (by first | omega | (simp; done) | (simp; omega)) _) | (with_reducible refine Below.drew ?_) | (with_reducible refine below_drewN ?_ _) | (with_reducible refine Below.setCell ?_ (by first | omega | (simp; done) | (simp; omega)) _))))) HI.out).mono ?_; rintro e w6 ⟨rfl, hb6⟩; have hz6 := hb6.size)
        exact ⟨⟨k + 1, by omega, by go_num, by rw [HS.out] <;> simp, by (repeat (first | (with_reducible exact Below.refl _ _) | (with_reducible assumption) | (refine below_step (by assumption) (by first | omega | (simp; done) | (simp; omega)) ?_) | (with_reducible refine Below.alloc ?_ (by first | omega | (simp; done) | (simp; omega)) _) | (with_reducible refine Below.drew ?_) | (with_reducible refine below_drewN ?_ _) | (with_reducible refine Below.setCell ?_ (by first | omega | (simp; done) | (simp; omega)) _)))⟩, by simp [intOf]; omega⟩
      · have htk : p.items.take k = p.items := List.take_of_length_le (by omega)
        have HTK := Lib.hid htk
        clear htk
        go_wp2
        go_ret
        exact ⟨by rw [HK.out]; simp [HTK.out], by (repeat (first | (with_reducible exact Below.refl _ _) | (with_reducible assumption) | (refine below_step (by assumption) (by first | omega | (simp; done) | (simp; omega)) ?_) | (with_reducible refine Below.alloc ?_ (by first | omega | (simp; done) | (simp; omega)) _) | (with_reducible refine Below.drew ?_) | (with_reducible refine below_drewN ?_ _) | (with_reducible refine Below.setCell ?_ (by first | omega | (simp; done) | (simp; omega)) _)))⟩
  · have e1 : (p.kind == 1) = false := by rw [beq_eq_false_iff_ne]; omega
    have e2 : (p.kind == 2) = true := by rw [beq_iff_eq]; omega
    have HK := Lib.hid (Sp.partsB2 hk)
    obtain ⟨hl4, hkd, hall⟩ := Sp.isBranch_rng hi
    have HA := Lib.hid hall
    have HKD := Lib.hid hkd
    clear hk h hi hall hkd
    go_enter Tryz.func196, Tryz.ntmps196
    go_wp2_with (go_at_call 195; refine (num_any _ (by omega) (by omega) _).mono ?_; rintro e w2 ⟨rfl, hb2⟩; have hz := hb2.size; have hsz : w.heap.size < w2.heap.size := Nat.lt_of_lt_of_le (by first | exact hsz | omega | (simp; done) | (simp; omega)) hz; obtain ⟨hc2, hf2⟩ := bcell hb2)
    have hbx2 : w2.cell? ⟨w.heap.size, 2, none⟩ = some (.slice K p.keys.length ck) := (hc2 _ _ (by simp)).trans (by simp [go_sem])
    clear hc2 hf2
    have hb3 : Below w.heap.size w w2 := by (repeat (first | (with_reducible exact Below.refl _ _) | (with_reducible assumption) | (refine below_step (by assumption) (by first | omega | (simp; done) | (simp; omega)) ?_) | (with_reducible refine Below.alloc ?_ (by first | omega | (simp; done) | (simp; omega)) _) | (with_reducible refine Below.drew ?_) | (with_reducible refine below_drewN ?_ _) | (with_reducible refine Below.setCell ?_ (by first | omega | (simp; done) | (simp; omega)) _)))
    go_loopw [3, 37] (fun o i wr => ∃ k : Nat, k ≤ p.kids.length ∧ i = .int .i64 k ∧ o = .string ⟨(Sp.le8 p.kids.length ++ Sp.kidsTo p.keys p.kids k).toArray⟩ ∧ Below w2.heap.size w2 wr) (fun _ i _ => p.kids.length - (intOf i).toNat)
    case atStart => exact ⟨0, Nat.zero_le _, rfl, by simp [Sp.kidsTo], Below.refl _ _⟩
    case round =>
      obtain ⟨k, hk, rfl, rfl, hb⟩ := hrel
      have hz4 := hb.size
      by_cases hlt : k < p.kids.length
      · have hltk : k < p.keys.length := by have := HKD.out; omega
        obtain ⟨db, do_, rfl, hdb, hdc⟩ := Hp.out.kids.at_ hlt
        obtain ⟨kb, ko, rfl, hkb, hkc⟩ := Hp.out.keys.at_ hltk
        have hb5 := hb3.trans (hb.mono (by omega))
        have hdc0 := (hb5.cell (p := ⟨_, _, none⟩) hdb).trans (hdc k hlt)
        have hkc0 := (hb5.cell (p := ⟨_, _, none⟩) hkb).trans (hkc k hltk)
        have hbx := ((bcell hb).1 w.heap.size 2 hsz).trans hbx2
        have hkbw : kb < wr.heap.size := by omega
        have hdbw : db < wr.heap.size := by omega
        have hwr : w.heap.size < wr.heap.size := by omega
        have hu := HA.out k hlt
        obtain ⟨hu0, hu1⟩ := hu
        clear hdc hkc
        have HS := Lib.hid (Sp.kidsTo_succ p.keys p.kids k)
        have HD := Lib.hid (Sp.kidB_def p.keys p.kids k)
        have hle := Sp.kidsTo_le p.keys p.kids k
        have hte := Sp.text_le (p.keys.getD k [])
        generalize Sp.kidB p.keys p.kids k = kb2 at *
        generalize Sp.kidsTo p.keys p.kids k = t at *
        generalize p.kids.getD k 0 = u at *
        generalize p.keys.getD k [] = s at *
        go_wp2_with (first | (go_at_call 204; refine (packText_any _ _).mono ?_; rintro e w6 ⟨rfl, hb6⟩; have hz6 := hb6.size) | (go_at_call 195; refine (num_any _ (by omega) (by omega) _).mono ?_; rintro e w7 ⟨rfl, hb7⟩; have hz7 := hb7.size))
        exact ⟨⟨k + 1, by omega, by go_num, by rw [HS.out, HD.out] <;> simp, by (repeat (first | (with_reducible exact Below.refl _ _) | (with_reducible assumption) | (refine below_step (by assumption) (by first | omega | (simp; done) | (simp; omega)) ?_) | (with_reducible refine Below.alloc ?_ (by first | omega | (simp; done) | (simp; omega)) _) | (with_reducible refine Below.drew ?_) | (with_reducible refine below_drewN ?_ _) | (with_reducible refine Below.setCell ?_ (by first | omega | (simp; done) | (simp; omega)) _)))⟩, by simp [intOf]; omega⟩
      · have hkl : k = p.kids.length := by omega
        have HKL := Lib.hid hkl
        clear hkl
        go_wp2
        go_ret
        exact ⟨by rw [HK.out]; simp [HKL.out], by (repeat (first | (with_reducible exact Below.refl _ _) | (with_reducible assumption) | (refine below_step (by assumption) (by first | omega | (simp; done) | (simp; omega)) ?_) | (with_reducible refine Below.alloc ?_ (by first | omega | (simp; done) | (simp; omega)) _) | (with_reducible refine Below.drew ?_) | (with_reducible refine below_drewN ?_ _) | (with_reducible refine Below.setCell ?_ (by first | omega | (simp; done) | (simp; omega)) _)))⟩
  · have e1 : (p.kind == 1) = false := by rw [beq_eq_false_iff_ne]; omega
    have e2 : (p.kind == 2) = false := by rw [beq_eq_false_iff_ne]; omega
    have e3 : (p.kind == 3) = true := by rw [beq_iff_eq]; omega
    have HK := Lib.hid (Sp.partsB3 hk)
    clear hk h
    go_enter Tryz.func196, Tryz.ntmps196
    go_wp2_with (go_at_call 204; refine (packText_any _ _).mono ?_; rintro e w2 ⟨rfl, hb2⟩; have hz := hb2.size; have hsz : w.heap.size < w2.heap.size := Nat.lt_of_lt_of_le (by first | exact hsz | omega | (simp; done) | (simp; omega)) hz; obtain ⟨hc2, hf2⟩ := bcell hb2)
    go_ret
    exact ⟨by rw [HK.out]; rfl, by (repeat (first | (with_reducible exact Below.refl _ _) | (with_reducible assumption) | (refine below_step (by assumption) (by first | omega | (simp; done) | (simp; omega)) ?_) | (with_reducible refine Below.alloc ?_ (by first | omega | (simp; done) | (simp; omega)) _) | (with_reducible refine Below.drew ?_) | (with_reducible refine below_drewN ?_ _) | (with_reducible refine Below.setCell ?_ (by first | omega | (simp; done) | (simp; omega)) _)))⟩
  · have e1 : (p.kind == 1) = false := by rw [beq_eq_false_iff_ne]; omega
    have e2 : (p.kind == 2) = false := by rw [beq_eq_false_iff_ne]; omega
    have e3 : (p.kind == 3) = false := by rw [beq_eq_false_iff_ne]; omega
    have e4 : (p.kind == 4) = true := by rw [beq_iff_eq]; omega
    have HK := Lib.hid (Sp.partsB4 hk)
    have hv := Sp.isVals_rng hi
    clear hk h hi
    go_enter Tryz.func196, Tryz.ntmps196
    go_wp2_with (go_at_call 205; refine (vals_any p.vals V cv _ (Hp.out.vals.go (by (repeat (first | (with_reducible exact Below.refl _ _) | (with_reducible assumption) | (refine below_step (by assumption) (by first | omega | (simp; done) | (simp; omega)) ?_) | (with_reducible refine Below.alloc ?_ (by first | omega | (simp; done) | (simp; omega)) _) | (with_reducible refine Below.drew ?_) | (with_reducible refine below_drewN ?_ _) | (with_reducible refine Below.setCell ?_ (by first | omega | (simp; done) | (simp; omega)) _))))) (by omega)).mono ?_; rintro e w2 ⟨rfl, hb2⟩; have hz := hb2.size; have hsz : w.heap.size < w2.heap.size := Nat.lt_of_lt_of_le (by first | exact hsz | omega | (simp; done) | (simp; omega)) hz; obtain ⟨hc2, hf2⟩ := bcell hb2)
    go_ret
    exact ⟨by rw [HK.out]; rfl, by (repeat (first | (with_reducible exact Below.refl _ _) | (with_reducible assumption) | (refine below_step (by assumption) (by first | omega | (simp; done) | (simp; omega)) ?_) | (with_reducible refine Below.alloc ?_ (by first | omega | (simp; done) | (simp; omega)) _) | (with_reducible refine Below.drew ?_) | (with_reducible refine below_drewN ?_ _) | (with_reducible refine Below.setCell ?_ (by first | omega | (simp; done) | (simp; omega)) _)))⟩
  · have e1 : (p.kind == 1) = false := by rw [beq_eq_false_iff_ne]; omega
    have e2 : (p.kind == 2) = false := by rw [beq_eq_false_iff_ne]; omega
    have e3 : (p.kind == 3) = false := by rw [beq_eq_false_iff_ne]; omega
    have e4 : (p.kind == 4) = false := by rw [beq_eq_false_iff_ne]; omega
    have e5 : (p.kind == 5) = true := by rw [beq_iff_eq]; omega
    have HK := Lib.hid (Sp.partsB5 hk)
    have HI := Lib.hid hi
    clear hk h hi
    go_enter Tryz.func196, Tryz.ntmps196
    go_wp2_with (go_at_call 206; refine (free_any p ⟨I, K, D, V, F, ci, ck, cd, cv, cf⟩ _ (Hp.out.go (by (repeat (first | (with_reducible exact Below.refl _ _) | (with_reducible assumption) | (refine below_step (by assumption) (by first | omega | (simp; done) | (simp; omega)) ?_) | (with_reducible refine Below.alloc ?_ (by first | omega | (simp; done) | (simp; omega)) _) | (with_reducible refine Below.drew ?_) | (with_reducible refine below_drewN ?_ _) | (with_reducible refine Below.setCell ?_ (by first | omega | (simp; done) | (simp; omega)) _))))) HI.out).mono ?_; rintro e w2 ⟨rfl, hb2⟩; have hz := hb2.size; have hsz : w.heap.size < w2.heap.size := Nat.lt_of_lt_of_le (by first | exact hsz | omega | (simp; done) | (simp; omega)) hz; obtain ⟨hc2, hf2⟩ := bcell hb2)
    go_ret
    exact ⟨by rw [HK.out]; rfl, by (repeat (first | (with_reducible exact Below.refl _ _) | (with_reducible assumption) | (refine below_step (by assumption) (by first | omega | (simp; done) | (simp; omega)) ?_) | (with_reducible refine Below.alloc ?_ (by first | omega | (simp; done) | (simp; omega)) _) | (with_reducible refine Below.drew ?_) | (with_reducible refine below_drewN ?_ _) | (with_reducible refine Below.setCell ?_ (by first | omega | (simp; done) | (simp; omega)) _)))⟩
  · have e1 : (p.kind == 1) = false := by rw [beq_eq_false_iff_ne]; omega
    have e2 : (p.kind == 2) = false := by rw [beq_eq_false_iff_ne]; omega
    have e3 : (p.kind == 3) = false := by rw [beq_eq_false_iff_ne]; omega
    have e4 : (p.kind == 4) = false := by rw [beq_eq_false_iff_ne]; omega
    have e5 : (p.kind == 5) = false := by rw [beq_eq_false_iff_ne]; omega
    have e6 : (p.kind == 6) = true := by rw [beq_iff_eq]; omega
    have HK := Lib.hid (Sp.partsB6 hk)
    obtain ⟨hr, f0, f1, l0, l1⟩ := Sp.isMt_rng hi
    have HR := Lib.hid hr
    clear hk h hi hr
    go_enter Tryz.func196, Tryz.ntmps196
    go_wp2
    refine wp_region_after (by kernel_rfl) (by kernel_rfl) (w.heap.size + 1) ?_
    repeat (go_big_quiet_step (first | (go_at_call 61; exact after_call (by simp) (packNum_any _ Hp.out.txn.1 Hp.out.txn.2 _)) | (go_at_call 195; exact after_call (by simp) (num_any _ (by omega) (by omega) _)) | (go_at_call 207; exact after_call (by simp) (root_any p.mt.main _ HR.out))))
    refine wpQuiet_nil ?_
    intro w6 hb6
    go_wp2
    go_ret
    exact ⟨by rw [HK.out]; simp [Sp.mtB], by (repeat (first | (with_reducible exact Below.refl _ _) | (with_reducible assumption) | (refine below_step (by assumption) (by first | omega | (simp; done) | (simp; omega)) ?_) | (with_reducible refine Below.alloc ?_ (by first | omega | (simp; done) | (simp; omega)) _) | (with_reducible refine Below.drew ?_) | (with_reducible refine below_drewN ?_ _) | (with_reducible refine Below.setCell ?_ (by first | omega | (simp; done) | (simp; omega)) _)))⟩
set_option maxRecDepth 100000 in
set_option maxHeartbeats 1600000 in
theorem bytes_any (p : Sp.Page) (r : Refs) {M : Nat → Prop} (w : World) (hp : PageRd w M p r) :
    Calls Tryz.prog 178 #[.agg (pageV p r).toArray] w fun e w' => e = .returned (.string ⟨(Sp.bytes p).toArray⟩) ∧ Below w.heap.size w w' := by
  have Hp := Lib.hid hp
  clear hp
  have HI := Lib.hid (fun w h => isPage_any (M := M) p r w h)
  have hsz : w.heap.size < w.heap.size + 1 := by omega
  have e0 : (pageV p r).toArray = #[.int .i64 p.kind, .slice r.I p.items.length r.i, .slice r.K p.keys.length r.k, .slice r.D p.kids.length r.d, .string ⟨p.text.toArray⟩, .slice r.V p.vals.length r.v, .slice r.F p.free.length r.f, .int .i64 p.next,
   .int .u64 p.mt.txn, .int .i64 p.mt.main.page, .int .i64 p.mt.main.count, .int .i64 p.mt.main.flags, .int .i64 p.mt.free, .int .i64 p.mt.last] := rfl
  have E0 := Lib.hid e0
  clear e0
  cases hi : Sp.isPage p
  · rw [hi] at HI
    have HB : Hid (Sp.bytes p = []) := Lib.hid (by simp [Sp.bytes, hi])
    clear hi
    rw [E0.out]
    go_enter Tryz.func178, Tryz.ntmps178
    go_wp2_with (go_at_call 134; refine (HI.out _ (Hp.out.go (by (repeat (first | (with_reducible exact Below.refl _ _) | (with_reducible assumption) | (refine below_step (by assumption) (by first | omega | (simp; done) | (simp; omega)) ?_) | (with_reducible refine Below.alloc ?_ (by first | omega | (simp; done) | (simp; omega)) _) | (with_reducible refine Below.drew ?_) | (with_reducible refine below_drewN ?_ _) | (with_reducible refine Below.setCell ?_ (by first | omega | (simp; done) | (simp; omega)) _)))))).mono ?_; rintro e w2 ⟨rfl, hb2⟩; have hz := hb2.size; have hsz : w.heap.size < w2.heap.size := Nat.lt_of_lt_of_le (by first | exact hsz | omega | (simp; done) | (simp; omega)) hz; obtain ⟨hc2, hf2⟩ := bcell hb2)
    go_ret
    exact ⟨by rw [HB.out]; rfl, by (repeat (first | (with_reducible exact Below.refl _ _) | (with_reducible assumption) | (refine below_step (by assumption) (by first | omega | (simp; done) | (simp; omega)) ?_) | (with_reducible refine Below.alloc ?_ (by first | omega | (simp; done) | (simp; omega)) _) | (with_reducible refine Below.drew ?_) | (with_reducible refine below_drewN ?_ _) | (with_reducible refine Below.setCell ?_ (by first | omega | (simp; done) | (simp; omega)) _)))⟩
  · rw [hi] at HI
    have HB : Hid (Sp.bytes p = Sp.le8 (Sp.sum (Sp.body p)) ++ Sp.body p) := Lib.hid (by simp [Sp.bytes, hi])
    have hple := Sp.partsB_le hi
    have HP := Lib.hid (fun w h => parts_any (M := M) p r w h hi)
    have hkr : 1 ≤ p.kind ∧ p.kind ≤ 6 := by
      rcases Sp.isPage_kind hi with h | h | h | h | h | h <;> omega
    have HBD := Lib.hid (Sp.body_def p)
    clear hi
    rw [E0.out]
    generalize Sp.partsB p = q at *
    go_enter Tryz.func178, Tryz.ntmps178
    go_wp2_with (go_at_call 134; refine (HI.out _ (Hp.out.go (by (repeat (first | (with_reducible exact Below.refl _ _) | (with_reducible assumption) | (refine below_step (by assumption) (by first | omega | (simp; done) | (simp; omega)) ?_) | (with_reducible refine Below.alloc ?_ (by first | omega | (simp; done) | (simp; omega)) _) | (with_reducible refine Below.drew ?_) | (with_reducible refine below_drewN ?_ _) | (with_reducible refine Below.setCell ?_ (by first | omega | (simp; done) | (simp; omega)) _)))))).mono ?_; rintro e w2 ⟨rfl, hb2⟩; have hz := hb2.size; have hsz : w.heap.size < w2.heap.size := Nat.lt_of_lt_of_le (by first | exact hsz | omega | (simp; done) | (simp; omega)) hz; obtain ⟨hc2, hf2⟩ := bcell hb2)
    have HB2 := Lib.hid hb2
    refine wp_region_after (by kernel_rfl) (by kernel_rfl) (w2.heap.size) ?_
    repeat (go_big_quiet_step (first | (go_at_call 195; exact after_call (by simp) (num_any _ (by omega) (by omega) _)) | (go_at_call 196; exact after_call (by simp) (HP.out _ (Hp.out.go (Below.trans (b := w2) (Below.trans (b := w.alloc _) (by go_grown) (HB2.out.mono (by simp))) ((After.h _).mono (by omega))))))))
    refine wpQuiet_nil ?_
    intro w6 hb6
    have hz6 := hb6.size
    have hsr := Sp.sum_range (Sp.le8 p.kind ++ q)
    have HSR := Lib.hid hsr
    clear hsr
    go_wp2_with (first | (go_at_call 197; refine (packSum_any _ _ (by simp only [List.length_append, Sp.le8_length]; omega)).mono ?_; rintro e w7 ⟨rfl, rfl⟩) | (go_at_call 61; refine (packNum_any _ HSR.out.1 HSR.out.2 _).mono ?_; rintro e w8 ⟨rfl, hb8⟩; have hz8 := hb8.size))
    go_ret
    exact ⟨by rw [HB.out, HBD.out]; simp, by (repeat (first | (with_reducible exact Below.refl _ _) | (with_reducible assumption) | (refine below_step (by assumption) (by first | omega | (simp; done) | (simp; omega)) ?_) | (with_reducible refine Below.alloc ?_ (by first | omega | (simp; done) | (simp; omega)) _) | (with_reducible refine Below.drew ?_) | (with_reducible refine below_drewN ?_ _) | (with_reducible refine Below.setCell ?_ (by first | omega | (simp; done) | (simp; omega)) _)))⟩
end Go.Proofs.YtmcpkhknjdiocaaGreatDoor
