/- The document's roots, values, items as bytes. The document's Bytes. errors.Is where the target is an Errno. -/
import Derived.Test.YtlpmjeiogdlifaaGreatQB06
import Derived.Test.YtlpmjeiogdlifaaGreatQB08
import Derived.Test.YtlpmjeiogdlifaaGreatQB09
import Derived.Test.YtlpmjeiogdlifaaGreatQB11
import Derived.Test.YtlpmjeiogdlifaaGreatQB13
import Derived.Lib.IfaceEq
import Derived.LaidEql
import Derived.Stop.Asserts
import Derived.RowKitTokens
set_option linter.unusedSimpArgs false
set_option linter.unusedVariables false
namespace Go.Proofs.YtlpmjeiogdlifaaGreat
open Go.RowKit
attribute [local go_sem low] mk_extract
attribute [local go_sem] After.cell After.frozen mk_extract_end ByteArray.mk_append_mk
attribute [local go_sem] Sp.le8_length Sp.rootB_len
set_option maxRecDepth 100000 in
set_option maxHeartbeats 400000 in
theorem drootB_any (r : Sp.Root) (w : World) (h : Sp.isRoot r = true) :
    Calls Tryz.prog 61 #[.agg (rootV r).toArray] w fun e w' => e = .returned (.string ⟨(Sp.rootB r).toArray⟩) ∧ Below w.heap.size w w' := by
  obtain ⟨p, n, f⟩ := r
  obtain ⟨a0, a1, b0, b1, c0, c1⟩ := Sp.isRoot_rng h
  clear h
  simp only [rootV] at *
  go_enter Tryz.func61, Tryz.ntmps61
  go_wp2
  refine wp_region_after (by kernel_rfl) (by kernel_rfl) (w.heap.size + 1) ?_
  repeat (go_big_quiet_step ((go_at_call 56; exact after_call (by simp) (dnum_any _ (by omega) (by omega) _))))
  refine wpQuiet_nil ?_
  intro w1 hb
  go_wp2
  go_ret
  exact ⟨by simp [Sp.rootB], by (repeat (first | (with_reducible exact Below.refl _ _) | (with_reducible assumption) | (refine below_step (by assumption) (by first | omega | (simp; done) | (simp; omega)) ?_) | (with_reducible refine Below.alloc ?_ (by first | omega | (simp; done) | (simp; omega)) _) | (with_reducible refine Below.drew ?_) | (with_reducible refine below_drewN ?_ _) | (with_reducible refine Below.setCell ?_ (by first | omega | (simp; done) | (simp; omega)) _)))⟩
set_option maxRecDepth 100000 in
set_option maxHeartbeats 400000 in
theorem dtexts_any (l : List Txt) (A : Option Addr) (c : Nat) {M : Nat → Prop} (w : World) (hl : Txts w M A l) (hn : l.length ≤ 1000) :
    Calls Tryz.prog 59 #[.slice A l.length c] w fun e w' => e = .returned (.string ⟨(Sp.valsB l).toArray⟩) ∧ Below w.heap.size w w' := by
  have Hl := Lib.hid hl
  clear hl
  go_enter Tryz.func59, Tryz.ntmps59
  go_wp2_with (go_at_call 56; refine (dnum_any _ (by omega) (by omega) _).mono ?_; rintro e w1 ⟨rfl, hb⟩)
  have hz := hb.size
  go_loopw [3, 4] (fun o i wr => ∃ k : Nat, k ≤ l.length ∧ i = .int .i64 k ∧ o = .string ⟨(Sp.le8 l.length ++ Sp.textsB (l.take k)).toArray⟩ ∧ Below w.heap.size w wr) (fun _ i _ => l.length - (intOf i).toNat)
  case atStart => exact ⟨0, Nat.zero_le _, rfl, by simp [Sp.textsB], hb⟩
  case round =>
    obtain ⟨k, hk, rfl, rfl, hb2⟩ := hrel
    have hz2 := hb2.size
    by_cases hlt : k < l.length
    · obtain ⟨b, off, rfl, hbl, hc⟩ := Hl.out.at_ hlt
      have hc0 := (hb2.cell (p := ⟨_, _, none⟩) hbl).trans (hc k hlt)
      clear hc
      have HT := Lib.hid (Sp.textsB_succ l k hlt)
      have hle := Sp.textsB_le (l.take k)
      have hle2 : (Sp.textsB (l.take k)).length ≤ 65537 * 1000 := by
        rw [List.length_take] at hle
        omega
      clear hle
      have hte := Sp.text_le (l.getD k [])
      generalize l.getD k [] = x at *
      generalize Sp.textsB (l.take k) = t at *
      go_wp2_with (go_at_call 58; refine (dText_any x _).mono ?_; rintro e w3 ⟨rfl, hb3⟩)
      have hz3 := hb3.size
      refine ⟨⟨k + 1, by omega, by go_num, by rw [HT.out] <;> simp, by (repeat (first | (with_reducible exact Below.refl _ _) | (with_reducible assumption) | (refine below_step (by assumption) (by first | omega | (simp; done) | (simp; omega)) ?_) | (with_reducible refine Below.alloc ?_ (by first | omega | (simp; done) | (simp; omega)) _) | (with_reducible refine Below.drew ?_) | (with_reducible refine below_drewN ?_ _) | (with_reducible refine Below.setCell ?_ (by first | omega | (simp; done) | (simp; omega)) _)))⟩, by simp [intOf]; omega⟩
    · have hkl : k = l.length := by omega
      go_wp2
      go_ret
      have htk : l.take k = l := List.take_of_length_le (by omega)
      exact ⟨by simp [Sp.valsB, htk], hb2⟩
set_option maxRecDepth 100000 in
set_option maxHeartbeats 1600000 in
theorem ditemB_any (x : Sp.Item) (V : Option Addr) (c : Nat) {M : Nat → Prop} (w : World) (hx : Txts w M V x.vals) (h : Sp.isItem x = true) :
    Calls Tryz.prog 57 #[.agg (itemV x V c).toArray] w fun e w' => e = .returned (.string ⟨(Sp.itemB x).toArray⟩) ∧ Below w.heap.size w w' := by
  obtain ⟨k0, k1, r0, r1, l0, l1, d0, d1, v1, hr⟩ := Sp.isItem_rng h
  have HR := Lib.hid hr
  have Hx := Lib.hid hx
  clear h hr hx
  have t1 := Sp.text_le x.key
  have t2 := Sp.text_le x.val
  have t3 := Sp.valsB_le x.vals
  have hsz : w.heap.size < w.heap.size + 1 := by omega
  simp only [itemV]
  rcases (by omega : x.kind = 1 ∨ x.kind = 2 ∨ x.kind = 3 ∨ (x.kind = 4 ∨ x.kind = 0)) with hk | hk | hk | hk
  · have e1 : (x.kind == 1) = true := by rw [beq_iff_eq]; omega
    have HK := Lib.hid (Sp.itemB1 hk)
    clear hk
    go_enter Tryz.func57, Tryz.ntmps57
    go_wp2
    refine wp_region_after (by kernel_rfl) (by kernel_rfl) (w.heap.size + 1) ?_
    repeat (go_big_quiet_step (first | (go_at_call 56; exact after_call (by simp) (dnum_any _ (by omega) (by omega) _)) | (go_at_call 58; exact after_call (by simp) (dText_any _ _))))
    refine wpQuiet_nil ?_
    intro w1 hb
    obtain ⟨hc, hf⟩ := bcell hb
    have hsz : w.heap.size < w1.heap.size := by have := hb.size; simp at this; omega
    go_wp2_with (go_at_call 58; refine (dText_any _ _).mono ?_; rintro e w2 ⟨rfl, hb2⟩; have hz := hb2.size; have hsz : w.heap.size < w2.heap.size := Nat.lt_of_lt_of_le (by first | exact hsz | omega | (simp; done) | (simp; omega)) hz; obtain ⟨hc2, hf2⟩ := bcell hb2)
    go_ret
    exact ⟨by rw [HK.out]; simp, by (repeat (first | (with_reducible exact Below.refl _ _) | (with_reducible assumption) | (refine below_step (by assumption) (by first | omega | (simp; done) | (simp; omega)) ?_) | (with_reducible refine Below.alloc ?_ (by first | omega | (simp; done) | (simp; omega)) _) | (with_reducible refine Below.drew ?_) | (with_reducible refine below_drewN ?_ _) | (with_reducible refine Below.setCell ?_ (by first | omega | (simp; done) | (simp; omega)) _)))⟩
  · have e1 : (x.kind == 1) = false := by rw [beq_eq_false_iff_ne]; omega
    have e2 : (x.kind == 2) = true := by rw [beq_iff_eq]; omega
    have HK := Lib.hid (Sp.itemB2 hk)
    clear hk
    go_enter Tryz.func57, Tryz.ntmps57
    go_wp2
    refine wp_region_after (by kernel_rfl) (by kernel_rfl) (w.heap.size + 1) ?_
    repeat (go_big_quiet_step (first | (go_at_call 56; exact after_call (by simp) (dnum_any _ (by omega) (by omega) _)) | (go_at_call 58; exact after_call (by simp) (dText_any _ _))))
    refine wpQuiet_nil ?_
    intro w1 hb
    obtain ⟨hc, hf⟩ := bcell hb
    have hsz : w.heap.size < w1.heap.size := by have := hb.size; simp at this; omega
    go_wp2
    refine wp_region_after (by kernel_rfl) (by kernel_rfl) (w1.heap.size) ?_
    repeat (go_big_quiet_step (first | (go_at_call 56; exact after_call (by simp) (dnum_any _ (by omega) (by omega) _))))
    refine wpQuiet_nil ?_
    intro w2 hb2
    go_wp2
    go_ret
    exact ⟨by rw [HK.out]; simp, by (repeat (first | (with_reducible exact Below.refl _ _) | (with_reducible assumption) | (refine below_step (by assumption) (by first | omega | (simp; done) | (simp; omega)) ?_) | (with_reducible refine Below.alloc ?_ (by first | omega | (simp; done) | (simp; omega)) _) | (with_reducible refine Below.drew ?_) | (with_reducible refine below_drewN ?_ _) | (with_reducible refine Below.setCell ?_ (by first | omega | (simp; done) | (simp; omega)) _)))⟩
  · have e1 : (x.kind == 1) = false := by rw [beq_eq_false_iff_ne]; omega
    have e2 : (x.kind == 2) = false := by rw [beq_eq_false_iff_ne]; omega
    have e3 : (x.kind == 3) = true := by rw [beq_iff_eq]; omega
    have HK := Lib.hid (Sp.itemB3 hk)
    clear hk
    go_enter Tryz.func57, Tryz.ntmps57
    go_wp2
    refine wp_region_after (by kernel_rfl) (by kernel_rfl) (w.heap.size + 1) ?_
    repeat (go_big_quiet_step (first | (go_at_call 56; exact after_call (by simp) (dnum_any _ (by omega) (by omega) _)) | (go_at_call 58; exact after_call (by simp) (dText_any _ _))))
    refine wpQuiet_nil ?_
    intro w1 hb
    obtain ⟨hc, hf⟩ := bcell hb
    have hsz : w.heap.size < w1.heap.size := by have := hb.size; simp at this; omega
    have Hb := Lib.hid hb
    go_wp2
    refine wp_region_after (by kernel_rfl) (by kernel_rfl) (w1.heap.size) ?_
    repeat (go_big_quiet_step (first | (go_at_call 56; exact after_call (by simp) (dnum_any _ (by omega) (by omega) _)) | (go_at_call 59; exact after_call (by simp) (dtexts_any x.vals V c _ (Hx.out.go (Below.trans (b := w1) (Below.trans (b := w.alloc _) (by go_grown) (Hb.out.mono (by omega))) ((After.h _).mono (by omega)))) (by omega)))))
    refine wpQuiet_nil ?_
    intro w2 hb2
    go_wp2
    go_ret
    exact ⟨by rw [HK.out]; simp, by (repeat (first | (with_reducible exact Below.refl _ _) | (with_reducible assumption) | (refine below_step (by assumption) (by first | omega | (simp; done) | (simp; omega)) ?_) | (with_reducible refine Below.alloc ?_ (by first | omega | (simp; done) | (simp; omega)) _) | (with_reducible refine Below.drew ?_) | (with_reducible refine below_drewN ?_ _) | (with_reducible refine Below.setCell ?_ (by first | omega | (simp; done) | (simp; omega)) _)))⟩
  · have e1 : (x.kind == 1) = false := by rw [beq_eq_false_iff_ne]; omega
    have e2 : (x.kind == 2) = false := by rw [beq_eq_false_iff_ne]; omega
    have e3 : (x.kind == 3) = false := by rw [beq_eq_false_iff_ne]; omega
    have HK := Lib.hid (Sp.itemB4 (x := x) (by omega) (by omega) (by omega))
    clear hk
    go_enter Tryz.func57, Tryz.ntmps57
    go_wp2
    refine wp_region_after (by kernel_rfl) (by kernel_rfl) (w.heap.size + 1) ?_
    repeat (go_big_quiet_step (first | (go_at_call 56; exact after_call (by simp) (dnum_any _ (by omega) (by omega) _)) | (go_at_call 58; exact after_call (by simp) (dText_any _ _))))
    refine wpQuiet_nil ?_
    intro w1 hb
    obtain ⟨hc, hf⟩ := bcell hb
    have hsz : w.heap.size < w1.heap.size := by have := hb.size; simp at this; omega
    go_wp2_with (go_at_call 61; refine (drootB_any x.root _ HR.out).mono ?_; rintro e w2 ⟨rfl, hb2⟩; have hz := hb2.size; have hsz : w.heap.size < w2.heap.size := Nat.lt_of_lt_of_le (by first | exact hsz | omega | (simp; done) | (simp; omega)) hz; obtain ⟨hc2, hf2⟩ := bcell hb2)
    go_ret
    exact ⟨by rw [HK.out]; simp, by (repeat (first | (with_reducible exact Below.refl _ _) | (with_reducible assumption) | (refine below_step (by assumption) (by first | omega | (simp; done) | (simp; omega)) ?_) | (with_reducible refine Below.alloc ?_ (by first | omega | (simp; done) | (simp; omega)) _) | (with_reducible refine Below.drew ?_) | (with_reducible refine below_drewN ?_ _) | (with_reducible refine Below.setCell ?_ (by first | omega | (simp; done) | (simp; omega)) _)))⟩
end Go.Proofs.YtlpmjeiogdlifaaGreat
namespace Go.Proofs.YtlpmjeiogdlifaaGreat
open Go.RowKit
attribute [local go_sem low] mk_extract
attribute [local go_sem] After.cell After.frozen mk_extract_end ByteArray.mk_append_mk
attribute [local go_sem] Sp.le8_length Sp.rootB_len
theorem Sp.body_le {p : Sp.Page} (h : Sp.isPage p = true) : (Sp.body p).length ≤ 1300000 := by
  have := Sp.partsB_le h
  rw [Sp.body_def, List.length_append, Sp.le8_length]
  omega
theorem Sp.bytes_yes {p : Sp.Page} (h : Sp.isPage p = true) {E : Txt} (hE : E = Sp.body p) : Sp.le8 (Sp.sum E) ++ E = Sp.bytes p := by
  subst hE
  simp [Sp.bytes, h]
set_option maxRecDepth 100000 in
set_option maxHeartbeats 12800000 in
theorem dBytes_any (p : Sp.Page) (r : Refs) {M : Nat → Prop} (w : World) (hp : PageRd w M p r) :
    Calls Tryz.prog 24 #[.agg (pageV p r).toArray] w fun e w' => e = .returned (.string ⟨(Sp.bytes p).toArray⟩) ∧ Below w.heap.size w w' := by
  have Hp := Lib.hid hp
  clear hp
  have hsz : w.heap.size < w.heap.size + 1 := by omega
  have Blk0 := Lib.hid (Blk.new w PageT (pageV p r).toArray)
  have HI := Lib.hid (fun w h => dIs_any (M := M) p r w h)
  simp only [pageV] at *
  cases hi : Sp.isPage p
  · rw [hi] at HI
    have HBN : Hid (Sp.bytes p = []) := Lib.hid (Sp.bytes_no hi)
    clear hi
    go_enter Tryz.func24, Tryz.ntmps24
    go_upto_region 1 with fail
    go_wp2_with (first
      | (go_at_call 55; refine (HI.out _ (Hp.out.go (by (repeat (first | (with_reducible exact Below.refl _ _) | (with_reducible assumption) | (refine below_step (by assumption) (by first | omega | (simp; done) | (simp; omega)) ?_) | (with_reducible refine Below.alloc ?_ (by first | omega | (simp; done) | (simp; omega)) _) | (with_reducible refine Below.drew ?_) | (with_reducible refine below_drewN ?_ _) | (with_reducible refine Below.setCell ?_ (by first | omega | (simp; done) | (simp; omega)) _)))))).mono ?_; rintro e w2 ⟨rfl, hb2⟩)
      | (refine wpList_row PageT _ rfl w.heap.size rfl rfl PageT _ (0, 0) _ Blk0.out Tryz.underlying59 rfl rfl ?_))
    go_ret
    exact ⟨by rw [HBN.out]; rfl, by (repeat (first | (with_reducible exact Below.refl _ _) | (with_reducible assumption) | (refine below_step (by assumption) (by first | omega | (simp; done) | (simp; omega)) ?_) | (with_reducible refine Below.alloc ?_ (by first | omega | (simp; done) | (simp; omega)) _) | (with_reducible refine Below.drew ?_) | (with_reducible refine below_drewN ?_ _) | (with_reducible refine Below.setCell ?_ (by first | omega | (simp; done) | (simp; omega)) _)))⟩
  · rw [hi] at HI
    have HYES := Lib.hid (fun E => Sp.bytes_yes (E := E) hi)
    have HBL := Lib.hid (Sp.body_le hi)
    have hkd := Sp.isPage_kind hi
    have hkr : 1 ≤ p.kind ∧ p.kind ≤ 6 := by rcases hkd with h | h | h | h | h | h <;> omega
    have HKD := Lib.hid hkd
    clear hi hkd
    go_enter Tryz.func24, Tryz.ntmps24
    go_upto_region 3 with (first
      | (go_at_call 55; refine (HI.out _ (Hp.out.go (by (repeat (first | (with_reducible exact Below.refl _ _) | (with_reducible assumption) | (refine below_step (by assumption) (by first | omega | (simp; done) | (simp; omega)) ?_) | (with_reducible refine Below.alloc ?_ (by first | omega | (simp; done) | (simp; omega)) _) | (with_reducible refine Below.drew ?_) | (with_reducible refine below_drewN ?_ _) | (with_reducible refine Below.setCell ?_ (by first | omega | (simp; done) | (simp; omega)) _)))))).mono ?_; rintro e w2 ⟨rfl, hb2⟩)
      | (refine wpList_row PageT _ rfl w.heap.size rfl rfl PageT _ (0, 0) _ Blk0.out Tryz.underlying59 rfl rfl ?_))
    have hB : Below w.heap.size w w2 := by (repeat (first | (with_reducible exact Below.refl _ _) | (with_reducible assumption) | (refine below_step (by assumption) (by first | omega | (simp; done) | (simp; omega)) ?_) | (with_reducible refine Below.alloc ?_ (by first | omega | (simp; done) | (simp; omega)) _) | (with_reducible refine Below.drew ?_) | (with_reducible refine below_drewN ?_ _) | (with_reducible refine Below.setCell ?_ (by first | omega | (simp; done) | (simp; omega)) _)))
    have hBk := Blk0.out.below hb2 (by simp)
    have hsz : w.heap.size < w2.heap.size := by have := hb2.size; simp at this; omega
    obtain ⟨⟨c0, c1, c2, c3, c4, c5, c6, c7, c8, c9, c10, c11, c12, c13⟩, _⟩ := hBk.at14
    clear hb2 hBk Blk0 HI
    obtain ⟨w0, rfl⟩ : ∃ W, W = w2 := ⟨_, rfl⟩
    have hsz'' := hsz
    go_upto_region 4 with (go_at_call 56; refine (dnum_any _ (by omega) (by omega) _).mono ?_; rintro e w2 ⟨rfl, hb2⟩; have hz := hb2.size; have hsz : w.heap.size < w2.heap.size := Nat.lt_of_lt_of_le (by first | exact hsz | omega | (simp; done) | (simp; omega)) hz; obtain ⟨hc2, hf2⟩ := bcell hb2)
    replace c0 := (hc2 _ _ hsz'').trans c0
    replace c1 := (hc2 _ _ hsz'').trans c1
    replace c2 := (hc2 _ _ hsz'').trans c2
    replace c3 := (hc2 _ _ hsz'').trans c3
    replace c4 := (hc2 _ _ hsz'').trans c4
    replace c5 := (hc2 _ _ hsz'').trans c5
    replace c6 := (hc2 _ _ hsz'').trans c6
    replace c7 := (hc2 _ _ hsz'').trans c7
    replace c8 := (hc2 _ _ hsz'').trans c8
    replace c9 := (hc2 _ _ hsz'').trans c9
    replace c10 := (hc2 _ _ hsz'').trans c10
    replace c11 := (hc2 _ _ hsz'').trans c11
    replace c12 := (hc2 _ _ hsz'').trans c12
    replace c13 := (hc2 _ _ hsz'').trans c13
    replace hB : Below w.heap.size w w2 := by (repeat (first | (with_reducible exact Below.refl _ _) | (with_reducible assumption) | (refine below_step (by assumption) (by first | omega | (simp; done) | (simp; omega)) ?_) | (with_reducible refine Below.alloc ?_ (by first | omega | (simp; done) | (simp; omega)) _) | (with_reducible refine Below.drew ?_) | (with_reducible refine below_drewN ?_ _) | (with_reducible refine Below.setCell ?_ (by first | omega | (simp; done) | (simp; omega)) _)))
    clear hb2 hc2 hf2 hz hsz''
    obtain ⟨w1, rfl⟩ : ∃ W, W = w2 := ⟨_, rfl⟩
    rcases HKD.out with ⟨hk, hi⟩ | ⟨hk, hi⟩ | hk | ⟨hk, hi⟩ | ⟨hk, hi⟩ | ⟨hk, hi⟩
    · as_aux_lemma =>
        have e1 : (p.kind == 1) = true := beq_iff_eq.2 hk
        have HK := Lib.hid (Sp.partsB1 hk)
        obtain ⟨hl4, hall⟩ := Sp.isLeaf_rng hi
        have HA := Lib.hid hall
        have HIT := Lib.hid (Hp.out.items.go hB)
        clear hk hi hall HKD c2 c3 c4 c5 c6 c7 c8 c9 c10 c11 c12 c13
        have hsz'' := hsz
        go_upto_region 7 with (go_at_call 56; refine (dnum_any _ (by omega) (by omega) _).mono ?_; rintro e w2 ⟨rfl, hb2⟩; have hz := hb2.size; have hsz : w.heap.size < w2.heap.size := Nat.lt_of_lt_of_le (by first | exact hsz | omega | (simp; done) | (simp; omega)) hz; obtain ⟨hc2, hf2⟩ := bcell hb2)
        replace c1 := (hc2 _ _ hsz'').trans c1
        have hb3 : Below w1.heap.size w1 w2 := hb2
        clear hc2 hf2 hb2 c0 hz
        go_wp2_with fail
        go_loopw [3, 4] (fun o i wr => ∃ k : Nat, k ≤ p.items.length ∧ i = .int .i64 k ∧ o = .string ⟨((Sp.le8 p.kind ++ Sp.le8 p.items.length) ++ Sp.itemsB (p.items.take k)).toArray⟩ ∧ Below w2.heap.size w2 wr) (fun _ i _ => p.items.length - (intOf i).toNat)
        case atStart => exact ⟨0, Nat.zero_le _, rfl, by simp [Sp.itemsB], Below.refl _ _⟩
        case round =>
          obtain ⟨k, hk, rfl, rfl, hb⟩ := hrel
          have hz4 := hb.size
          have hz3 := hb3.size
          have d1 := (hb.cell (p := ⟨w.heap.size, 1, none⟩) hsz).trans c1
          have hszw : w.heap.size < wr.heap.size := by omega
          by_cases hlt : k < p.items.length
          · obtain ⟨b, off, hA, hbl, hc⟩ := HIT.out.at_ hlt
            obtain ⟨V2, cv2, hit, htx⟩ := hc k hlt
            rw [hA] at d1
            clear hc hA
            have hb5 := hb3.trans (hb.mono (by omega))
            have hit := hit.keep (w' := wr) fun j => hb5.cell (p := ⟨_, _, none⟩) hbl
            have Ht := Lib.hid (htx.go hb5)
            obtain ⟨h0, h1, h2, h3, h4, h5, h6, h7, h8, h9⟩ := hit
            have HII := Lib.hid (HA.out k hlt)
            have hbw : b < wr.heap.size := by omega
            have HS := Lib.hid (Sp.itemsB_succ p.items k hlt)
            have hle := Sp.itemsB_le HA.out k (by omega)
            have hle2 := Sp.itemB_le (Sp.isItem_rng HII.out).2.2.2.2.2.2.2.2.1
            generalize Sp.itemsB (p.items.take k) = t at *
            generalize p.items.getD k Sp.item0 = x at *
            clear htx
            go_wp2_with (go_at_call 57; refine (ditemB_any x V2 cv2 _ Ht.out HII.out).mono ?_; rintro e w6 ⟨rfl, hb6⟩; have hz6 := hb6.size)
            exact ⟨⟨k + 1, by omega, by go_num, by rw [HS.out] <;> simp, by (repeat (first | (with_reducible exact Below.refl _ _) | (with_reducible assumption) | (refine below_step (by assumption) (by first | omega | (simp; done) | (simp; omega)) ?_) | (with_reducible refine Below.alloc ?_ (by first | omega | (simp; done) | (simp; omega)) _) | (with_reducible refine Below.drew ?_) | (with_reducible refine below_drewN ?_ _) | (with_reducible refine Below.setCell ?_ (by first | omega | (simp; done) | (simp; omega)) _)))⟩, by simp [intOf]; omega⟩
          · have htk : p.items.take k = p.items := List.take_of_length_le (by omega)
            have hfull := Sp.itemsB_le HA.out p.items.length (Nat.le_refl _)
            rw [List.take_of_length_le (Nat.le_refl _)] at hfull
            have HE := Lib.hid (show Sp.le8 p.kind ++ (Sp.le8 p.items.length ++ Sp.itemsB p.items) = Sp.body p by rw [Sp.body_def, HK.out])
            have hkl : k = p.items.length := by omega
            rw [htk]
            clear htk
            go_wp2_with (first
          | (go_at_call 62; (try rw [List.append_assoc]); refine (dSum_any _ _ (by rw [HE.out]; have := HBL.out; omega)).mono ?_; rintro e w8 ⟨rfl, rfl⟩)
          | (go_at_call 60; refine (dNum_any _ (Sp.sum_range _).1 (Sp.sum_range _).2 _).mono ?_; rintro e w9 ⟨rfl, hb9⟩; have hz9 := hb9.size))
            go_ret
            exact ⟨by rw [← HYES.out _ HE.out]; simp, by (repeat (first | (with_reducible exact Below.refl _ _) | (with_reducible assumption) | (refine below_step (by assumption) (by first | omega | (simp; done) | (simp; omega)) ?_) | (with_reducible refine Below.alloc ?_ (by first | omega | (simp; done) | (simp; omega)) _) | (with_reducible refine Below.drew ?_) | (with_reducible refine below_drewN ?_ _) | (with_reducible refine Below.setCell ?_ (by first | omega | (simp; done) | (simp; omega)) _)))⟩
    · as_aux_lemma =>
        have e1 : (p.kind == 1) = false := by rw [beq_eq_false_iff_ne]; omega
        have e2 : (p.kind == 2) = true := beq_iff_eq.2 hk
        have HK := Lib.hid (Sp.partsB2 hk)
        obtain ⟨hl4, hkd, hall⟩ := Sp.isBranch_rng hi
        have HA := Lib.hid hall
        have HKY := Lib.hid (Hp.out.keys.go hB)
        have HDY := Lib.hid (Hp.out.kids.go hB)
        have HKDD := Lib.hid hkd
        clear hk hi hall HKD hkd c1 c4 c5 c6 c7 c8 c9 c10 c11 c12 c13
        have hsz'' := hsz
        go_upto_region 13 with (go_at_call 56; refine (dnum_any _ (by omega) (by omega) _).mono ?_; rintro e w2 ⟨rfl, hb2⟩; have hz := hb2.size; have hsz : w.heap.size < w2.heap.size := Nat.lt_of_lt_of_le (by first | exact hsz | omega | (simp; done) | (simp; omega)) hz; obtain ⟨hc2, hf2⟩ := bcell hb2)
        replace c2 := (hc2 _ _ hsz'').trans c2
        replace c3 := (hc2 _ _ hsz'').trans c3
        have hb3 : Below w1.heap.size w1 w2 := hb2
        clear hc2 hf2 hb2 c0 hz
        go_wp2_with fail
        go_loopw [3, 5] (fun o i wr => ∃ k : Nat, k ≤ p.kids.length ∧ i = .int .i64 k ∧ o = .string ⟨((Sp.le8 p.kind ++ Sp.le8 p.kids.length) ++ Sp.kidsTo p.keys p.kids k).toArray⟩ ∧ Below w2.heap.size w2 wr) (fun _ i _ => p.kids.length - (intOf i).toNat)
        case atStart => exact ⟨0, Nat.zero_le _, rfl, by simp [Sp.kidsTo], Below.refl _ _⟩
        case round =>
          obtain ⟨k, hk, rfl, rfl, hb⟩ := hrel
          have hz4 := hb.size
          have hz3 := hb3.size
          have d2 := (hb.cell (p := ⟨w.heap.size, 2, none⟩) hsz).trans c2
          have d3 := (hb.cell (p := ⟨w.heap.size, 3, none⟩) hsz).trans c3
          have hszw : w.heap.size < wr.heap.size := by omega
          by_cases hlt : k < p.kids.length
          · have hltk : k < p.keys.length := by have := HKDD.out; omega
            obtain ⟨db, do_, hA2, hdb, hdc⟩ := HDY.out.at_ hlt
            obtain ⟨kb, ko, hA, hkb, hkc⟩ := HKY.out.at_ hltk
            rw [hA] at d2
            rw [hA2] at d3
            have hb5 := hb3.trans (hb.mono (by omega))
            have hdc0 := (hb5.cell (p := ⟨_, _, none⟩) hdb).trans (hdc k hlt)
            have hkc0 := (hb5.cell (p := ⟨_, _, none⟩) hkb).trans (hkc k hltk)
            have hkbw : kb < wr.heap.size := by omega
            have hdbw : db < wr.heap.size := by omega
            obtain ⟨hu0, hu1⟩ := HA.out k hlt
            clear hdc hkc hA hA2
            have HS := Lib.hid (Sp.kidsTo_succ p.keys p.kids k)
            have HD := Lib.hid (Sp.kidB_def p.keys p.kids k)
            have hle := Sp.kidsTo_le p.keys p.kids k
            have hte := Sp.text_le (p.keys.getD k [])
            generalize Sp.kidB p.keys p.kids k = kb2 at *
            generalize Sp.kidsTo p.keys p.kids k = t at *
            generalize p.kids.getD k 0 = u at *
            generalize p.keys.getD k [] = s at *
            go_wp2
            refine wp_region_after (by kernel_rfl) (by kernel_rfl) (wr.heap.size) ?_
            repeat (go_big_quiet_step (first | (go_at_call 58; exact after_call (Nat.le_refl _) (dText_any _ _)) | (go_at_call 56; exact after_call (Nat.le_refl _) (dnum_any _ (by omega) (by omega) _))))
            refine wpQuiet_nil ?_
            intro w6 hb6
            go_wp2
            exact ⟨⟨k + 1, by omega, by go_num, by rw [HS.out, HD.out] <;> simp, by (repeat (first | (with_reducible exact Below.refl _ _) | (with_reducible assumption) | (refine below_step (by assumption) (by first | omega | (simp; done) | (simp; omega)) ?_) | (with_reducible refine Below.alloc ?_ (by first | omega | (simp; done) | (simp; omega)) _) | (with_reducible refine Below.drew ?_) | (with_reducible refine below_drewN ?_ _) | (with_reducible refine Below.setCell ?_ (by first | omega | (simp; done) | (simp; omega)) _)))⟩, by simp [intOf]; omega⟩
          · have hkl : k = p.kids.length := by omega
            subst hkl
            have hle := Sp.kidsTo_le p.keys p.kids p.kids.length
            have HE := Lib.hid (show Sp.le8 p.kind ++ (Sp.le8 p.kids.length ++ Sp.kidsTo p.keys p.kids p.kids.length) = Sp.body p by rw [Sp.body_def, HK.out])
            go_wp2_with (first
          | (go_at_call 62; (try rw [List.append_assoc]); refine (dSum_any _ _ (by rw [HE.out]; have := HBL.out; omega)).mono ?_; rintro e w8 ⟨rfl, rfl⟩)
          | (go_at_call 60; refine (dNum_any _ (Sp.sum_range _).1 (Sp.sum_range _).2 _).mono ?_; rintro e w9 ⟨rfl, hb9⟩; have hz9 := hb9.size))
            go_ret
            exact ⟨by rw [← HYES.out _ HE.out]; simp, by (repeat (first | (with_reducible exact Below.refl _ _) | (with_reducible assumption) | (refine below_step (by assumption) (by first | omega | (simp; done) | (simp; omega)) ?_) | (with_reducible refine Below.alloc ?_ (by first | omega | (simp; done) | (simp; omega)) _) | (with_reducible refine Below.drew ?_) | (with_reducible refine below_drewN ?_ _) | (with_reducible refine Below.setCell ?_ (by first | omega | (simp; done) | (simp; omega)) _)))⟩
    · as_aux_lemma =>
        have e1 : (p.kind == 1) = false := by rw [beq_eq_false_iff_ne]; omega
        have e2 : (p.kind == 2) = false := by rw [beq_eq_false_iff_ne]; omega
        have e3 : (p.kind == 3) = true := beq_iff_eq.2 hk
        have HK := Lib.hid (Sp.partsB3 hk)
        have hte := Sp.text_le p.text
        clear hk HKD
        go_wp2_with (first
          | ((go_at_call 58; refine (dText_any _ _).mono ?_; rintro e w2 ⟨rfl, hb2⟩; have hz := hb2.size; have hsz : w.heap.size < w2.heap.size := Nat.lt_of_lt_of_le (by first | exact hsz | omega | (simp; done) | (simp; omega)) hz; obtain ⟨hc2, hf2⟩ := bcell hb2); have HE := Lib.hid (show Sp.le8 p.kind ++ Sp.text p.text = Sp.body p by rw [Sp.body_def, HK.out]))
          | (go_at_call 62; refine (dSum_any _ _ (by rw [HE.out]; have := HBL.out; omega)).mono ?_; rintro e w8 ⟨rfl, rfl⟩)
          | (go_at_call 60; refine (dNum_any _ (Sp.sum_range _).1 (Sp.sum_range _).2 _).mono ?_; rintro e w9 ⟨rfl, hb9⟩; have hz9 := hb9.size))
        go_ret
        exact ⟨by rw [← HYES.out _ HE.out]; simp, by (repeat (first | (with_reducible exact Below.refl _ _) | (with_reducible assumption) | (refine below_step (by assumption) (by first | omega | (simp; done) | (simp; omega)) ?_) | (with_reducible refine Below.alloc ?_ (by first | omega | (simp; done) | (simp; omega)) _) | (with_reducible refine Below.drew ?_) | (with_reducible refine below_drewN ?_ _) | (with_reducible refine Below.setCell ?_ (by first | omega | (simp; done) | (simp; omega)) _)))⟩
    · as_aux_lemma =>
        have e1 : (p.kind == 1) = false := by rw [beq_eq_false_iff_ne]; omega
        have e2 : (p.kind == 2) = false := by rw [beq_eq_false_iff_ne]; omega
        have e3 : (p.kind == 3) = false := by rw [beq_eq_false_iff_ne]; omega
        have e4 : (p.kind == 4) = true := beq_iff_eq.2 hk
        have HK := Lib.hid (Sp.partsB4 hk)
        have hv := Sp.isVals_rng hi
        have hvb := Sp.valsB_le p.vals
        clear hk hi HKD
        go_wp2_with (first
          | ((go_at_call 59; refine (dtexts_any p.vals r.V r.v _ (Hp.out.vals.go (by (repeat (first | (with_reducible exact Below.refl _ _) | (with_reducible assumption) | (refine below_step (by assumption) (by first | omega | (simp; done) | (simp; omega)) ?_) | (with_reducible refine Below.alloc ?_ (by first | omega | (simp; done) | (simp; omega)) _) | (with_reducible refine Below.drew ?_) | (with_reducible refine below_drewN ?_ _) | (with_reducible refine Below.setCell ?_ (by first | omega | (simp; done) | (simp; omega)) _))))) (by omega)).mono ?_; rintro e w2 ⟨rfl, hb2⟩; have hz := hb2.size; have hsz : w.heap.size < w2.heap.size := Nat.lt_of_lt_of_le (by first | exact hsz | omega | (simp; done) | (simp; omega)) hz; obtain ⟨hc2, hf2⟩ := bcell hb2); have HE := Lib.hid (show Sp.le8 p.kind ++ Sp.valsB p.vals = Sp.body p by rw [Sp.body_def, HK.out]))
          | (go_at_call 62; refine (dSum_any _ _ (by rw [HE.out]; have := HBL.out; omega)).mono ?_; rintro e w8 ⟨rfl, rfl⟩)
          | (go_at_call 60; refine (dNum_any _ (Sp.sum_range _).1 (Sp.sum_range _).2 _).mono ?_; rintro e w9 ⟨rfl, hb9⟩; have hz9 := hb9.size))
        go_ret
        exact ⟨by rw [← HYES.out _ HE.out]; simp, by (repeat (first | (with_reducible exact Below.refl _ _) | (with_reducible assumption) | (refine below_step (by assumption) (by first | omega | (simp; done) | (simp; omega)) ?_) | (with_reducible refine Below.alloc ?_ (by first | omega | (simp; done) | (simp; omega)) _) | (with_reducible refine Below.drew ?_) | (with_reducible refine below_drewN ?_ _) | (with_reducible refine Below.setCell ?_ (by first | omega | (simp; done) | (simp; omega)) _)))⟩
    · as_aux_lemma =>
        have e1 : (p.kind == 1) = false := by rw [beq_eq_false_iff_ne]; omega
        have e2 : (p.kind == 2) = false := by rw [beq_eq_false_iff_ne]; omega
        have e3 : (p.kind == 3) = false := by rw [beq_eq_false_iff_ne]; omega
        have e4 : (p.kind == 4) = false := by rw [beq_eq_false_iff_ne]; omega
        have e5 : (p.kind == 5) = true := beq_iff_eq.2 hk
        have HK := Lib.hid (Sp.partsB5 hk)
        obtain ⟨hl20, hn0, hn1, hall⟩ := Sp.isFree_rng hi
        have HA := Lib.hid hall
        have Hf := Lib.hid (Hp.out.free.go hB)
        clear hk hi hall HKD c1 c2 c3 c4 c5 c8 c9 c10 c11 c12 c13
        have hsz'' := hsz
        go_upto_region 23 with (go_at_call 56; refine (dnum_any _ (by omega) (by omega) _).mono ?_; rintro e w2 ⟨rfl, hb2⟩; have hz := hb2.size; have hsz : w.heap.size < w2.heap.size := Nat.lt_of_lt_of_le (by first | exact hsz | omega | (simp; done) | (simp; omega)) hz; obtain ⟨hc2, hf2⟩ := bcell hb2)
        replace c6 := (hc2 _ _ hsz'').trans c6
        replace c7 := (hc2 _ _ hsz'').trans c7
        have hb3 : Below w1.heap.size w1 w2 := hb2
        clear hc2 hf2 hb2 c0 hz
        go_wp2_with fail
        go_loopw [3, 6] (fun o i wr => ∃ k : Nat, k ≤ p.free.length ∧ i = .int .i64 k ∧ o = .string ⟨((Sp.le8 p.kind ++ Sp.le8 p.free.length) ++ Sp.freesB (p.free.take k)).toArray⟩ ∧ Below w2.heap.size w2 wr) (fun _ i _ => p.free.length - (intOf i).toNat)
        case atStart => exact ⟨0, Nat.zero_le _, rfl, by simp [Sp.freesB], Below.refl _ _⟩
        case round =>
          obtain ⟨k, hk, rfl, rfl, hb⟩ := hrel
          have hz4 := hb.size
          have hz3 := hb3.size
          have d6 := (hb.cell (p := ⟨w.heap.size, 6, none⟩) hsz).trans c6
          have d7 := (hb.cell (p := ⟨w.heap.size, 7, none⟩) hsz).trans c7
          have hszw : w.heap.size < wr.heap.size := by omega
          by_cases hlt : k < p.free.length
          · obtain ⟨fb, fo, hA, hfb, hfc⟩ := Hf.out.at_ hlt
            obtain ⟨V2, c2, ⟨hc0, hc1⟩, hids, htx0, htx1⟩ := hfc k hlt
            rw [hA] at d6
            clear hfc hA
            obtain ⟨hil, hidr⟩ := HA.out k hlt
            have hb5 := hb3.trans (hb.mono (by omega))
            have hc0 := (hb5.cell (p := ⟨_, _, none⟩) hfb).trans hc0
            have hc1 := (hb5.cell (p := ⟨_, _, none⟩) hfb).trans hc1
            have Hids := Lib.hid (hids.go hb5)
            have HT := Lib.hid (Sp.freesB_succ p.free k hlt)
            have htle := Sp.freesB_le (l := p.free) k (by omega) (fun j hj => (HA.out j hj).1)
            have HTX := Lib.hid (And.intro htx0 htx1)
            have hfbw : fb < wr.heap.size := by omega
            clear hids htx0 htx1
            generalize Sp.freesB (p.free.take k) = t at *
            generalize p.free.getD k Sp.free0 = x at *
            obtain ⟨tx, ids⟩ := x
            simp only at *
            have HX := Lib.hid (Sp.freeB_def tx ids)
            go_wp2
            refine wp_region_after (by kernel_rfl) (by kernel_rfl) (wr.heap.size) ?_
            repeat (go_big_quiet_step (first | (go_at_call 60; exact after_call (Nat.le_refl _) (dNum_any _ HTX.out.1 HTX.out.2 _)) | (go_at_call 56; exact after_call (Nat.le_refl _) (dnum_any _ (by omega) (by omega) _))))
            refine wpQuiet_nil ?_
            intro w4 hb4
            have hz5 := hb4.size
            have f6 := (hb4.cell (p := ⟨w.heap.size, 6, none⟩) hszw).trans d6
            have g1 := (hb4.cell (p := ⟨fb, _, none⟩) hfbw).trans hc1
            have hszw4 : w.heap.size < w4.heap.size := by omega
            have hfbw4 : fb < w4.heap.size := by omega
            obtain ⟨wo, rfl⟩ : ∃ wo : World, wo = wr := ⟨_, rfl⟩
            have Hids2 := Lib.hid (Hids.out.go (w' := w4) (by (repeat (first | (with_reducible exact Below.refl _ _) | (with_reducible assumption) | (refine below_step (by assumption) (by first | omega | (simp; done) | (simp; omega)) ?_) | (with_reducible refine Below.alloc ?_ (by first | omega | (simp; done) | (simp; omega)) _) | (with_reducible refine Below.drew ?_) | (with_reducible refine below_drewN ?_ _) | (with_reducible refine Below.setCell ?_ (by first | omega | (simp; done) | (simp; omega)) _)))))
            clear d6 hc0 hc1
            go_wp2
            go_loopw [3, 7] (fun o i wr => ∃ j : Nat, j ≤ ids.length ∧ i = .int .i64 j ∧ o = .string ⟨((((Sp.le8 p.kind ++ Sp.le8 p.free.length) ++ t) ++ (Sp.le8 tx ++ Sp.le8 ids.length)) ++ Sp.numsB (ids.take j)).toArray⟩ ∧ Below w4.heap.size w4 wr) (fun _ i _ => ids.length - (intOf i).toNat)
            case atStart => exact ⟨0, Nat.zero_le _, rfl, by simp [Sp.numsB], Below.refl _ _⟩
            case round =>
              obtain ⟨j, hj, rfl, rfl, hbq⟩ := hrel
              have hzq := hbq.size
              have h6 := (hbq.cell (p := ⟨w.heap.size, 6, none⟩) hszw4).trans f6
              have h1 := (hbq.cell (p := ⟨fb, _, none⟩) hfbw4).trans g1
              by_cases hjl : j < ids.length
              · obtain ⟨ib, io, rfl, hib, hic⟩ := Hids2.out.at_ hjl
                have hic0 := (hbq.cell (p := ⟨_, _, none⟩) hib).trans (hic j hjl)
                clear hic
                have hu := hidr j hjl
                have HJ := Lib.hid (Sp.numsB_succ ids j hjl)
                have hnl := Sp.numsB_len (ids.take j)
                have hnl2 : (Sp.numsB (ids.take j)).length ≤ 160 := by
                  rw [hnl, List.length_take]
                  omega
                clear hnl
                have HD := Lib.hid hidr
                clear hidr
                generalize Sp.numsB (ids.take j) = nb at *
                generalize ids.getD j 0 = u at *
                obtain ⟨hu0, hu1⟩ := hu
                go_wp2_with (go_at_call 56; refine (dnum_any _ (by omega) (by omega) _).mono ?_; rintro e w6 ⟨rfl, hb6⟩; have hz6 := hb6.size)
                go_roundw
                case rel =>
                  repeat apply Exists.intro
                  refine ⟨?_, rfl⟩
                  exact ⟨j + 1, by omega, by go_num, by rw [HJ.out]; simp, by (repeat (first | (with_reducible exact Below.refl _ _) | (with_reducible assumption) | (refine below_step (by assumption) (by first | omega | (simp; done) | (simp; omega)) ?_) | (with_reducible refine Below.alloc ?_ (by first | omega | (simp; done) | (simp; omega)) _) | (with_reducible refine Below.drew ?_) | (with_reducible refine below_drewN ?_ _) | (with_reducible refine Below.setCell ?_ (by first | omega | (simp; done) | (simp; omega)) _)))⟩
                case measure => simp [intOf]; omega
              · have htk : ids.take j = ids := List.take_of_length_le (by omega)
                have HTK := Lib.hid htk
                clear htk
                have hjl2 : j = ids.length := by omega
                go_wp2
                go_roundw
                case rel =>
                  refine ⟨k + 1, by omega, by go_num, ?_, by (repeat (first | (with_reducible exact Below.refl _ _) | (with_reducible assumption) | (refine below_step (by assumption) (by first | omega | (simp; done) | (simp; omega)) ?_) | (with_reducible refine Below.alloc ?_ (by first | omega | (simp; done) | (simp; omega)) _) | (with_reducible refine Below.drew ?_) | (with_reducible refine below_drewN ?_ _) | (with_reducible refine Below.setCell ?_ (by first | omega | (simp; done) | (simp; omega)) _)))⟩
                  rw [HT.out, HX.out]
                  simp [HTK.out]
                case measure => simp [intOf]; omega
          · have htk : p.free.take k = p.free := List.take_of_length_le (by omega)
            have hfl : (Sp.freesB p.free).length ≤ 176 * 20 := by
              have := Sp.freesB_le (l := p.free) p.free.length (by omega) (fun j hj => (HA.out j hj).1)
              rw [List.take_of_length_le (by omega)] at this
              omega
            have HE := Lib.hid (show Sp.le8 p.kind ++ (Sp.le8 p.free.length ++ (Sp.freesB p.free ++ Sp.le8 p.next)) = Sp.body p by rw [Sp.body_def, HK.out]; simp)
            have hkl : k = p.free.length := by omega
            rw [htk]
            clear htk
            generalize Sp.freesB p.free = t at *
            go_wp2_with (first
          | (go_at_call 56; refine (dnum_any _ (by omega) (by omega) _).mono ?_; rintro e w6 ⟨rfl, hb6⟩; have hz6 := hb6.size)
          | (go_at_call 62; (try simp only [List.append_assoc]); refine (dSum_any _ _ (by rw [HE.out]; have := HBL.out; omega)).mono ?_; rintro e w8 ⟨rfl, rfl⟩)
          | (go_at_call 60; refine (dNum_any _ (Sp.sum_range _).1 (Sp.sum_range _).2 _).mono ?_; rintro e w9 ⟨rfl, hb9⟩; have hz9 := hb9.size))
            go_ret
            exact ⟨by rw [← HYES.out _ HE.out]; simp, by (repeat (first | (with_reducible exact Below.refl _ _) | (with_reducible assumption) | (refine below_step (by assumption) (by first | omega | (simp; done) | (simp; omega)) ?_) | (with_reducible refine Below.alloc ?_ (by first | omega | (simp; done) | (simp; omega)) _) | (with_reducible refine Below.drew ?_) | (with_reducible refine below_drewN ?_ _) | (with_reducible refine Below.setCell ?_ (by first | omega | (simp; done) | (simp; omega)) _)))⟩
    · as_aux_lemma =>
        have e1 : (p.kind == 1) = false := by rw [beq_eq_false_iff_ne]; omega
        have e2 : (p.kind == 2) = false := by rw [beq_eq_false_iff_ne]; omega
        have e3 : (p.kind == 3) = false := by rw [beq_eq_false_iff_ne]; omega
        have e4 : (p.kind == 4) = false := by rw [beq_eq_false_iff_ne]; omega
        have e5 : (p.kind == 5) = false := by rw [beq_eq_false_iff_ne]; omega
        have e6 : (p.kind == 6) = true := beq_iff_eq.2 hk
        have HK := Lib.hid (Sp.partsB6 hk)
        obtain ⟨hr, f0, f1, l0, l1⟩ := Sp.isMt_rng hi
        have HR := Lib.hid hr
        clear hk hi hr HKD
        go_upto_region 33 with fail
        refine wp_region_after (by kernel_rfl) (by kernel_rfl) (w1.heap.size) ?_
        repeat (go_big_quiet_step (first | (go_at_call 60; exact after_call (Nat.le_refl _) (dNum_any _ Hp.out.txn.1 Hp.out.txn.2 _)) | (go_at_call 56; exact after_call (Nat.le_refl _) (dnum_any _ (by omega) (by omega) _)) | (go_at_call 61; exact after_call (Nat.le_refl _) (drootB_any p.mt.main _ HR.out))))
        refine wpQuiet_nil ?_
        intro w6 hb6
        have hz6 := hb6.size
        have HE := Lib.hid (show Sp.le8 p.kind ++ Sp.le8 p.mt.txn ++ Sp.rootB p.mt.main ++ Sp.le8 p.mt.free ++ Sp.le8 p.mt.last = Sp.body p by rw [Sp.body_def, HK.out]; simp [Sp.mtB])
        have HE2 := Lib.hid (show Sp.le8 p.kind ++ (Sp.le8 p.mt.txn ++ (Sp.rootB p.mt.main ++ (Sp.le8 p.mt.free ++ Sp.le8 p.mt.last))) = Sp.body p by rw [Sp.body_def, HK.out]; simp [Sp.mtB])
        go_wp2_with (first
          | (go_at_call 62; refine (dSum_any _ _ (by first | (rw [HE.out]; have := HBL.out; omega) | (rw [HE2.out]; have := HBL.out; omega))).mono ?_; rintro e w8 ⟨rfl, rfl⟩)
          | (go_at_call 60; refine (dNum_any _ (Sp.sum_range _).1 (Sp.sum_range _).2 _).mono ?_; rintro e w9 ⟨rfl, hb9⟩; have hz9 := hb9.size))
        go_ret
        exact ⟨by first | (rw [← HYES.out _ HE2.out]; simp; done) | (rw [← HYES.out _ HE.out]; simp; done), by (repeat (first | (with_reducible exact Below.refl _ _) | (with_reducible assumption) | (refine below_step (by assumption) (by first | omega | (simp; done) | (simp; omega)) ?_) | (with_reducible refine Below.alloc ?_ (by first | omega | (simp; done) | (simp; omega)) _) | (with_reducible refine Below.drew ?_) | (with_reducible refine below_drewN ?_ _) | (with_reducible refine Below.setCell ?_ (by first | omega | (simp; done) | (simp; omega)) _)))⟩
end Go.Proofs.YtlpmjeiogdlifaaGreat
namespace Go.Proofs.YtlpmjeiogdlifaaGreat
open Go.RowKit
attribute [local go_sem low] mk_extract
attribute [local go_sem] After.cell After.frozen mk_extract_end ByteArray.mk_append_mk
theorem is_typeOf (v : Value) (w : World) : (Extern.ReflectliteType.typeOf #[.iface ErrT v]).run Tryz.prog w = .ok (.iface 191 (.agg #[typeHandle Tryz.prog ErrT])) w := by kernel_rfl
theorem is_comparable (w : World) : ((Extern.ReflectliteType.method fun t => do Extern.Rtype.noPackHeld "Comparable" t; (fun a => Value.bool a.comparable) <$> typeInfo t) #[.agg #[typeHandle Tryz.prog ErrT]]).run Tryz.prog w = .ok (.bool true) w := by kernel_rfl
theorem is_method (v : Value) (w : World) : (Go.method 137 191 v "Comparable").run Tryz.prog w = .ok (280, v) w := by kernel_rfl
theorem is_comp : (Tryz.prog.info? ErrT).map (·.comparable) = some true := by kernel_rfl
set_option maxRecDepth 100000 in
set_option maxHeartbeats 1600000 in
theorem errIs_same (a : Int) (w : World) : Calls Tryz.prog 31 #[.iface ErrT (.int .i64 a), .iface ErrT (.int .i64 a)] w fun e w' => e = .returned (.bool true) ∧ w' = w := by
  have h8 := @run_callFunc_extern Tryz.prog 73 _ Extern.ReflectliteType.typeOf Tryz.func73 (by kernel_rfl) (by kernel_rfl) (by kernel_rfl) (by kernel_rfl)
  have h32 := @run_callFunc_extern Tryz.prog 280 _ (Extern.ReflectliteType.method fun t => do Extern.Rtype.noPackHeld "Comparable" t; pure (.bool (← typeInfo t).comparable)) Tryz.func280 (by kernel_rfl) (by kernel_rfl) (by kernel_rfl) (by kernel_rfl)
  have tT := is_typeOf
  have cT := is_comparable
  have mR := is_method
  have heq : (binOp .eql 38 (.iface ErrT (.int .i64 a)) (.iface ErrT (.int .i64 a))).run Tryz.prog w = .ok (.bool true) w := by
    have h := Lib.run_eql_iface_int (P := Tryz.prog) (k := .i64) w a a Tryz.underlying38 is_comp Tryz.underlying69
    simpa using h
  go_enter Tryz.func31, Tryz.ntmps31
  go_wp2
  refine wp_loop_rounds 1 ?_
  rw [rounds_succ]
  go_wp2
  go_ret
  exact ⟨rfl, rfl⟩
end Go.Proofs.YtlpmjeiogdlifaaGreat
