/- The document's Bytes. The document's Read: the walk. The document's equalities: texts, numbers, items. -/
import Derived.Test.YtienlhckcpfknaaQB15
set_option linter.unusedSimpArgs false
set_option linter.unusedVariables false
namespace Go.Proofs.Ytienlhckcpfknaa
open Go.RowKit
attribute [local go_sem low] mk_extract
attribute [local go_sem] After.cell After.frozen mk_extract_end ByteArray.mk_append_mk
attribute [local go_sem] Sp.le8_length Sp.rootB_len
theorem Sp.body_le {p : Sp.Page} (h : Sp.isPage p = true) : (Sp.body p).length ≤ 1300000 := by
  have := Sp.partsB_le h
  rw [Sp.body_def, List.length_append, Sp.le8_length]
  omega
theorem Sp.bytes_yes {p : Sp.Page} (h : Sp.isPage p = true) {E : Txt} (hE : E = Sp.body p) : Sp.le8 (Sp.sum E) ++ E = Sp.bytes p := by
  subst hE
  simp [Sp.bytes, h]
set_option maxRecDepth 100000 in
set_option maxHeartbeats 12800000 in
theorem dBytes_any (p : Sp.Page) (r : Refs) {M : Nat → Prop} (w : World) (hp : PageRd w M p r) :
    Calls Try.prog 21 #[.agg (pageV p r).toArray] w fun e w' => e = .returned (.string ⟨(Sp.bytes p).toArray⟩) ∧ Below w.heap.size w w' := by
  have Hp := Lib.hid hp
  clear hp
  have hsz : w.heap.size < w.heap.size + 1 := by omega
  have Blk0 := Lib.hid (Blk.new w PageT (pageV p r).toArray)
  have HI := Lib.hid (fun w h => dIs_any (M := M) p r w h)
  simp only [pageV] at *
  cases hi : Sp.isPage p
  · rw [hi] at HI
    have HBN : Hid (Sp.bytes p = []) := Lib.hid (Sp.bytes_no hi)
    clear hi
    go_enter Try.func21, Try.ntmps21
    go_upto_region 1 with fail
    go_wp2_with (first
      | (go_at_call 17; refine (HI.out _ (Hp.out.go (by (repeat (first | (with_reducible exact Below.refl _ _) | (with_reducible assumption) | (refine below_step (by assumption) (by first | omega | (simp; done) | (simp; omega)) ?_) | (with_reducible refine Below.alloc ?_ (by first | omega | (simp; done) | (simp; omega)) _) | (with_reducible refine Below.drew ?_) | (with_reducible refine below_drewN ?_ _) | (with_reducible refine Below.setCell ?_ (by first | omega | (simp; done) | (simp; omega)) _)))))).mono ?_; rintro e w2 ⟨rfl, hb2⟩)
      | (refine wpList_row PageT _ rfl w.heap.size rfl rfl PageT _ (0, 0) _ Blk0.out Try.underlying32 rfl rfl ?_))
    go_ret
    exact ⟨by rw [HBN.out]; rfl, by (repeat (first | (with_reducible exact Below.refl _ _) | (with_reducible assumption) | (refine below_step (by assumption) (by first | omega | (simp; done) | (simp; omega)) ?_) | (with_reducible refine Below.alloc ?_ (by first | omega | (simp; done) | (simp; omega)) _) | (with_reducible refine Below.drew ?_) | (with_reducible refine below_drewN ?_ _) | (with_reducible refine Below.setCell ?_ (by first | omega | (simp; done) | (simp; omega)) _)))⟩
  · rw [hi] at HI
    have HYES := Lib.hid (fun E => Sp.bytes_yes (E := E) hi)
    have HBL := Lib.hid (Sp.body_le hi)
    have hkd := Sp.isPage_kind hi
    have hkr : 1 ≤ p.kind ∧ p.kind ≤ 6 := by rcases hkd with h | h | h | h | h | h <;> omega
    have HKD := Lib.hid hkd
    clear hi hkd
    go_enter Try.func21, Try.ntmps21
    go_upto_region 3 with (first
      | (go_at_call 17; refine (HI.out _ (Hp.out.go (by (repeat (first | (with_reducible exact Below.refl _ _) | (with_reducible assumption) | (refine below_step (by assumption) (by first | omega | (simp; done) | (simp; omega)) ?_) | (with_reducible refine Below.alloc ?_ (by first | omega | (simp; done) | (simp; omega)) _) | (with_reducible refine Below.drew ?_) | (with_reducible refine below_drewN ?_ _) | (with_reducible refine Below.setCell ?_ (by first | omega | (simp; done) | (simp; omega)) _)))))).mono ?_; rintro e w2 ⟨rfl, hb2⟩)
      | (refine wpList_row PageT _ rfl w.heap.size rfl rfl PageT _ (0, 0) _ Blk0.out Try.underlying32 rfl rfl ?_))
    have hB : Below w.heap.size w w2 := by (repeat (first | (with_reducible exact Below.refl _ _) | (with_reducible assumption) | (refine below_step (by assumption) (by first | omega | (simp; done) | (simp; omega)) ?_) | (with_reducible refine Below.alloc ?_ (by first | omega | (simp; done) | (simp; omega)) _) | (with_reducible refine Below.drew ?_) | (with_reducible refine below_drewN ?_ _) | (with_reducible refine Below.setCell ?_ (by first | omega | (simp; done) | (simp; omega)) _)))
    have hBk := Blk0.out.below hb2 (by simp)
    have hsz : w.heap.size < w2.heap.size := by have := hb2.size; simp at this; omega
    obtain ⟨⟨c0, c1, c2, c3, c4, c5, c6, c7, c8, c9, c10, c11, c12, c13⟩, _⟩ := hBk.at14
    clear hb2 hBk Blk0 HI
    obtain ⟨w0, rfl⟩ : ∃ W, W = w2 := ⟨_, rfl⟩
    have hsz'' := hsz
    go_upto_region 4 with (go_at_call 66; refine (dnum_any _ (by omega) (by omega) _).mono ?_; rintro e w2 ⟨rfl, hb2⟩; have hz := hb2.size; have hsz : w.heap.size < w2.heap.size := Nat.lt_of_lt_of_le (by first | exact hsz | omega | (simp; done) | (simp; omega)) hz; obtain ⟨hc2, hf2⟩ := bcell hb2)
    replace c0 := (hc2 _ _ hsz'').trans c0
    replace c1 := (hc2 _ _ hsz'').trans c1
    replace c2 := (hc2 _ _ hsz'').trans c2
    replace c3 := (hc2 _ _ hsz'').trans c3
    replace c4 := (hc2 _ _ hsz'').trans c4
    replace c5 := (hc2 _ _ hsz'').trans c5
    replace c6 := (hc2 _ _ hsz'').trans c6
    replace c7 := (hc2 _ _ hsz'').trans c7
    replace c8 := (hc2 _ _ hsz'').trans c8
    replace c9 := (hc2 _ _ hsz'').trans c9
    replace c10 := (hc2 _ _ hsz'').trans c10
    replace c11 := (hc2 _ _ hsz'').trans c11
    replace c12 := (hc2 _ _ hsz'').trans c12
    replace c13 := (hc2 _ _ hsz'').trans c13
    replace hB : Below w.heap.size w w2 := by (repeat (first | (with_reducible exact Below.refl _ _) | (with_reducible assumption) | (refine below_step (by assumption) (by first | omega | (simp; done) | (simp; omega)) ?_) | (with_reducible refine Below.alloc ?_ (by first | omega | (simp; done) | (simp; omega)) _) | (with_reducible refine Below.drew ?_) | (with_reducible refine below_drewN ?_ _) | (with_reducible refine Below.setCell ?_ (by first | omega | (simp; done) | (simp; omega)) _)))
    clear hb2 hc2 hf2 hz hsz''
    obtain ⟨w1, rfl⟩ : ∃ W, W = w2 := ⟨_, rfl⟩
    rcases HKD.out with ⟨hk, hi⟩ | ⟨hk, hi⟩ | hk | ⟨hk, hi⟩ | ⟨hk, hi⟩ | ⟨hk, hi⟩
    · as_aux_lemma =>
        have e1 : (p.kind == 1) = true := beq_iff_eq.2 hk
        have HK := Lib.hid (Sp.partsB1 hk)
        obtain ⟨hl4, hall⟩ := Sp.isLeaf_rng hi
        have HA := Lib.hid hall
        have HIT := Lib.hid (Hp.out.items.go hB)
        clear hk hi hall HKD c2 c3 c4 c5 c6 c7 c8 c9 c10 c11 c12 c13
        have hsz'' := hsz
        go_upto_region 7 with (go_at_call 66; refine (dnum_any _ (by omega) (by omega) _).mono ?_; rintro e w2 ⟨rfl, hb2⟩; have hz := hb2.size; have hsz : w.heap.size < w2.heap.size := Nat.lt_of_lt_of_le (by first | exact hsz | omega | (simp; done) | (simp; omega)) hz; obtain ⟨hc2, hf2⟩ := bcell hb2)
        replace c1 := (hc2 _ _ hsz'').trans c1
        have hb3 : Below w1.heap.size w1 w2 := hb2
        clear hc2 hf2 hb2 c0 hz
        go_wp2_with fail
        go_loopw [3, 4] (fun o i wr => ∃ k : Nat, k ≤ p.items.length ∧ i = .int .i64 k ∧ o = .string ⟨((Sp.le8 p.kind ++ Sp.le8 p.items.length) ++ Sp.itemsB (p.items.take k)).toArray⟩ ∧ Below w2.heap.size w2 wr) (fun _ i _ => p.items.length - (intOf i).toNat)
        case atStart => exact ⟨0, Nat.zero_le _, rfl, by simp [Sp.itemsB], Below.refl _ _⟩
        case round =>
          obtain ⟨k, hk, rfl, rfl, hb⟩ := hrel
          have hz4 := hb.size
          have hz3 := hb3.size
          have d1 := (hb.cell (p := ⟨w.heap.size, 1, none⟩) hsz).trans c1
          have hszw : w.heap.size < wr.heap.size := by omega
          by_cases hlt : k < p.items.length
          · obtain ⟨b, off, hA, hbl, hc⟩ := HIT.out.at_ hlt
            obtain ⟨V2, cv2, hit, htx⟩ := hc k hlt
            rw [hA] at d1
            clear hc hA
            have hb5 := hb3.trans (hb.mono (by omega))
            have hit := hit.keep (w' := wr) fun j => hb5.cell (p := ⟨_, _, none⟩) hbl
            have Ht := Lib.hid (htx.go hb5)
            obtain ⟨h0, h1, h2, h3, h4, h5, h6, h7, h8, h9⟩ := hit
            have HII := Lib.hid (HA.out k hlt)
            have hbw : b < wr.heap.size := by omega
            have HS := Lib.hid (Sp.itemsB_succ p.items k hlt)
            have hle := Sp.itemsB_le HA.out k (by omega)
            have hle2 := Sp.itemB_le (Sp.isItem_rng HII.out).2.2.2.2.2.2.2.2.1
            generalize Sp.itemsB (p.items.take k) = t at *
            generalize p.items.getD k Sp.item0 = x at *
            clear htx
            go_wp2_with (go_at_call 67; refine (ditemB_any x V2 cv2 _ Ht.out HII.out).mono ?_; rintro e w6 ⟨rfl, hb6⟩; have hz6 := hb6.size)
            exact ⟨⟨k + 1, by omega, by go_num, by rw [HS.out] <;> simp, by (repeat (first | (with_reducible exact Below.refl _ _) | (with_reducible assumption) | (refine below_step (by assumption) (by first | omega | (simp; done) | (simp; omega)) ?_) | (with_reducible refine Below.alloc ?_ (by first | omega | (simp; done) | (simp; omega)) _) | (with_reducible refine Below.drew ?_) | (with_reducible refine below_drewN ?_ _) | (with_reducible refine Below.setCell ?_ (by first | omega | (simp; done) | (simp; omega)) _)))⟩, by simp [intOf]; omega⟩
          · have htk : p.items.take k = p.items := List.take_of_length_le (by omega)
            have hfull := Sp.itemsB_le HA.out p.items.length (Nat.le_refl _)
            rw [List.take_of_length_le (Nat.le_refl _)] at hfull
            have HE := Lib.hid (show Sp.le8 p.kind ++ (Sp.le8 p.items.length ++ Sp.itemsB p.items) = Sp.body p by rw [Sp.body_def, HK.out])
            have hkl : k = p.items.length := by omega
            rw [htk]
            clear htk
            go_wp2_with (first
          | (go_at_call 38; (try rw [List.append_assoc]); refine (dSum_any _ _ (by rw [HE.out]; have := HBL.out; omega)).mono ?_; rintro e w8 ⟨rfl, rfl⟩)
          | (go_at_call 70; refine (dNum_any _ (Sp.sum_range _).1 (Sp.sum_range _).2 _).mono ?_; rintro e w9 ⟨rfl, hb9⟩; have hz9 := hb9.size))
            go_ret
            exact ⟨by rw [← HYES.out _ HE.out]; simp, by (repeat (first | (with_reducible exact Below.refl _ _) | (with_reducible assumption) | (refine below_step (by assumption) (by first | omega | (simp; done) | (simp; omega)) ?_) | (with_reducible refine Below.alloc ?_ (by first | omega | (simp; done) | (simp; omega)) _) | (with_reducible refine Below.drew ?_) | (with_reducible refine below_drewN ?_ _) | (with_reducible refine Below.setCell ?_ (by first | omega | (simp; done) | (simp; omega)) _)))⟩
    · as_aux_lemma =>
        have e1 : (p.kind == 1) = false := by rw [beq_eq_false_iff_ne]; omega
        have e2 : (p.kind == 2) = true := beq_iff_eq.2 hk
        have HK := Lib.hid (Sp.partsB2 hk)
        obtain ⟨hl4, hkd, hall⟩ := Sp.isBranch_rng hi
        have HA := Lib.hid hall
        have HKY := Lib.hid (Hp.out.keys.go hB)
        have HDY := Lib.hid (Hp.out.kids.go hB)
        have HKDD := Lib.hid hkd
        clear hk hi hall HKD hkd c1 c4 c5 c6 c7 c8 c9 c10 c11 c12 c13
        have hsz'' := hsz
        go_upto_region 13 with (go_at_call 66; refine (dnum_any _ (by omega) (by omega) _).mono ?_; rintro e w2 ⟨rfl, hb2⟩; have hz := hb2.size; have hsz : w.heap.size < w2.heap.size := Nat.lt_of_lt_of_le (by first | exact hsz | omega | (simp; done) | (simp; omega)) hz; obtain ⟨hc2, hf2⟩ := bcell hb2)
        replace c2 := (hc2 _ _ hsz'').trans c2
        replace c3 := (hc2 _ _ hsz'').trans c3
        have hb3 : Below w1.heap.size w1 w2 := hb2
        clear hc2 hf2 hb2 c0 hz
        go_wp2_with fail
        go_loopw [3, 5] (fun o i wr => ∃ k : Nat, k ≤ p.kids.length ∧ i = .int .i64 k ∧ o = .string ⟨((Sp.le8 p.kind ++ Sp.le8 p.kids.length) ++ Sp.kidsTo p.keys p.kids k).toArray⟩ ∧ Below w2.heap.size w2 wr) (fun _ i _ => p.kids.length - (intOf i).toNat)
        case atStart => exact ⟨0, Nat.zero_le _, rfl, by simp [Sp.kidsTo], Below.refl _ _⟩
        case round =>
          obtain ⟨k, hk, rfl, rfl, hb⟩ := hrel
          have hz4 := hb.size
          have hz3 := hb3.size
          have d2 := (hb.cell (p := ⟨w.heap.size, 2, none⟩) hsz).trans c2
          have d3 := (hb.cell (p := ⟨w.heap.size, 3, none⟩) hsz).trans c3
          have hszw : w.heap.size < wr.heap.size := by omega
          by_cases hlt : k < p.kids.length
          · have hltk : k < p.keys.length := by have := HKDD.out; omega
            obtain ⟨db, do_, hA2, hdb, hdc⟩ := HDY.out.at_ hlt
            obtain ⟨kb, ko, hA, hkb, hkc⟩ := HKY.out.at_ hltk
            rw [hA] at d2
            rw [hA2] at d3
            have hb5 := hb3.trans (hb.mono (by omega))
            have hdc0 := (hb5.cell (p := ⟨_, _, none⟩) hdb).trans (hdc k hlt)
            have hkc0 := (hb5.cell (p := ⟨_, _, none⟩) hkb).trans (hkc k hltk)
            have hkbw : kb < wr.heap.size := by omega
            have hdbw : db < wr.heap.size := by omega
            obtain ⟨hu0, hu1⟩ := HA.out k hlt
            clear hdc hkc hA hA2
            have HS := Lib.hid (Sp.kidsTo_succ p.keys p.kids k)
            have HD := Lib.hid (Sp.kidB_def p.keys p.kids k)
            have hle := Sp.kidsTo_le p.keys p.kids k
            have hte := Sp.text_le (p.keys.getD k [])
            generalize Sp.kidB p.keys p.kids k = kb2 at *
            generalize Sp.kidsTo p.keys p.kids k = t at *
            generalize p.kids.getD k 0 = u at *
            generalize p.keys.getD k [] = s at *
            go_wp2
            refine wp_region_after (by kernel_rfl) (by kernel_rfl) (wr.heap.size) ?_
            repeat (go_big_quiet_step (first | (go_at_call 68; exact after_call (Nat.le_refl _) (dText_any _ _)) | (go_at_call 66; exact after_call (Nat.le_refl _) (dnum_any _ (by omega) (by omega) _))))
            refine wpQuiet_nil ?_
            intro w6 hb6
            go_wp2
            exact ⟨⟨k + 1, by omega, by go_num, by rw [HS.out, HD.out] <;> simp, by (repeat (first | (with_reducible exact Below.refl _ _) | (with_reducible assumption) | (refine below_step (by assumption) (by first | omega | (simp; done) | (simp; omega)) ?_) | (with_reducible refine Below.alloc ?_ (by first | omega | (simp; done) | (simp; omega)) _) | (with_reducible refine Below.drew ?_) | (with_reducible refine below_drewN ?_ _) | (with_reducible refine Below.setCell ?_ (by first | omega | (simp; done) | (simp; omega)) _)))⟩, by simp [intOf]; omega⟩
          · have hkl : k = p.kids.length := by omega
            subst hkl
            have hle := Sp.kidsTo_le p.keys p.kids p.kids.length
            have HE := Lib.hid (show Sp.le8 p.kind ++ (Sp.le8 p.kids.length ++ Sp.kidsTo p.keys p.kids p.kids.length) = Sp.body p by rw [Sp.body_def, HK.out])
            go_wp2_with (first
          | (go_at_call 38; (try rw [List.append_assoc]); refine (dSum_any _ _ (by rw [HE.out]; have := HBL.out; omega)).mono ?_; rintro e w8 ⟨rfl, rfl⟩)
          | (go_at_call 70; refine (dNum_any _ (Sp.sum_range _).1 (Sp.sum_range _).2 _).mono ?_; rintro e w9 ⟨rfl, hb9⟩; have hz9 := hb9.size))
            go_ret
            exact ⟨by rw [← HYES.out _ HE.out]; simp, by (repeat (first | (with_reducible exact Below.refl _ _) | (with_reducible assumption) | (refine below_step (by assumption) (by first | omega | (simp; done) | (simp; omega)) ?_) | (with_reducible refine Below.alloc ?_ (by first | omega | (simp; done) | (simp; omega)) _) | (with_reducible refine Below.drew ?_) | (with_reducible refine below_drewN ?_ _) | (with_reducible refine Below.setCell ?_ (by first | omega | (simp; done) | (simp; omega)) _)))⟩
    · as_aux_lemma =>
        have e1 : (p.kind == 1) = false := by rw [beq_eq_false_iff_ne]; omega
        have e2 : (p.kind == 2) = false := by rw [beq_eq_false_iff_ne]; omega
        have e3 : (p.kind == 3) = true := beq_iff_eq.2 hk
        have HK := Lib.hid (Sp.partsB3 hk)
        have hte := Sp.text_le p.text
        clear hk HKD
        go_wp2_with (first
          | ((go_at_call 68; refine (dText_any _ _).mono ?_; rintro e w2 ⟨rfl, hb2⟩; have hz := hb2.size; have hsz : w.heap.size < w2.heap.size := Nat.lt_of_lt_of_le (by first | exact hsz | omega | (simp; done) | (simp; omega)) hz; obtain ⟨hc2, hf2⟩ := bcell hb2); have HE := Lib.hid (show Sp.le8 p.kind ++ Sp.text p.text = Sp.body p by rw [Sp.body_def, HK.out]))
          | (go_at_call 38; refine (dSum_any _ _ (by rw [HE.out]; have := HBL.out; omega)).mono ?_; rintro e w8 ⟨rfl, rfl⟩)
          | (go_at_call 70; refine (dNum_any _ (Sp.sum_range _).1 (Sp.sum_range _).2 _).mono ?_; rintro e w9 ⟨rfl, hb9⟩; have hz9 := hb9.size))
        go_ret
        exact ⟨by rw [← HYES.out _ HE.out]; simp, by (repeat (first | (with_reducible exact Below.refl _ _) | (with_reducible assumption) | (refine below_step (by assumption) (by first | omega | (simp; done) | (simp; omega)) ?_) | (with_reducible refine Below.alloc ?_ (by first | omega | (simp; done) | (simp; omega)) _) | (with_reducible refine Below.drew ?_) | (with_reducible refine below_drewN ?_ _) | (with_reducible refine Below.setCell ?_ (by first | omega | (simp; done) | (simp; omega)) _)))⟩
    · as_aux_lemma =>
        have e1 : (p.kind == 1) = false := by rw [beq_eq_false_iff_ne]; omega
        have e2 : (p.kind == 2) = false := by rw [beq_eq_false_iff_ne]; omega
        have e3 : (p.kind == 3) = false := by rw [beq_eq_false_iff_ne]; omega
        have e4 : (p.kind == 4) = true := beq_iff_eq.2 hk
        have HK := Lib.hid (Sp.partsB4 hk)
        have hv := Sp.isVals_rng hi
        have hvb := Sp.valsB_le p.vals
        clear hk hi HKD
        go_wp2_with (first
          | ((go_at_call 69; refine (dtexts_any p.vals r.V r.v _ (Hp.out.vals.go (by (repeat (first | (with_reducible exact Below.refl _ _) | (with_reducible assumption) | (refine below_step (by assumption) (by first | omega | (simp; done) | (simp; omega)) ?_) | (with_reducible refine Below.alloc ?_ (by first | omega | (simp; done) | (simp; omega)) _) | (with_reducible refine Below.drew ?_) | (with_reducible refine below_drewN ?_ _) | (with_reducible refine Below.setCell ?_ (by first | omega | (simp; done) | (simp; omega)) _))))) (by omega)).mono ?_; rintro e w2 ⟨rfl, hb2⟩; have hz := hb2.size; have hsz : w.heap.size < w2.heap.size := Nat.lt_of_lt_of_le (by first | exact hsz | omega | (simp; done) | (simp; omega)) hz; obtain ⟨hc2, hf2⟩ := bcell hb2); have HE := Lib.hid (show Sp.le8 p.kind ++ Sp.valsB p.vals = Sp.body p by rw [Sp.body_def, HK.out]))
          | (go_at_call 38; refine (dSum_any _ _ (by rw [HE.out]; have := HBL.out; omega)).mono ?_; rintro e w8 ⟨rfl, rfl⟩)
          | (go_at_call 70; refine (dNum_any _ (Sp.sum_range _).1 (Sp.sum_range _).2 _).mono ?_; rintro e w9 ⟨rfl, hb9⟩; have hz9 := hb9.size))
        go_ret
        exact ⟨by rw [← HYES.out _ HE.out]; simp, by (repeat (first | (with_reducible exact Below.refl _ _) | (with_reducible assumption) | (refine below_step (by assumption) (by first | omega | (simp; done) | (simp; omega)) ?_) | (with_reducible refine Below.alloc ?_ (by first | omega | (simp; done) | (simp; omega)) _) | (with_reducible refine Below.drew ?_) | (with_reducible refine below_drewN ?_ _) | (with_reducible refine Below.setCell ?_ (by first | omega | (simp; done) | (simp; omega)) _)))⟩
    · as_aux_lemma =>
        have e1 : (p.kind == 1) = false := by rw [beq_eq_false_iff_ne]; omega
        have e2 : (p.kind == 2) = false := by rw [beq_eq_false_iff_ne]; omega
        have e3 : (p.kind == 3) = false := by rw [beq_eq_false_iff_ne]; omega
        have e4 : (p.kind == 4) = false := by rw [beq_eq_false_iff_ne]; omega
        have e5 : (p.kind == 5) = true := beq_iff_eq.2 hk
        have HK := Lib.hid (Sp.partsB5 hk)
        obtain ⟨hl20, hn0, hn1, hall⟩ := Sp.isFree_rng hi
        have HA := Lib.hid hall
        have Hf := Lib.hid (Hp.out.free.go hB)
        clear hk hi hall HKD c1 c2 c3 c4 c5 c8 c9 c10 c11 c12 c13
        have hsz'' := hsz
        go_upto_region 23 with (go_at_call 66; refine (dnum_any _ (by omega) (by omega) _).mono ?_; rintro e w2 ⟨rfl, hb2⟩; have hz := hb2.size; have hsz : w.heap.size < w2.heap.size := Nat.lt_of_lt_of_le (by first | exact hsz | omega | (simp; done) | (simp; omega)) hz; obtain ⟨hc2, hf2⟩ := bcell hb2)
        replace c6 := (hc2 _ _ hsz'').trans c6
        replace c7 := (hc2 _ _ hsz'').trans c7
        have hb3 : Below w1.heap.size w1 w2 := hb2
        clear hc2 hf2 hb2 c0 hz
        go_wp2_with fail
        go_loopw [3, 6] (fun o i wr => ∃ k : Nat, k ≤ p.free.length ∧ i = .int .i64 k ∧ o = .string ⟨((Sp.le8 p.kind ++ Sp.le8 p.free.length) ++ Sp.freesB (p.free.take k)).toArray⟩ ∧ Below w2.heap.size w2 wr) (fun _ i _ => p.free.length - (intOf i).toNat)
        case atStart => exact ⟨0, Nat.zero_le _, rfl, by simp [Sp.freesB], Below.refl _ _⟩
        case round =>
          obtain ⟨k, hk, rfl, rfl, hb⟩ := hrel
          have hz4 := hb.size
          have hz3 := hb3.size
          have d6 := (hb.cell (p := ⟨w.heap.size, 6, none⟩) hsz).trans c6
          have d7 := (hb.cell (p := ⟨w.heap.size, 7, none⟩) hsz).trans c7
          have hszw : w.heap.size < wr.heap.size := by omega
          by_cases hlt : k < p.free.length
          · obtain ⟨fb, fo, hA, hfb, hfc⟩ := Hf.out.at_ hlt
            obtain ⟨V2, c2, ⟨hc0, hc1⟩, hids, htx0, htx1⟩ := hfc k hlt
            rw [hA] at d6
            clear hfc hA
            obtain ⟨hil, hidr⟩ := HA.out k hlt
            have hb5 := hb3.trans (hb.mono (by omega))
            have hc0 := (hb5.cell (p := ⟨_, _, none⟩) hfb).trans hc0
            have hc1 := (hb5.cell (p := ⟨_, _, none⟩) hfb).trans hc1
            have Hids := Lib.hid (hids.go hb5)
            have HT := Lib.hid (Sp.freesB_succ p.free k hlt)
            have htle := Sp.freesB_le (l := p.free) k (by omega) (fun j hj => (HA.out j hj).1)
            have HTX := Lib.hid (And.intro htx0 htx1)
            have hfbw : fb < wr.heap.size := by omega
            clear hids htx0 htx1
            generalize Sp.freesB (p.free.take k) = t at *
            generalize p.free.getD k Sp.free0 = x at *
            obtain ⟨tx, ids⟩ := x
            simp only at *
            have HX := Lib.hid (Sp.freeB_def tx ids)
            go_wp2
            refine wp_region_after (by kernel_rfl) (by kernel_rfl) (wr.heap.size) ?_
            repeat (go_big_quiet_step (first | (go_at_call 70; exact after_call (Nat.le_refl _) (dNum_any _ HTX.out.1 HTX.out.2 _)) | (go_at_call 66; exact after_call (Nat.le_refl _) (dnum_any _ (by omega) (by omega) _))))
            refine wpQuiet_nil ?_
            intro w4 hb4
            have hz5 := hb4.size
            have f6 := (hb4.cell (p := ⟨w.heap.size, 6, none⟩) hszw).trans d6
            have g1 := (hb4.cell (p := ⟨fb, _, none⟩) hfbw).trans hc1
            have hszw4 : w.heap.size < w4.heap.size := by omega
            have hfbw4 : fb < w4.heap.size := by omega
            obtain ⟨wo, rfl⟩ : ∃ wo : World, wo = wr := ⟨_, rfl⟩
            have Hids2 := Lib.hid (Hids.out.go (w' := w4) (by (repeat (first | (with_reducible exact Below.refl _ _) | (with_reducible assumption) | (refine below_step (by assumption) (by first | omega | (simp; done) | (simp; omega)) ?_) | (with_reducible refine Below.alloc ?_ (by first | omega | (simp; done) | (simp; omega)) _) | (with_reducible refine Below.drew ?_) | (with_reducible refine below_drewN ?_ _) | (with_reducible refine Below.setCell ?_ (by first | omega | (simp; done) | (simp; omega)) _)))))
            clear d6 hc0 hc1
            go_wp2
            go_loopw [3, 7] (fun o i wr => ∃ j : Nat, j ≤ ids.length ∧ i = .int .i64 j ∧ o = .string ⟨((((Sp.le8 p.kind ++ Sp.le8 p.free.length) ++ t) ++ (Sp.le8 tx ++ Sp.le8 ids.length)) ++ Sp.numsB (ids.take j)).toArray⟩ ∧ Below w4.heap.size w4 wr) (fun _ i _ => ids.length - (intOf i).toNat)
            case atStart => exact ⟨0, Nat.zero_le _, rfl, by simp [Sp.numsB], Below.refl _ _⟩
            case round =>
              obtain ⟨j, hj, rfl, rfl, hbq⟩ := hrel
              have hzq := hbq.size
              have h6 := (hbq.cell (p := ⟨w.heap.size, 6, none⟩) hszw4).trans f6
              have h1 := (hbq.cell (p := ⟨fb, _, none⟩) hfbw4).trans g1
              by_cases hjl : j < ids.length
              · obtain ⟨ib, io, rfl, hib, hic⟩ := Hids2.out.at_ hjl
                have hic0 := (hbq.cell (p := ⟨_, _, none⟩) hib).trans (hic j hjl)
                clear hic
                have hu := hidr j hjl
                have HJ := Lib.hid (Sp.numsB_succ ids j hjl)
                have hnl := Sp.numsB_len (ids.take j)
                have hnl2 : (Sp.numsB (ids.take j)).length ≤ 160 := by
                  rw [hnl, List.length_take]
                  omega
                clear hnl
                have HD := Lib.hid hidr
                clear hidr
                generalize Sp.numsB (ids.take j) = nb at *
                generalize ids.getD j 0 = u at *
                obtain ⟨hu0, hu1⟩ := hu
                go_wp2_with (go_at_call 66; refine (dnum_any _ (by omega) (by omega) _).mono ?_; rintro e w6 ⟨rfl, hb6⟩; have hz6 := hb6.size)
                go_roundw
                case rel =>
                  repeat apply Exists.intro
                  refine ⟨?_, rfl⟩
                  exact ⟨j + 1, by omega, by go_num, by rw [HJ.out]; simp, by (repeat (first | (with_reducible exact Below.refl _ _) | (with_reducible assumption) | (refine below_step (by assumption) (by first | omega | (simp; done) | (simp; omega)) ?_) | (with_reducible refine Below.alloc ?_ (by first | omega | (simp; done) | (simp; omega)) _) | (with_reducible refine Below.drew ?_) | (with_reducible refine below_drewN ?_ _) | (with_reducible refine Below.setCell ?_ (by first | omega | (simp; done) | (simp; omega)) _)))⟩
                case measure => simp [intOf]; omega
              · have htk : ids.take j = ids := List.take_of_length_le (by omega)
                have HTK := Lib.hid htk
                clear htk
                have hjl2 : j = ids.length := by omega
                go_wp2
                go_roundw
                case rel =>
                  refine ⟨k + 1, by omega, by go_num, ?_, by (repeat (first | (with_reducible exact Below.refl _ _) | (with_reducible assumption) | (refine below_step (by assumption) (by first | omega | (simp; done) | (simp; omega)) ?_) | (with_reducible refine Below.alloc ?_ (by first | omega | (simp; done) | (simp; omega)) _) | (with_reducible refine Below.drew ?_) | (with_reducible refine below_drewN ?_ _) | (with_reducible refine Below.setCell ?_ (by first | omega | (simp; done) | (simp; omega)) _)))⟩
                  rw [HT.out, HX.out]
                  simp [HTK.out]
                case measure => simp [intOf]; omega
          · have htk : p.free.take k = p.free := List.take_of_length_le (by omega)
            have hfl : (Sp.freesB p.free).length ≤ 176 * 20 := by
              have := Sp.freesB_le (l := p.free) p.free.length (by omega) (fun j hj => (HA.out j hj).1)
              rw [List.take_of_length_le (by omega)] at this
              omega
            have HE := Lib.hid (show Sp.le8 p.kind ++ (Sp.le8 p.free.length ++ (Sp.freesB p.free ++ Sp.le8 p.next)) = Sp.body p by rw [Sp.body_def, HK.out]; simp)
            have hkl : k = p.free.length := by omega
            rw [htk]
            clear htk
            generalize Sp.freesB p.free = t at *
            go_wp2_with (first
          | (go_at_call 66; refine (dnum_any _ (by omega) (by omega) _).mono ?_; rintro e w6 ⟨rfl, hb6⟩; have hz6 := hb6.size)
          | (go_at_call 38; (try simp only [List.append_assoc]); refine (dSum_any _ _ (by rw [HE.out]; have := HBL.out; omega)).mono ?_; rintro e w8 ⟨rfl, rfl⟩)
          | (go_at_call 70; refine (dNum_any _ (Sp.sum_range _).1 (Sp.sum_range _).2 _).mono ?_; rintro e w9 ⟨rfl, hb9⟩; have hz9 := hb9.size))
            go_ret
            exact ⟨by rw [← HYES.out _ HE.out]; simp, by (repeat (first | (with_reducible exact Below.refl _ _) | (with_reducible assumption) | (refine below_step (by assumption) (by first | omega | (simp; done) | (simp; omega)) ?_) | (with_reducible refine Below.alloc ?_ (by first | omega | (simp; done) | (simp; omega)) _) | (with_reducible refine Below.drew ?_) | (with_reducible refine below_drewN ?_ _) | (with_reducible refine Below.setCell ?_ (by first | omega | (simp; done) | (simp; omega)) _)))⟩
    · as_aux_lemma =>
        have e1 : (p.kind == 1) = false := by rw [beq_eq_false_iff_ne]; omega
        have e2 : (p.kind == 2) = false := by rw [beq_eq_false_iff_ne]; omega
        have e3 : (p.kind == 3) = false := by rw [beq_eq_false_iff_ne]; omega
        have e4 : (p.kind == 4) = false := by rw [beq_eq_false_iff_ne]; omega
        have e5 : (p.kind == 5) = false := by rw [beq_eq_false_iff_ne]; omega
        have e6 : (p.kind == 6) = true := beq_iff_eq.2 hk
        have HK := Lib.hid (Sp.partsB6 hk)
        obtain ⟨hr, f0, f1, l0, l1⟩ := Sp.isMt_rng hi
        have HR := Lib.hid hr
        clear hk hi hr HKD
        go_upto_region 33 with fail
        refine wp_region_after (by kernel_rfl) (by kernel_rfl) (w1.heap.size) ?_
        repeat (go_big_quiet_step (first | (go_at_call 70; exact after_call (Nat.le_refl _) (dNum_any _ Hp.out.txn.1 Hp.out.txn.2 _)) | (go_at_call 66; exact after_call (Nat.le_refl _) (dnum_any _ (by omega) (by omega) _)) | (go_at_call 71; exact after_call (Nat.le_refl _) (drootB_any p.mt.main _ HR.out))))
        refine wpQuiet_nil ?_
        intro w6 hb6
        have hz6 := hb6.size
        have HE := Lib.hid (show Sp.le8 p.kind ++ Sp.le8 p.mt.txn ++ Sp.rootB p.mt.main ++ Sp.le8 p.mt.free ++ Sp.le8 p.mt.last = Sp.body p by rw [Sp.body_def, HK.out]; simp [Sp.mtB])
        have HE2 := Lib.hid (show Sp.le8 p.kind ++ (Sp.le8 p.mt.txn ++ (Sp.rootB p.mt.main ++ (Sp.le8 p.mt.free ++ Sp.le8 p.mt.last))) = Sp.body p by rw [Sp.body_def, HK.out]; simp [Sp.mtB])
        go_wp2_with (first
          | (go_at_call 38; refine (dSum_any _ _ (by first | (rw [HE.out]; have := HBL.out; omega) | (rw [HE2.out]; have := HBL.out; omega))).mono ?_; rintro e w8 ⟨rfl, rfl⟩)
          | (go_at_call 70; refine (dNum_any _ (Sp.sum_range _).1 (Sp.sum_range _).2 _).mono ?_; rintro e w9 ⟨rfl, hb9⟩; have hz9 := hb9.size))
        go_ret
        exact ⟨by first | (rw [← HYES.out _ HE2.out]; simp; done) | (rw [← HYES.out _ HE.out]; simp; done), by (repeat (first | (with_reducible exact Below.refl _ _) | (with_reducible assumption) | (refine below_step (by assumption) (by first | omega | (simp; done) | (simp; omega)) ?_) | (with_reducible refine Below.alloc ?_ (by first | omega | (simp; done) | (simp; omega)) _) | (with_reducible refine Below.drew ?_) | (with_reducible refine below_drewN ?_ _) | (with_reducible refine Below.setCell ?_ (by first | omega | (simp; done) | (simp; omega)) _)))⟩
end Go.Proofs.Ytienlhckcpfknaa
namespace Go.Proofs.Ytienlhckcpfknaa
open Go.RowKit
attribute [local go_sem low] mk_extract
attribute [local go_sem] After.cell After.frozen mk_extract_end ByteArray.mk_append_mk
namespace Sp
theorem Cut.dpage_len (c : Cut) : c.dpage.2.s.length ≤ c.s.length := by
  have h6 := Cut.int_len 6 c
  have hi : ∀ d : Cut, d.ditems.2.s.length ≤ d.s.length := fun d => Nat.le_trans (eachN_len (f := ditemStep) (fun _ c => c.ditem_len) _ _) (Cut.int_len 4 d)
  have hk : ∀ d : Cut, d.dkeys.2.s.length ≤ d.s.length := fun d => Nat.le_trans (eachN_len (f := dkeyStep) (fun _ c => Nat.le_trans (Cut.int_len 400 _) c.text_len) _ _) (Cut.int_len 4 d)
  have hm : ∀ d : Cut, d.dmt.2.s.length ≤ d.s.length := fun d => Nat.le_trans (Cut.int_len 400 _) (Nat.le_trans (Cut.int_len 400 _) (Nat.le_trans (Cut.droot_len _) d.u64_len))
  have ht : ∀ d : Cut, d.text.2.s.length ≤ d.s.length := fun d => d.text_len
  have hv : ∀ d : Cut, (Cut.dtexts 12 d).2.s.length ≤ d.s.length := fun d => Cut.dtexts_len 12 d
  have hf : ∀ d : Cut, (Cut.int 400 d.dfrees.2).2.s.length ≤ d.s.length := fun d => Nat.le_trans (Cut.int_len 400 _) d.dfrees_len
  unfold Cut.dpage
  generalize Cut.int 6 c = kc at *
  by_cases h1 : kc.1 = 1
  · rw [if_pos h1]; exact Nat.le_trans (hi _) h6
  rw [if_neg h1]
  by_cases h2 : kc.1 = 2
  · rw [if_pos h2]; exact Nat.le_trans (hk _) h6
  rw [if_neg h2]
  by_cases h3 : kc.1 = 3
  · rw [if_pos h3]; exact Nat.le_trans (ht _) h6
  rw [if_neg h3]
  by_cases h4 : kc.1 = 4
  · rw [if_pos h4]; exact Nat.le_trans (hv _) h6
  rw [if_neg h4]
  by_cases h5 : kc.1 = 5
  · rw [if_pos h5]; exact Nat.le_trans (hf _) h6
  rw [if_neg h5]
  by_cases h6' : kc.1 = 6
  · rw [if_pos h6']; exact Nat.le_trans (hm _) h6
  rw [if_neg h6']
  exact h6
end Sp
/-- The result's block, and a cut behind it. -/
structure RdS (w : World) (c : Sp.Cut) (W : World) : Prop where
  dc : DCut W (w.heap.size + 1) c.s c.bad
  hb : Below w.heap.size w W
  z2 : Blk W w.heap.size PageT #[.int .i64 0, .slice none 0 0, .slice none 0 0, .slice none 0 0, .string ⟨#[]⟩, .slice none 0 0, .slice none 0 0, .int .i64 0, .int .u64 0, .int .i64 0, .int .i64 0, .int .i64 0, .int .i64 0, .int .i64 0]
  hl : c.s.length ≤ 4611686018427387904
theorem RdS.start {s : Txt} (w : World) (hs : s.length ≤ 4611686018427387904) : RdS w ⟨s, false⟩ ((w.alloc (.cells #[.int .i64 0, .slice none 0 0, .slice none 0 0, .slice none 0 0, .string ⟨#[]⟩, .slice none 0 0, .slice none 0 0, .int .i64 0, .int .u64 0, .int .i64 0, .int .i64 0, .int .i64 0, .int .i64 0, .int .i64 0] PageT)).alloc (.cells #[.string ⟨s.toArray⟩, .bool false] 80)) :=
  ⟨blk_second w _ _ _, ((Below.refl _ _).alloc (Nat.le_refl _) _).alloc (by simp) _, (Blk.new w _ _).alloc _, hs⟩
theorem RdS.call {w W W' : World} {c c' : Sp.Cut} (h : RdS w c W) (hc : DCut W' (w.heap.size + 1) c'.s c'.bad) (hk : Chg (OneM (w.heap.size + 1)) W W') (hl : c'.s.length ≤ c.s.length) : RdS w c' W' :=
  ⟨hc, h.hb.trans (Chg.below hk h.hb.size (fun k hk e => by unfold OneM at e; omega)), h.z2.chg hk (by unfold OneM; omega), Nat.le_trans hl h.hl⟩
theorem RdS.go {w W W' : World} {c : Sp.Cut} (h : RdS w c W) (hb : Below W.heap.size W W') : RdS w c W' :=
  ⟨Blk.below h.dc hb (Blk.lt h.dc), h.hb.trans (hb.mono h.hb.size), h.z2.below hb h.z2.lt, h.hl⟩
/-- The same, and the page that was read. -/
structure RqS (w : World) (c : Sp.Cut) (p : Sp.Page) (r : Refs) (b6 : Nat) (W : World) : Prop where
  s : RdS w c W
  bx : Blk W b6 PageT (pageV p r).toArray
  hne : w.heap.size < b6
  rp : ∀ M : Nat → Prop, (∀ k, w.heap.size < k → ¬ M k) → PageRd W M p r
theorem RqS.go {w W W' : World} {c : Sp.Cut} {p : Sp.Page} {r : Refs} {b6 : Nat} (h : RqS w c p r b6 W) (hb : Below W.heap.size W W') : RqS w c p r b6 W' :=
  ⟨h.s.go hb, h.bx.below hb h.bx.lt, h.hne, fun M hM => (h.rp M hM).go hb⟩
def DReadOut (s : Txt) (w : World) (e : Ending) (w' : World) : Prop :=
  ∃ r, e = .returned (if Sp.readOk s then .tuple #[.agg (pageV (Sp.parse s) r).toArray, .int .i64 0] else .tuple #[.agg (pageV Sp.pg0 r).toArray, .int .i64 12]) ∧ (∀ M : Nat → Prop, (∀ k, w.heap.size ≤ k → ¬ M k) → PageRd w' M (readPg s) r) ∧ Below w.heap.size w w'
theorem DReadOut.no {s : Txt} {w W : World} (h : Sp.dOk s = false) (hb : Below w.heap.size w W) : DReadOut s w (.returned (.tuple #[.agg (pageV Sp.pg0 refs0).toArray, .int .i64 12])) W := by
  have h := Sp.dOk_no h
  unfold DReadOut readPg
  rw [h]
  exact ⟨refs0, rfl, fun M hM => pageRd0 _ _ _, hb⟩
theorem DReadOut.yes {s : Txt} {w W : World} {r : Refs} (h : Sp.dOk s = true) (hr : ∀ M : Nat → Prop, (∀ k, w.heap.size ≤ k → ¬ M k) → PageRd W M (Sp.Cut.u64 ⟨s, false⟩).2.dpage.1 r) (hb : Below w.heap.size w W) : DReadOut s w (.returned (.tuple #[.agg (pageV (Sp.Cut.u64 ⟨s, false⟩).2.dpage.1 r).toArray, .int .i64 0])) W := by
  obtain ⟨h1, h2⟩ := Sp.dOk_iff h
  unfold DReadOut readPg
  rw [h1]
  rw [h2] at hr ⊢
  exact ⟨r, rfl, hr, hb⟩
set_option maxRecDepth 100000 in
set_option maxHeartbeats 1600000 in
theorem dRead_any (s : Txt) (w : World) (hs : s.length ≤ 4611686018427387904) :
    Calls Try.prog 15 #[.string ⟨s.toArray⟩] w fun e w' => DReadOut s w e w' := by
  have S := Lib.hid (RdS.start w hs)
  have HNO := Lib.hid (fun (W : World) (h : Sp.dOk s = false) (hb : Below w.heap.size w W) => DReadOut.no h hb)
  have HYES := Lib.hid (fun (W : World) (r : Refs) (h : Sp.dOk s = true) hr (hb : Below w.heap.size w W) => DReadOut.yes (r := r) h hr hb)
  have HSP := Lib.hid (fun u c1 c2 p h1 h2 => Sp.dOk_split s u c1 c2 p h1 h2)
  have HUL := Lib.hid (Sp.Cut.u64_len ⟨s, false⟩)
  have HNU := Lib.hid (fun W hs hc => show Calls Try.prog 37 #[.pointer (some ⟨w.heap.size + 1, 0, none⟩)] W (fun e w' => e = .returned (.int .u64 (Sp.Cut.u64 ⟨s, false⟩).1) ∧ DCut w' (w.heap.size + 1) (Sp.Cut.u64 ⟨s, false⟩).2.s (Sp.Cut.u64 ⟨s, false⟩).2.bad ∧ Chg (OneM (w.heap.size + 1)) W w') from dCutNum_any (w.heap.size + 1) s false W hs hc)
  generalize hu : Sp.Cut.u64 ⟨s, false⟩ = uc at *
  obtain ⟨u, c1⟩ := uc
  dsimp only at HUL HNU HYES
  generalize hpd : c1.dpage = pd at *
  obtain ⟨p, c2⟩ := pd
  have hsp := HSP.out u c1 c2 p rfl hpd
  have HPD := Lib.hid hpd
  dsimp only at HYES
  have hpl := Sp.Cut.dpage_len c1
  rw [hpd] at hpl
  dsimp only at hpl
  have HSP := Lib.hid hsp
  have HPL := Lib.hid hpl
  clear hs hsp hu hpd hpl
  rename_i HSPold
  clear HSPold
  go_enter Try.func15, Try.ntmps15
  go_upto_region 2 with fail
  go_cut [5] (fun s5 W => s5 = .int .u64 u ∧ RdS w c1 W)
  case first =>
    go_wp2_with (go_at_call 37; refine (HNU.out _ S.out.hl S.out.dc).mono ?_; rintro e w1 ⟨rfl, hc1, hk1⟩; replace S := Lib.hid (S.out.call (c' := c1) hc1 hk1 HUL.out); clear hc1 hk1)
    go_meet
    case rel => exact ⟨rfl, S.out⟩
  case rest =>
    obtain ⟨rfl, hm⟩ := hcut
    replace S := Lib.hid hm
    clear hm
    obtain ⟨W1, rfl⟩ : ∃ W, W = wc := ⟨_, rfl⟩
    have q0 := Blk.cell S.out.dc 0
    have q1 := Blk.cell S.out.dc 1
    simp at q0 q1
    go_upto_region 3 with fail
    go_cut [24] (fun s24 W => s24 = .bool (c1.bad || decide (u ≠ Sp.sum c1.s)) ∧ RdS w c1 W)
    case first =>
      rcases hb : c1.bad with _ | _
      · rw [hb] at q1
        have HB := Lib.hid hb
        clear hb
        by_cases he : u = Sp.sum c1.s
        · have he1 : (u != Sp.sum c1.s) = false := by simp [he]
          have HE := Lib.hid he
          clear he
          go_wp2_with (go_at_call 38; refine (dSum_any c1.s _ S.out.hl).mono ?_; rintro e w2 ⟨rfl, rfl⟩)
          go_meet
          case rel => exact ⟨by simp [HE.out, HB.out], S.out⟩
        · have he1 : (u != Sp.sum c1.s) = true := by simp [he]
          have HE := Lib.hid he
          clear he
          go_wp2_with (go_at_call 38; refine (dSum_any c1.s _ S.out.hl).mono ?_; rintro e w2 ⟨rfl, rfl⟩)
          go_meet
          case rel => exact ⟨by simp [HE.out, HB.out], S.out⟩
      · rw [hb] at q1
        have HB := Lib.hid hb
        clear hb
        go_wp2_with fail
        go_meet
        case rel => exact ⟨by simp [HB.out], S.out⟩
    case rest =>
      obtain ⟨rfl, hm⟩ := hcut
      replace S := Lib.hid hm
      clear hm q0 q1
      obtain ⟨W2, rfl⟩ : ∃ W, W = wc := ⟨_, rfl⟩
      generalize (c1.bad || decide (u ≠ Sp.sum c1.s)) = t3 at *
      rcases t3 with _ | _
      · go_upto_region 5 with fail
        go_cut [6] (fun s6 W => ∃ r b6, s6 = .pointer (some ⟨b6, 0, none⟩) ∧ RqS w c2 p r b6 W)
        case first =>
          go_wp2_with (first
            | (go_at_call 39; refine (dPage_any (w.heap.size + 1) c1 _ S.out.hl S.out.dc).mono ?_; rintro e w2 ⟨r, rfl, hr, hc, hk⟩; rw [HPD.out] at *; dsimp only at *; have HR := Lib.hid hr; have hsz := S.out.hb.size; have hz2 := S.out.z2.lt; replace S := Lib.hid (S.out.call (c' := c2) hc hk HPL.out); clear hc hk hr)
            | (refine wpList_new PageT _ _ rfl rfl rfl rfl rfl rfl _ rfl (of_decide_eq_true (by kernel_rfl)) (by kernel_rfl) (by kernel_rfl) (by kernel_rfl) ?_))
          go_meet
          case rel =>
            have hal : Below w2.heap.size w2 (w2.alloc (.cells (pageV p r).toArray PageT)) := (Below.refl _ _).alloc (Nat.le_refl _) _
            exact ⟨r, w2.heap.size, rfl, S.out.go hal, Blk.new w2 _ _, S.out.z2.lt, fun M hM => (HR.out M (fun k hk => hM k (by omega))).go hal⟩
        case rest =>
          obtain ⟨r, b6, rfl, hm⟩ := hcut
          have T := Lib.hid hm
          clear hm S
          obtain ⟨W3, rfl⟩ : ∃ W, W = wc := ⟨_, rfl⟩
          have q0 := Blk.cell T.out.s.dc 0
          have q1 := Blk.cell T.out.s.dc 1
          simp at q0 q1
          go_upto_region 6 with fail
          go_cut [49] (fun s49 W => s49 = .bool (c2.bad || (decide (c2.s ≠ []) || (!Sp.isPage p || decide (Sp.bytes p ≠ s)))) ∧ RqS w c2 p r b6 W)
          case first =>
            rcases hb : c2.bad with _ | _
            · rw [hb] at q1
              have HB := Lib.hid hb
              clear hb
              rcases hc : c2.s with _ | ⟨x0, xs⟩
              · rw [hc] at q0
                have HC := Lib.hid hc
                clear hc
                rcases hp : Sp.isPage p with _ | _
                · have HP := Lib.hid hp
                  clear hp
                  go_wp2_with (first
                    | (go_at_call 17; refine (dIs_any (M := NoM) p r _ (T.out.rp NoM (fun _ _ h => h))).mono ?_; rintro e w3 ⟨rfl, hb3⟩; rw [HP.out]; replace T := Lib.hid (T.out.go hb3); clear hb3 q0 q1)
                    | (refine wpList_row PageT _ rfl b6 rfl rfl PageT _ (0, 0) _ T.out.bx Try.underlying32 rfl rfl ?_))
                  go_meet
                  case rel => exact ⟨by simp [HP.out], T.out⟩
                · have HP := Lib.hid hp
                  clear hp
                  by_cases hbs : Sp.bytes p = s
                  · have HBS := Lib.hid hbs
                    clear hbs
                    go_wp2_with (first
                      | (go_at_call 17; refine (dIs_any (M := NoM) p r _ (T.out.rp NoM (fun _ _ h => h))).mono ?_; rintro e w3 ⟨rfl, hb3⟩; rw [HP.out]; replace T := Lib.hid (T.out.go hb3); clear hb3 q0 q1)
                      | (go_at_call 21; refine (dBytes_any (M := NoM) p r _ (T.out.rp NoM (fun _ _ h => h))).mono ?_; rintro e w3 ⟨rfl, hb3⟩; rw [HBS.out]; replace T := Lib.hid (T.out.go hb3); clear hb3)
                      | (refine wpList_row PageT _ rfl b6 rfl rfl PageT _ (0, 0) _ T.out.bx Try.underlying32 rfl rfl ?_))
                    go_meet
                    case rel => exact ⟨by simp [HBS.out, HB.out, HC.out, HP.out], T.out⟩
                  · have HBS := Lib.hid hbs
                    have hbq : (Sp.bytes p == s) = false := beq_eq_false_iff_ne.2 hbs
                    clear hbs
                    go_wp2_with (first
                      | (go_at_call 17; refine (dIs_any (M := NoM) p r _ (T.out.rp NoM (fun _ _ h => h))).mono ?_; rintro e w3 ⟨rfl, hb3⟩; rw [HP.out]; replace T := Lib.hid (T.out.go hb3); clear hb3 q0 q1)
                      | (go_at_call 21; refine (dBytes_any (M := NoM) p r _ (T.out.rp NoM (fun _ _ h => h))).mono ?_; rintro e w3 ⟨rfl, hb3⟩; replace T := Lib.hid (T.out.go hb3); clear hb3)
                      | (refine wpList_row PageT _ rfl b6 rfl rfl PageT _ (0, 0) _ T.out.bx Try.underlying32 rfl rfl ?_))
                    go_meet
                    case rel => exact ⟨by simp [HBS.out, HB.out, HC.out, HP.out], T.out⟩
              · rw [hc] at q0
                have HC := Lib.hid hc
                clear hc
                go_wp2_with fail
                go_meet
                case rel => exact ⟨by simp [HC.out], T.out⟩
            · rw [hb] at q1
              have HB := Lib.hid hb
              clear hb
              go_wp2_with fail
              go_meet
              case rel => exact ⟨by simp [HB.out], T.out⟩
          case rest =>
            obtain ⟨rfl, hm⟩ := hcut
            replace T := Lib.hid hm
            clear hm q0 q1
            obtain ⟨W4, rfl⟩ : ∃ W, W = wc := ⟨_, rfl⟩
            generalize (c2.bad || (decide (c2.s ≠ []) || (!Sp.isPage p || decide (Sp.bytes p ≠ s)))) = t6 at *
            rcases t6 with _ | _
            · go_wp2_with (first
                | (refine wpList_row PageT _ rfl b6 rfl rfl PageT _ (0, 0) _ T.out.bx Try.underlying32 rfl rfl ?_)
                | (refine wpList_store_row rfl PageT _ _ rfl w.heap.size _ rfl rfl PageT _ T.out.s.z2 (by kernel_rfl) rfl (by kernel_rfl) ?_))
              obtain ⟨⟨z0, z1, z2, z3, z4, z5, z6, z7, z8, z9, z10, z11, z12, z13⟩, _⟩ := (T.out.s.z2.row (ds := #[.int .i64 p.kind, .slice r.I p.items.length r.i, .slice r.K p.keys.length r.k, .slice r.D p.kids.length r.d, .string ⟨p.text.toArray⟩, .slice r.V p.vals.length r.v, .slice r.F p.free.length r.f, .int .i64 p.next, .int .u64 p.mt.txn, .int .i64 p.mt.main.page, .int .i64 p.mt.main.count, .int .i64 p.mt.main.flags, .int .i64 p.mt.free, .int .i64 p.mt.last])).at14
              have hne := T.out.hne
              refine bodyPost_ret (v := .tuple #[.agg (pageV p r).toArray, .int .i64 0]) (by simp [results, Try.results15, go_sem, pageV, mtV, z0, z1, z2, z3, z4, z5, z6, z7, z8, z9, z10, z11, z12, z13]) rfl (HYES.out _ r (HSP.out.trans rfl) (fun M hM => ?_) (below_setRow T.out.s.hb (Nat.le_refl _) _))
              refine PageRd.anti (M := fun k => M k ∨ k = w.heap.size) (PageRd.chg (T.out.rp _ (fun k hk h => ?_)) ?_) (fun k h => .inl h)
              · rcases h with h | h
                · exact hM k (by omega) h
                · omega
              · refine (chg_setRow1 _ _ _).mono (fun k _ h => .inr h)
            · go_wp2_with (first
                | (refine wpList_built rfl PageT _ rfl #[.int .i64 0, .slice none 0 0, .slice none 0 0, .slice none 0 0, .string ⟨#[]⟩, .slice none 0 0, .slice none 0 0, .int .i64 0, .int .u64 0, .int .i64 0, .int .i64 0, .int .i64 0, .int .i64 0, .int .i64 0] (by kernel_rfl) ?_)
                | (refine wpList_store_row rfl PageT _ _ rfl w.heap.size _ rfl rfl PageT _ T.out.s.z2 (by kernel_rfl) rfl (by kernel_rfl) ?_))
              obtain ⟨⟨z0, z1, z2, z3, z4, z5, z6, z7, z8, z9, z10, z11, z12, z13⟩, _⟩ := (T.out.s.z2.row (ds := #[.int .i64 0, .slice none 0 0, .slice none 0 0, .slice none 0 0, .string ⟨#[]⟩, .slice none 0 0, .slice none 0 0, .int .i64 0, .int .u64 0, .int .i64 0, .int .i64 0, .int .i64 0, .int .i64 0, .int .i64 0])).at14
              refine bodyPost_ret (v := .tuple #[.agg (pageV Sp.pg0 refs0).toArray, .int .i64 12]) (by simp [results, Try.results15, go_sem, pageV, mtV, Sp.pg0, Sp.mt0, Sp.root0, refs0, z0, z1, z2, z3, z4, z5, z6, z7, z8, z9, z10, z11, z12, z13]) rfl (HNO.out _ (HSP.out.trans rfl) (below_setRow T.out.s.hb (Nat.le_refl _) _))
      · go_wp2_with (first
          | (refine wpList_built rfl PageT _ rfl #[.int .i64 0, .slice none 0 0, .slice none 0 0, .slice none 0 0, .string ⟨#[]⟩, .slice none 0 0, .slice none 0 0, .int .i64 0, .int .u64 0, .int .i64 0, .int .i64 0, .int .i64 0, .int .i64 0, .int .i64 0] (by kernel_rfl) ?_)
          | (refine wpList_store_row rfl PageT _ _ rfl w.heap.size _ rfl rfl PageT _ S.out.z2 (by kernel_rfl) rfl (by kernel_rfl) ?_))
        obtain ⟨⟨z0, z1, z2, z3, z4, z5, z6, z7, z8, z9, z10, z11, z12, z13⟩, _⟩ := (S.out.z2.row (ds := #[.int .i64 0, .slice none 0 0, .slice none 0 0, .slice none 0 0, .string ⟨#[]⟩, .slice none 0 0, .slice none 0 0, .int .i64 0, .int .u64 0, .int .i64 0, .int .i64 0, .int .i64 0, .int .i64 0, .int .i64 0])).at14
        refine bodyPost_ret (v := .tuple #[.agg (pageV Sp.pg0 refs0).toArray, .int .i64 12]) (by simp [results, Try.results15, go_sem, pageV, mtV, Sp.pg0, Sp.mt0, Sp.root0, refs0, z0, z1, z2, z3, z4, z5, z6, z7, z8, z9, z10, z11, z12, z13]) rfl (HNO.out _ (HSP.out.trans rfl) (below_setRow S.out.hb (Nat.le_refl _) _))
end Go.Proofs.Ytienlhckcpfknaa
namespace Go.Proofs.Ytienlhckcpfknaa
open Go.RowKit
attribute [local go_sem low] mk_extract
attribute [local go_sem] After.cell After.frozen mk_extract_end ByteArray.mk_append_mk
set_option maxRecDepth 100000 in
set_option maxHeartbeats 400000 in
theorem dSameTexts (l m : List Txt) (A B : Option Addr) (c d : Nat) {M N : Nat → Prop} (w : World) (hl : Txts w M A l) (hm : Txts w N B m) :
    Calls Try.prog 58 #[.slice A l.length c, .slice B m.length d] w fun e w' => e = .returned (.bool (decide (l = m))) ∧ Below w.heap.size w w' := by
  have hlen := hl.len
  have hmen := hm.len
  have Hl := Lib.hid hl
  have Hm := Lib.hid hm
  clear hl hm
  by_cases he : l.length = m.length
  · have he1 : ((l.length : Int) == (m.length : Int)) = true := by simp [he]
    have he2 : ((l.length : Int) != (m.length : Int)) = false := by simp [he]
    have HE := Lib.hid he
    clear he
    go_enter Try.func58, Try.ntmps58
    go_wp2
    go_loopw [5] (fun i wr => ∃ k : Nat, k ≤ l.length ∧ i = .int .i64 k ∧ Below w.heap.size w wr ∧ Hid (∀ j, j < k → l.getD j [] = m.getD j [])) (fun i _ => l.length - (intOf i).toNat)
    case atStart => exact ⟨0, Nat.zero_le _, rfl, Below.refl _ _, fun j h => absurd h (by omega)⟩
    case round =>
      obtain ⟨k, hk, rfl, hb, hok⟩ := hrel
      have hsz := hb.size
      by_cases hlt : k < l.length
      · obtain ⟨b, off, rfl, hbl, hc⟩ := Hl.out.at_ hlt
        obtain ⟨b2, off2, rfl, hbl2, hc2⟩ := Hm.out.at_ (HE.out ▸ hlt : k < m.length)
        have hltm : k < m.length := HE.out ▸ hlt
        have hc0 := (hb.cell (p := ⟨b, off + k, none⟩) hbl).trans (hc k hlt)
        have hc1 := (hb.cell (p := ⟨b2, off2 + k, none⟩) hbl2).trans (hc2 k hltm)
        have hbw : b < wr.heap.size := by omega
        have hbw2 : b2 < wr.heap.size := by omega
        clear hc hc2
        generalize hx : l.getD k [] = x at *
        generalize hy : m.getD k [] = y at *
        have HX := Lib.hid hx
        have HY := Lib.hid hy
        clear hx hy
        go_wp2
        refine wp_region_after (by kernel_rfl) (by kernel_rfl) (wr.heap.size) ?_
        repeat (go_big_quiet_step (fail))
        refine wpQuiet_nil ?_
        intro w2 hb2
        have hb3 := hb.trans (hb2.mono hsz)
        go_wp2
        all_goals first
          | (go_ret
             go_light
             have hne : x ≠ y := by grind
             exact ⟨ret_bool (by simpa using Sp.ne_at (k := k) (d := []) (by rw [HX.out, HY.out]; exact hne)), hb3⟩)
          | (go_light
             have hee : x = y := by grind
             refine ⟨⟨k + 1, by omega, by go_num, hb3, fun j hj => ?_⟩, by simp [intOf]; omega⟩
             rcases Nat.lt_succ_iff_lt_or_eq.1 hj with h | rfl
             · exact hok.out j h
             · rw [HX.out, HY.out]; exact hee)
      · have hkl : k = l.length := by omega
        go_wp2
        go_ret
        refine ⟨ret_bool ?_, hb⟩
        have := Sp.eq_all HE.out (fun j hj => hok.out j (by omega))
        simp [this]
  · have he1 : ((l.length : Int) == (m.length : Int)) = false := by simp; omega
    have he2 : ((l.length : Int) != (m.length : Int)) = true := by simp; omega
    have HE := Lib.hid he
    clear he
    go_enter Try.func58, Try.ntmps58
    go_wp2
    go_ret
    refine ⟨ret_bool ?_, Below.refl _ _⟩
    have hne : l ≠ m := fun e => HE.out (by rw [e])
    simp [hne]
set_option maxRecDepth 100000 in
set_option maxHeartbeats 400000 in
theorem dSameInts (l m : List Int) (A B : Option Addr) (c d : Nat) {M N : Nat → Prop} (w : World) (hl : Ints w M A l) (hm : Ints w N B m) :
    Calls Try.prog 59 #[.slice A l.length c, .slice B m.length d] w fun e w' => e = .returned (.bool (decide (l = m))) ∧ Below w.heap.size w w' := by
  have hlen := hl.len
  have hmen := hm.len
  have Hl := Lib.hid hl
  have Hm := Lib.hid hm
  clear hl hm
  by_cases he : l.length = m.length
  · have he1 : ((l.length : Int) == (m.length : Int)) = true := by simp [he]
    have he2 : ((l.length : Int) != (m.length : Int)) = false := by simp [he]
    have HE := Lib.hid he
    clear he
    go_enter Try.func59, Try.ntmps59
    go_wp2
    go_loopw [5] (fun i wr => ∃ k : Nat, k ≤ l.length ∧ i = .int .i64 k ∧ Below w.heap.size w wr ∧ Hid (∀ j, j < k → l.getD j 0 = m.getD j 0)) (fun i _ => l.length - (intOf i).toNat)
    case atStart => exact ⟨0, Nat.zero_le _, rfl, Below.refl _ _, fun j h => absurd h (by omega)⟩
    case round =>
      obtain ⟨k, hk, rfl, hb, hok⟩ := hrel
      have hsz := hb.size
      by_cases hlt : k < l.length
      · obtain ⟨b, off, rfl, hbl, hc⟩ := Hl.out.at_ hlt
        obtain ⟨b2, off2, rfl, hbl2, hc2⟩ := Hm.out.at_ (HE.out ▸ hlt : k < m.length)
        have hltm : k < m.length := HE.out ▸ hlt
        have hc0 := (hb.cell (p := ⟨b, off + k, none⟩) hbl).trans (hc k hlt)
        have hc1 := (hb.cell (p := ⟨b2, off2 + k, none⟩) hbl2).trans (hc2 k hltm)
        have hbw : b < wr.heap.size := by omega
        have hbw2 : b2 < wr.heap.size := by omega
        clear hc hc2
        generalize hx : l.getD k 0 = x at *
        generalize hy : m.getD k 0 = y at *
        have HX := Lib.hid hx
        have HY := Lib.hid hy
        clear hx hy
        go_wp2
        refine wp_region_after (by kernel_rfl) (by kernel_rfl) (wr.heap.size) ?_
        repeat (go_big_quiet_step (fail))
        refine wpQuiet_nil ?_
        intro w2 hb2
        have hb3 := hb.trans (hb2.mono hsz)
        go_wp2
        all_goals first
          | (go_ret
             go_light
             have hne : x ≠ y := by grind
             exact ⟨ret_bool (by simpa using Sp.ne_at (k := k) (d := 0) (by rw [HX.out, HY.out]; exact hne)), hb3⟩)
          | (go_light
             have hee : x = y := by grind
             refine ⟨⟨k + 1, by omega, by go_num, hb3, fun j hj => ?_⟩, by simp [intOf]; omega⟩
             rcases Nat.lt_succ_iff_lt_or_eq.1 hj with h | rfl
             · exact hok.out j h
             · rw [HX.out, HY.out]; exact hee)
      · have hkl : k = l.length := by omega
        go_wp2
        go_ret
        refine ⟨ret_bool ?_, hb⟩
        have := Sp.eq_all HE.out (fun j hj => hok.out j (by omega))
        simp [this]
  · have he1 : ((l.length : Int) == (m.length : Int)) = false := by simp; omega
    have he2 : ((l.length : Int) != (m.length : Int)) = true := by simp; omega
    have HE := Lib.hid he
    clear he
    go_enter Try.func59, Try.ntmps59
    go_wp2
    go_ret
    refine ⟨ret_bool ?_, Below.refl _ _⟩
    have hne : l ≠ m := fun e => HE.out (by rw [e])
    simp [hne]
set_option maxRecDepth 100000 in
set_option maxHeartbeats 1600000 in
theorem dSameItem (x y : Sp.Item) (V W : Option Addr) (c d : Nat) {M N : Nat → Prop} (w : World) (hx : Txts w M V x.vals) (hy : Txts w N W y.vals) :
    Calls Try.prog 61 #[.agg (itemV x V c).toArray, .agg (itemV y W d).toArray] w fun e w' => e = .returned (.bool (Sp.sameItem x y)) ∧ Below w.heap.size w w' := by
  obtain ⟨key, kind, val, run, len, vals, dup, ⟨rp, rc, rf⟩⟩ := x
  obtain ⟨key', kind', val', run', len', vals', dup', ⟨rp', rc', rf'⟩⟩ := y
  simp only [itemV]
  have Hx := Lib.hid hx
  have Hy := Lib.hid hy
  clear hx hy
  go_enter Try.func61, Try.ntmps61
  go_wp2_with (go_at_call 58; refine (dSameTexts vals vals' V W c d _ (Hx.out.go (by go_grown)) (Hy.out.go (by go_grown))).mono ?_; rintro e w1 ⟨rfl, hb⟩; obtain ⟨hc, hf⟩ := bcell hb)
  all_goals
    go_ret
    go_light
    refine ⟨ret_bool ?_, by first | (refine Below.trans (b := (w.alloc _).alloc _) ?_ (hb.mono (by simp; omega)); go_grown) | go_grown⟩
    simp only [Sp.sameItem]
    grind
end Go.Proofs.Ytienlhckcpfknaa
