/- The document's Bytes. More words for a region whose order is open: what only reads is taken first, though the last operation waits for it by way of others. The store over a file: a new one; a page of its file is read. errors.Is where the target is an Errno. Trees of the document: keys in order; a tree whose pages are told by number. -/
import Derived.Test.YtmcpkhknjdiocaaGreatQB12
import Derived.Lib.IfaceEq
import Derived.LaidEql
import Derived.Stop.Asserts
import Derived.RowKitTokens
import Derived.Sort.Walk0
set_option linter.unusedSimpArgs false
set_option linter.unusedVariables false
namespace Go.Proofs.YtmcpkhknjdiocaaGreat
open Go.RowKit
attribute [local go_sem low] mk_extract
attribute [local go_sem] After.cell After.frozen mk_extract_end ByteArray.mk_append_mk
attribute [local go_sem] Sp.le8_length Sp.rootB_len
theorem Sp.body_le {p : Sp.Page} (h : Sp.isPage p = true) : (Sp.body p).length ≤ 1300000 := by
  have := Sp.partsB_le h
  rw [Sp.body_def, List.length_append, Sp.le8_length]
  omega
theorem Sp.bytes_yes {p : Sp.Page} (h : Sp.isPage p = true) {E : Txt} (hE : E = Sp.body p) : Sp.le8 (Sp.sum E) ++ E = Sp.bytes p := by
  subst hE
  simp [Sp.bytes, h]
set_option maxRecDepth 100000 in
set_option maxHeartbeats 12800000 in
theorem dBytes_any (p : Sp.Page) (r : Refs) {M : Nat → Prop} (w : World) (hp : PageRd w M p r) :
    Calls Tryz.prog 43 #[.agg (pageV p r).toArray] w fun e w' => e = .returned (.string ⟨(Sp.bytes p).toArray⟩) ∧ Below w.heap.size w w' := by
  have Hp := Lib.hid hp
  clear hp
  have hsz : w.heap.size < w.heap.size + 1 := by omega
  have Blk0 := Lib.hid (Blk.new w PageT (pageV p r).toArray)
  have HI := Lib.hid (fun w h => dIs_any (M := M) p r w h)
  simp only [pageV] at *
  cases hi : Sp.isPage p
  · rw [hi] at HI
    have HBN : Hid (Sp.bytes p = []) := Lib.hid (Sp.bytes_no hi)
    clear hi
    go_enter Tryz.func43, Tryz.ntmps43
    go_upto_region 1 with fail
    go_wp2_with (first
      | (go_at_call 63; refine (HI.out _ (Hp.out.go (by (repeat (first | (with_reducible exact Below.refl _ _) | (with_reducible assumption) | (refine below_step (by assumption) (by first | omega | (simp; done) | (simp; omega)) ?_) | (with_reducible refine Below.alloc ?_ (by first | omega | (simp; done) | (simp; omega)) _) | (with_reducible refine Below.drew ?_) | (with_reducible refine below_drewN ?_ _) | (with_reducible refine Below.setCell ?_ (by first | omega | (simp; done) | (simp; omega)) _)))))).mono ?_; rintro e w2 ⟨rfl, hb2⟩)
      | (refine wpList_row PageT _ rfl w.heap.size rfl rfl PageT _ (0, 0) _ Blk0.out Tryz.underlying108 rfl rfl ?_))
    go_ret
    exact ⟨by rw [HBN.out]; rfl, by (repeat (first | (with_reducible exact Below.refl _ _) | (with_reducible assumption) | (refine below_step (by assumption) (by first | omega | (simp; done) | (simp; omega)) ?_) | (with_reducible refine Below.alloc ?_ (by first | omega | (simp; done) | (simp; omega)) _) | (with_reducible refine Below.drew ?_) | (with_reducible refine below_drewN ?_ _) | (with_reducible refine Below.setCell ?_ (by first | omega | (simp; done) | (simp; omega)) _)))⟩
  · rw [hi] at HI
    have HYES := Lib.hid (fun E => Sp.bytes_yes (E := E) hi)
    have HBL := Lib.hid (Sp.body_le hi)
    have hkd := Sp.isPage_kind hi
    have hkr : 1 ≤ p.kind ∧ p.kind ≤ 6 := by rcases hkd with h | h | h | h | h | h <;> omega
    have HKD := Lib.hid hkd
    clear hi hkd
    go_enter Tryz.func43, Tryz.ntmps43
    go_upto_region 3 with (first
      | (go_at_call 63; refine (HI.out _ (Hp.out.go (by (repeat (first | (with_reducible exact Below.refl _ _) | (with_reducible assumption) | (refine below_step (by assumption) (by first | omega | (simp; done) | (simp; omega)) ?_) | (with_reducible refine Below.alloc ?_ (by first | omega | (simp; done) | (simp; omega)) _) | (with_reducible refine Below.drew ?_) | (with_reducible refine below_drewN ?_ _) | (with_reducible refine Below.setCell ?_ (by first | omega | (simp; done) | (simp; omega)) _)))))).mono ?_; rintro e w2 ⟨rfl, hb2⟩)
      | (refine wpList_row PageT _ rfl w.heap.size rfl rfl PageT _ (0, 0) _ Blk0.out Tryz.underlying108 rfl rfl ?_))
    have hB : Below w.heap.size w w2 := by (repeat (first | (with_reducible exact Below.refl _ _) | (with_reducible assumption) | (refine below_step (by assumption) (by first | omega | (simp; done) | (simp; omega)) ?_) | (with_reducible refine Below.alloc ?_ (by first | omega | (simp; done) | (simp; omega)) _) | (with_reducible refine Below.drew ?_) | (with_reducible refine below_drewN ?_ _) | (with_reducible refine Below.setCell ?_ (by first | omega | (simp; done) | (simp; omega)) _)))
    have hBk := Blk0.out.below hb2 (by simp)
    have hsz : w.heap.size < w2.heap.size := by have := hb2.size; simp at this; omega
    obtain ⟨⟨c0, c1, c2, c3, c4, c5, c6, c7, c8, c9, c10, c11, c12, c13⟩, _⟩ := hBk.at14
    clear hb2 hBk Blk0 HI
    obtain ⟨w0, rfl⟩ : ∃ W, W = w2 := ⟨_, rfl⟩
    have hsz'' := hsz
    go_upto_region 4 with (go_at_call 64; refine (dnum_any _ (by omega) (by omega) _).mono ?_; rintro e w2 ⟨rfl, hb2⟩; have hz := hb2.size; have hsz : w.heap.size < w2.heap.size := Nat.lt_of_lt_of_le (by first | exact hsz | omega | (simp; done) | (simp; omega)) hz; obtain ⟨hc2, hf2⟩ := bcell hb2)
    replace c0 := (hc2 _ _ hsz'').trans c0
    replace c1 := (hc2 _ _ hsz'').trans c1
    replace c2 := (hc2 _ _ hsz'').trans c2
    replace c3 := (hc2 _ _ hsz'').trans c3
    replace c4 := (hc2 _ _ hsz'').trans c4
    replace c5 := (hc2 _ _ hsz'').trans c5
    replace c6 := (hc2 _ _ hsz'').trans c6
    replace c7 := (hc2 _ _ hsz'').trans c7
    replace c8 := (hc2 _ _ hsz'').trans c8
    replace c9 := (hc2 _ _ hsz'').trans c9
    replace c10 := (hc2 _ _ hsz'').trans c10
    replace c11 := (hc2 _ _ hsz'').trans c11
    replace c12 := (hc2 _ _ hsz'').trans c12
    replace c13 := (hc2 _ _ hsz'').trans c13
    replace hB : Below w.heap.size w w2 := by (repeat (first | (with_reducible exact Below.refl _ _) | (with_reducible assumption) | (refine below_step (by assumption) (by first | omega | (simp; done) | (simp; omega)) ?_) | (with_reducible refine Below.alloc ?_ (by first | omega | (simp; done) | (simp; omega)) _) | (with_reducible refine Below.drew ?_) | (with_reducible refine below_drewN ?_ _) | (with_reducible refine Below.setCell ?_ (by first | omega | (simp; done) | (simp; omega)) _)))
    clear hb2 hc2 hf2 hz hsz''
    obtain ⟨w1, rfl⟩ : ∃ W, W = w2 := ⟨_, rfl⟩
    rcases HKD.out with ⟨hk, hi⟩ | ⟨hk, hi⟩ | hk | ⟨hk, hi⟩ | ⟨hk, hi⟩ | ⟨hk, hi⟩
    · as_aux_lemma =>
        have e1 : (p.kind == 1) = true := beq_iff_eq.2 hk
        have HK := Lib.hid (Sp.partsB1 hk)
        obtain ⟨hl4, hall⟩ := Sp.isLeaf_rng hi
        have HA := Lib.hid hall
        have HIT := Lib.hid (Hp.out.items.go hB)
        clear hk hi hall HKD c2 c3 c4 c5 c6 c7 c8 c9 c10 c11 c12 c13
        have hsz'' := hsz
        go_upto_region 7 with (go_at_call 64; refine (dnum_any _ (by omega) (by omega) _).mono ?_; rintro e w2 ⟨rfl, hb2⟩; have hz := hb2.size; have hsz : w.heap.size < w2.heap.size := Nat.lt_of_lt_of_le (by first | exact hsz | omega | (simp; done) | (simp; omega)) hz; obtain ⟨hc2, hf2⟩ := bcell hb2)
        replace c1 := (hc2 _ _ hsz'').trans c1
        have hb3 : Below w1.heap.size w1 w2 := hb2
        clear hc2 hf2 hb2 c0 hz
        go_wp2_with fail
        go_loopw [3, 4] (fun o i wr => ∃ k : Nat, k ≤ p.items.length ∧ i = .int .i64 k ∧ o = .string ⟨((Sp.le8 p.kind ++ Sp.le8 p.items.length) ++ Sp.itemsB (p.items.take k)).toArray⟩ ∧ Below w2.heap.size w2 wr) (fun _ i _ => p.items.length - (intOf i).toNat)
        case atStart => exact ⟨0, Nat.zero_le _, rfl, by simp [Sp.itemsB], Below.refl _ _⟩
        case round =>
          obtain ⟨k, hk, rfl, rfl, hb⟩ := hrel
          have hz4 := hb.size
          have hz3 := hb3.size
          have d1 := (hb.cell (p := ⟨w.heap.size, 1, none⟩) hsz).trans c1
          have hszw : w.heap.size < wr.heap.size := by omega
          by_cases hlt : k < p.items.length
          · obtain ⟨b, off, hA, hbl, hc⟩ := HIT.out.at_ hlt
            obtain ⟨V2, cv2, hit, htx⟩ := hc k hlt
            rw [hA] at d1
            clear hc hA
            have hb5 := hb3.trans (hb.mono (by omega))
            have hit := hit.keep (w' := wr) fun j => hb5.cell (p := ⟨_, _, none⟩) hbl
            have Ht := Lib.hid (htx.go hb5)
            obtain ⟨h0, h1, h2, h3, h4, h5, h6, h7, h8, h9⟩ := hit
            have HII := Lib.hid (HA.out k hlt)
            have hbw : b < wr.heap.size := by omega
            have HS := Lib.hid (Sp.itemsB_succ p.items k hlt)
            have hle := Sp.itemsB_le HA.out k (by omega)
            have hle2 := Sp.itemB_le (Sp.isItem_rng HII.out).2.2.2.2.2.2.2.2.1
            generalize Sp.itemsB (p.items.take k) = t at *
            generalize p.items.getD k Sp.item0 = x at *
            clear htx
            go_wp2_with (go_at_call 65; refine (ditemB_any x V2 cv2 _ Ht.out HII.out).mono ?_; rintro e w6 ⟨rfl, hb6⟩; have hz6 := hb6.size)
            exact ⟨⟨k + 1, by omega, by go_num, by rw [HS.out] <;> simp, by (repeat (first | (with_reducible exact Below.refl _ _) | (with_reducible assumption) | (refine below_step (by assumption) (by first | omega | (simp; done) | (simp; omega)) ?_) | (with_reducible refine Below.alloc ?_ (by first | omega | (simp; done) | (simp; omega)) _) | (with_reducible refine Below.drew ?_) | (with_reducible refine below_drewN ?_ _) | (with_reducible refine Below.setCell ?_ (by first | omega | (simp; done) | (simp; omega)) _)))⟩, by simp [intOf]; omega⟩
          · have htk : p.items.take k = p.items := List.take_of_length_le (by omega)
            have hfull := Sp.itemsB_le HA.out p.items.length (Nat.le_refl _)
            rw [List.take_of_length_le (Nat.le_refl _)] at hfull
            have HE := Lib.hid (show Sp.le8 p.kind ++ (Sp.le8 p.items.length ++ Sp.itemsB p.items) = Sp.body p by rw [Sp.body_def, HK.out])
            have hkl : k = p.items.length := by omega
            rw [htk]
            clear htk
            go_wp2_with (first
          | (go_at_call 70; (try rw [List.append_assoc]); refine (dSum_any _ _ (by rw [HE.out]; have := HBL.out; omega)).mono ?_; rintro e w8 ⟨rfl, rfl⟩)
          | (go_at_call 68; refine (dNum_any _ (Sp.sum_range _).1 (Sp.sum_range _).2 _).mono ?_; rintro e w9 ⟨rfl, hb9⟩; have hz9 := hb9.size))
            go_ret
            exact ⟨by rw [← HYES.out _ HE.out]; simp, by (repeat (first | (with_reducible exact Below.refl _ _) | (with_reducible assumption) | (refine below_step (by assumption) (by first | omega | (simp; done) | (simp; omega)) ?_) | (with_reducible refine Below.alloc ?_ (by first | omega | (simp; done) | (simp; omega)) _) | (with_reducible refine Below.drew ?_) | (with_reducible refine below_drewN ?_ _) | (with_reducible refine Below.setCell ?_ (by first | omega | (simp; done) | (simp; omega)) _)))⟩
    · as_aux_lemma =>
        have e1 : (p.kind == 1) = false := by rw [beq_eq_false_iff_ne]; omega
        have e2 : (p.kind == 2) = true := beq_iff_eq.2 hk
        have HK := Lib.hid (Sp.partsB2 hk)
        obtain ⟨hl4, hkd, hall⟩ := Sp.isBranch_rng hi
        have HA := Lib.hid hall
        have HKY := Lib.hid (Hp.out.keys.go hB)
        have HDY := Lib.hid (Hp.out.kids.go hB)
        have HKDD := Lib.hid hkd
        clear hk hi hall HKD hkd c1 c4 c5 c6 c7 c8 c9 c10 c11 c12 c13
        have hsz'' := hsz
        go_upto_region 13 with (go_at_call 64; refine (dnum_any _ (by omega) (by omega) _).mono ?_; rintro e w2 ⟨rfl, hb2⟩; have hz := hb2.size; have hsz : w.heap.size < w2.heap.size := Nat.lt_of_lt_of_le (by first | exact hsz | omega | (simp; done) | (simp; omega)) hz; obtain ⟨hc2, hf2⟩ := bcell hb2)
        replace c2 := (hc2 _ _ hsz'').trans c2
        replace c3 := (hc2 _ _ hsz'').trans c3
        have hb3 : Below w1.heap.size w1 w2 := hb2
        clear hc2 hf2 hb2 c0 hz
        go_wp2_with fail
        go_loopw [3, 5] (fun o i wr => ∃ k : Nat, k ≤ p.kids.length ∧ i = .int .i64 k ∧ o = .string ⟨((Sp.le8 p.kind ++ Sp.le8 p.kids.length) ++ Sp.kidsTo p.keys p.kids k).toArray⟩ ∧ Below w2.heap.size w2 wr) (fun _ i _ => p.kids.length - (intOf i).toNat)
        case atStart => exact ⟨0, Nat.zero_le _, rfl, by simp [Sp.kidsTo], Below.refl _ _⟩
        case round =>
          obtain ⟨k, hk, rfl, rfl, hb⟩ := hrel
          have hz4 := hb.size
          have hz3 := hb3.size
          have d2 := (hb.cell (p := ⟨w.heap.size, 2, none⟩) hsz).trans c2
          have d3 := (hb.cell (p := ⟨w.heap.size, 3, none⟩) hsz).trans c3
          have hszw : w.heap.size < wr.heap.size := by omega
          by_cases hlt : k < p.kids.length
          · have hltk : k < p.keys.length := by have := HKDD.out; omega
            obtain ⟨db, do_, hA2, hdb, hdc⟩ := HDY.out.at_ hlt
            obtain ⟨kb, ko, hA, hkb, hkc⟩ := HKY.out.at_ hltk
            rw [hA] at d2
            rw [hA2] at d3
            have hb5 := hb3.trans (hb.mono (by omega))
            have hdc0 := (hb5.cell (p := ⟨_, _, none⟩) hdb).trans (hdc k hlt)
            have hkc0 := (hb5.cell (p := ⟨_, _, none⟩) hkb).trans (hkc k hltk)
            have hkbw : kb < wr.heap.size := by omega
            have hdbw : db < wr.heap.size := by omega
            obtain ⟨hu0, hu1⟩ := HA.out k hlt
            clear hdc hkc hA hA2
            have HS := Lib.hid (Sp.kidsTo_succ p.keys p.kids k)
            have HD := Lib.hid (Sp.kidB_def p.keys p.kids k)
            have hle := Sp.kidsTo_le p.keys p.kids k
            have hte := Sp.text_le (p.keys.getD k [])
            generalize Sp.kidB p.keys p.kids k = kb2 at *
            generalize Sp.kidsTo p.keys p.kids k = t at *
            generalize p.kids.getD k 0 = u at *
            generalize p.keys.getD k [] = s at *
            go_wp2
            refine wp_region_after (by kernel_rfl) (by kernel_rfl) (wr.heap.size) ?_
            repeat (go_big_quiet_step (first | (go_at_call 66; exact after_call (Nat.le_refl _) (dText_any _ _)) | (go_at_call 64; exact after_call (Nat.le_refl _) (dnum_any _ (by omega) (by omega) _))))
            refine wpQuiet_nil ?_
            intro w6 hb6
            go_wp2
            exact ⟨⟨k + 1, by omega, by go_num, by rw [HS.out, HD.out] <;> simp, by (repeat (first | (with_reducible exact Below.refl _ _) | (with_reducible assumption) | (refine below_step (by assumption) (by first | omega | (simp; done) | (simp; omega)) ?_) | (with_reducible refine Below.alloc ?_ (by first | omega | (simp; done) | (simp; omega)) _) | (with_reducible refine Below.drew ?_) | (with_reducible refine below_drewN ?_ _) | (with_reducible refine Below.setCell ?_ (by first | omega | (simp; done) | (simp; omega)) _)))⟩, by simp [intOf]; omega⟩
          · have hkl : k = p.kids.length := by omega
            subst hkl
            have hle := Sp.kidsTo_le p.keys p.kids p.kids.length
            have HE := Lib.hid (show Sp.le8 p.kind ++ (Sp.le8 p.kids.length ++ Sp.kidsTo p.keys p.kids p.kids.length) = Sp.body p by rw [Sp.body_def, HK.out])
            go_wp2_with (first
          | (go_at_call 70; (try rw [List.append_assoc]); refine (dSum_any _ _ (by rw [HE.out]; have := HBL.out; omega)).mono ?_; rintro e w8 ⟨rfl, rfl⟩)
          | (go_at_call 68; refine (dNum_any _ (Sp.sum_range _).1 (Sp.sum_range _).2 _).mono ?_; rintro e w9 ⟨rfl, hb9⟩; have hz9 := hb9.size))
            go_ret
            exact ⟨by rw [← HYES.out _ HE.out]; simp, by (repeat (first | (with_reducible exact Below.refl _ _) | (with_reducible assumption) | (refine below_step (by assumption) (by first | omega | (simp; done) | (simp; omega)) ?_) | (with_reducible refine Below.alloc ?_ (by first | omega | (simp; done) | (simp; omega)) _) | (with_reducible refine Below.drew ?_) | (with_reducible refine below_drewN ?_ _) | (with_reducible refine Below.setCell ?_ (by first | omega | (simp; done) | (simp; omega)) _)))⟩
    · as_aux_lemma =>
        have e1 : (p.kind == 1) = false := by rw [beq_eq_false_iff_ne]; omega
        have e2 : (p.kind == 2) = false := by rw [beq_eq_false_iff_ne]; omega
        have e3 : (p.kind == 3) = true := beq_iff_eq.2 hk
        have HK := Lib.hid (Sp.partsB3 hk)
        have hte := Sp.text_le p.text
        clear hk HKD
        go_wp2_with (first
          | ((go_at_call 66; refine (dText_any _ _).mono ?_; rintro e w2 ⟨rfl, hb2⟩; have hz := hb2.size; have hsz : w.heap.size < w2.heap.size := Nat.lt_of_lt_of_le (by first | exact hsz | omega | (simp; done) | (simp; omega)) hz; obtain ⟨hc2, hf2⟩ := bcell hb2); have HE := Lib.hid (show Sp.le8 p.kind ++ Sp.text p.text = Sp.body p by rw [Sp.body_def, HK.out]))
          | (go_at_call 70; refine (dSum_any _ _ (by rw [HE.out]; have := HBL.out; omega)).mono ?_; rintro e w8 ⟨rfl, rfl⟩)
          | (go_at_call 68; refine (dNum_any _ (Sp.sum_range _).1 (Sp.sum_range _).2 _).mono ?_; rintro e w9 ⟨rfl, hb9⟩; have hz9 := hb9.size))
        go_ret
        exact ⟨by rw [← HYES.out _ HE.out]; simp, by (repeat (first | (with_reducible exact Below.refl _ _) | (with_reducible assumption) | (refine below_step (by assumption) (by first | omega | (simp; done) | (simp; omega)) ?_) | (with_reducible refine Below.alloc ?_ (by first | omega | (simp; done) | (simp; omega)) _) | (with_reducible refine Below.drew ?_) | (with_reducible refine below_drewN ?_ _) | (with_reducible refine Below.setCell ?_ (by first | omega | (simp; done) | (simp; omega)) _)))⟩
    · as_aux_lemma =>
        have e1 : (p.kind == 1) = false := by rw [beq_eq_false_iff_ne]; omega
        have e2 : (p.kind == 2) = false := by rw [beq_eq_false_iff_ne]; omega
        have e3 : (p.kind == 3) = false := by rw [beq_eq_false_iff_ne]; omega
        have e4 : (p.kind == 4) = true := beq_iff_eq.2 hk
        have HK := Lib.hid (Sp.partsB4 hk)
        have hv := Sp.isVals_rng hi
        have hvb := Sp.valsB_le p.vals
        clear hk hi HKD
        go_wp2_with (first
          | ((go_at_call 67; refine (dtexts_any p.vals r.V r.v _ (Hp.out.vals.go (by (repeat (first | (with_reducible exact Below.refl _ _) | (with_reducible assumption) | (refine below_step (by assumption) (by first | omega | (simp; done) | (simp; omega)) ?_) | (with_reducible refine Below.alloc ?_ (by first | omega | (simp; done) | (simp; omega)) _) | (with_reducible refine Below.drew ?_) | (with_reducible refine below_drewN ?_ _) | (with_reducible refine Below.setCell ?_ (by first | omega | (simp; done) | (simp; omega)) _))))) (by omega)).mono ?_; rintro e w2 ⟨rfl, hb2⟩; have hz := hb2.size; have hsz : w.heap.size < w2.heap.size := Nat.lt_of_lt_of_le (by first | exact hsz | omega | (simp; done) | (simp; omega)) hz; obtain ⟨hc2, hf2⟩ := bcell hb2); have HE := Lib.hid (show Sp.le8 p.kind ++ Sp.valsB p.vals = Sp.body p by rw [Sp.body_def, HK.out]))
          | (go_at_call 70; refine (dSum_any _ _ (by rw [HE.out]; have := HBL.out; omega)).mono ?_; rintro e w8 ⟨rfl, rfl⟩)
          | (go_at_call 68; refine (dNum_any _ (Sp.sum_range _).1 (Sp.sum_range _).2 _).mono ?_; rintro e w9 ⟨rfl, hb9⟩; have hz9 := hb9.size))
        go_ret
        exact ⟨by rw [← HYES.out _ HE.out]; simp, by (repeat (first | (with_reducible exact Below.refl _ _) | (with_reducible assumption) | (refine below_step (by assumption) (by first | omega | (simp; done) | (simp; omega)) ?_) | (with_reducible refine Below.alloc ?_ (by first | omega | (simp; done) | (simp; omega)) _) | (with_reducible refine Below.drew ?_) | (with_reducible refine below_drewN ?_ _) | (with_reducible refine Below.setCell ?_ (by first | omega | (simp; done) | (simp; omega)) _)))⟩
    · as_aux_lemma =>
        have e1 : (p.kind == 1) = false := by rw [beq_eq_false_iff_ne]; omega
        have e2 : (p.kind == 2) = false := by rw [beq_eq_false_iff_ne]; omega
        have e3 : (p.kind == 3) = false := by rw [beq_eq_false_iff_ne]; omega
        have e4 : (p.kind == 4) = false := by rw [beq_eq_false_iff_ne]; omega
        have e5 : (p.kind == 5) = true := beq_iff_eq.2 hk
        have HK := Lib.hid (Sp.partsB5 hk)
        obtain ⟨hl20, hn0, hn1, hall⟩ := Sp.isFree_rng hi
        have HA := Lib.hid hall
        have Hf := Lib.hid (Hp.out.free.go hB)
        clear hk hi hall HKD c1 c2 c3 c4 c5 c8 c9 c10 c11 c12 c13
        have hsz'' := hsz
        go_upto_region 23 with (go_at_call 64; refine (dnum_any _ (by omega) (by omega) _).mono ?_; rintro e w2 ⟨rfl, hb2⟩; have hz := hb2.size; have hsz : w.heap.size < w2.heap.size := Nat.lt_of_lt_of_le (by first | exact hsz | omega | (simp; done) | (simp; omega)) hz; obtain ⟨hc2, hf2⟩ := bcell hb2)
        replace c6 := (hc2 _ _ hsz'').trans c6
        replace c7 := (hc2 _ _ hsz'').trans c7
        have hb3 : Below w1.heap.size w1 w2 := hb2
        clear hc2 hf2 hb2 c0 hz
        go_wp2_with fail
        go_loopw [3, 6] (fun o i wr => ∃ k : Nat, k ≤ p.free.length ∧ i = .int .i64 k ∧ o = .string ⟨((Sp.le8 p.kind ++ Sp.le8 p.free.length) ++ Sp.freesB (p.free.take k)).toArray⟩ ∧ Below w2.heap.size w2 wr) (fun _ i _ => p.free.length - (intOf i).toNat)
        case atStart => exact ⟨0, Nat.zero_le _, rfl, by simp [Sp.freesB], Below.refl _ _⟩
        case round =>
          obtain ⟨k, hk, rfl, rfl, hb⟩ := hrel
          have hz4 := hb.size
          have hz3 := hb3.size
          have d6 := (hb.cell (p := ⟨w.heap.size, 6, none⟩) hsz).trans c6
          have d7 := (hb.cell (p := ⟨w.heap.size, 7, none⟩) hsz).trans c7
          have hszw : w.heap.size < wr.heap.size := by omega
          by_cases hlt : k < p.free.length
          · obtain ⟨fb, fo, hA, hfb, hfc⟩ := Hf.out.at_ hlt
            obtain ⟨V2, c2, ⟨hc0, hc1⟩, hids, htx0, htx1⟩ := hfc k hlt
            rw [hA] at d6
            clear hfc hA
            obtain ⟨hil, hidr⟩ := HA.out k hlt
            have hb5 := hb3.trans (hb.mono (by omega))
            have hc0 := (hb5.cell (p := ⟨_, _, none⟩) hfb).trans hc0
            have hc1 := (hb5.cell (p := ⟨_, _, none⟩) hfb).trans hc1
            have Hids := Lib.hid (hids.go hb5)
            have HT := Lib.hid (Sp.freesB_succ p.free k hlt)
            have htle := Sp.freesB_le (l := p.free) k (by omega) (fun j hj => (HA.out j hj).1)
            have HTX := Lib.hid (And.intro htx0 htx1)
            have hfbw : fb < wr.heap.size := by omega
            clear hids htx0 htx1
            generalize Sp.freesB (p.free.take k) = t at *
            generalize p.free.getD k Sp.free0 = x at *
            obtain ⟨tx, ids⟩ := x
            simp only at *
            have HX := Lib.hid (Sp.freeB_def tx ids)
            go_wp2
            refine wp_region_after (by kernel_rfl) (by kernel_rfl) (wr.heap.size) ?_
            repeat (go_big_quiet_step (first | (go_at_call 68; exact after_call (Nat.le_refl _) (dNum_any _ HTX.out.1 HTX.out.2 _)) | (go_at_call 64; exact after_call (Nat.le_refl _) (dnum_any _ (by omega) (by omega) _))))
            refine wpQuiet_nil ?_
            intro w4 hb4
            have hz5 := hb4.size
            have f6 := (hb4.cell (p := ⟨w.heap.size, 6, none⟩) hszw).trans d6
            have g1 := (hb4.cell (p := ⟨fb, _, none⟩) hfbw).trans hc1
            have hszw4 : w.heap.size < w4.heap.size := by omega
            have hfbw4 : fb < w4.heap.size := by omega
            obtain ⟨wo, rfl⟩ : ∃ wo : World, wo = wr := ⟨_, rfl⟩
            have Hids2 := Lib.hid (Hids.out.go (w' := w4) (by (repeat (first | (with_reducible exact Below.refl _ _) | (with_reducible assumption) | (refine below_step (by assumption) (by first | omega | (simp; done) | (simp; omega)) ?_) | (with_reducible refine Below.alloc ?_ (by first | omega | (simp; done) | (simp; omega)) _) | (with_reducible refine Below.drew ?_) | (with_reducible refine below_drewN ?_ _) | (with_reducible refine Below.setCell ?_ (by first | omega | (simp; done) | (simp; omega)) _)))))
            clear d6 hc0 hc1
            go_wp2
            go_loopw [3, 7] (fun o i wr => ∃ j : Nat, j ≤ ids.length ∧ i = .int .i64 j ∧ o = .string ⟨((((Sp.le8 p.kind ++ Sp.le8 p.free.length) ++ t) ++ (Sp.le8 tx ++ Sp.le8 ids.length)) ++ Sp.numsB (ids.take j)).toArray⟩ ∧ Below w4.heap.size w4 wr) (fun _ i _ => ids.length - (intOf i).toNat)
            case atStart => exact ⟨0, Nat.zero_le _, rfl, by simp [Sp.numsB], Below.refl _ _⟩
            case round =>
              obtain ⟨j, hj, rfl, rfl, hbq⟩ := hrel
              have hzq := hbq.size
              have h6 := (hbq.cell (p := ⟨w.heap.size, 6, none⟩) hszw4).trans f6
              have h1 := (hbq.cell (p := ⟨fb, _, none⟩) hfbw4).trans g1
              by_cases hjl : j < ids.length
              · obtain ⟨ib, io, rfl, hib, hic⟩ := Hids2.out.at_ hjl
                have hic0 := (hbq.cell (p := ⟨_, _, none⟩) hib).trans (hic j hjl)
                clear hic
                have hu := hidr j hjl
                have HJ := Lib.hid (Sp.numsB_succ ids j hjl)
                have hnl := Sp.numsB_len (ids.take j)
                have hnl2 : (Sp.numsB (ids.take j)).length ≤ 160 := by
                  rw [hnl, List.length_take]
                  omega
                clear hnl
                have HD := Lib.hid hidr
                clear hidr
                generalize Sp.numsB (ids.take j) = nb at *
                generalize ids.getD j 0 = u at *
                obtain ⟨hu0, hu1⟩ := hu
                go_wp2_with (go_at_call 64; refine (dnum_any _ (by omega) (by omega) _).mono ?_; rintro e w6 ⟨rfl, hb6⟩; have hz6 := hb6.size)
                go_roundw
                case rel =>
                  repeat apply Exists.intro
                  refine ⟨?_, rfl⟩
                  exact ⟨j + 1, by omega, by go_num, by rw [HJ.out]; simp, by (repeat (first | (with_reducible exact Below.refl _ _) | (with_reducible assumption) | (refine below_step (by assumption) (by first | omega | (simp; done) | (simp; omega)) ?_) | (with_reducible refine Below.alloc ?_ (by first | omega | (simp; done) | (simp; omega)) _) | (with_reducible refine Below.drew ?_) | (with_reducible refine below_drewN ?_ _) | (with_reducible refine Below.setCell ?_ (by first | omega | (simp; done) | (simp; omega)) _)))⟩
                case measure => simp [intOf]; omega
              · have htk : ids.take j = ids := List.take_of_length_le (by omega)
                have HTK := Lib.hid htk
                clear htk
                have hjl2 : j = ids.length := by omega
                go_wp2
                go_roundw
                case rel =>
                  refine ⟨k + 1, by omega, by go_num, ?_, by (repeat (first | (with_reducible exact Below.refl _ _) | (with_reducible assumption) | (refine below_step (by assumption) (by first | omega | (simp; done) | (simp; omega)) ?_) | (with_reducible refine Below.alloc ?_ (by first | omega | (simp; done) | (simp; omega)) _) | (with_reducible refine Below.drew ?_) | (with_reducible refine below_drewN ?_ _) | (with_reducible refine Below.setCell ?_ (by first | omega | (simp; done) | (simp; omega)) _)))⟩
                  rw [HT.out, HX.out]
                  simp [HTK.out]
                case measure => simp [intOf]; omega
          · have htk : p.free.take k = p.free := List.take_of_length_le (by omega)
            have hfl : (Sp.freesB p.free).length ≤ 176 * 20 := by
              have := Sp.freesB_le (l := p.free) p.free.length (by omega) (fun j hj => (HA.out j hj).1)
              rw [List.take_of_length_le (by omega)] at this
              omega
            have HE := Lib.hid (show Sp.le8 p.kind ++ (Sp.le8 p.free.length ++ (Sp.freesB p.free ++ Sp.le8 p.next)) = Sp.body p by rw [Sp.body_def, HK.out]; simp)
            have hkl : k = p.free.length := by omega
            rw [htk]
            clear htk
            generalize Sp.freesB p.free = t at *
            go_wp2_with (first
          | (go_at_call 64; refine (dnum_any _ (by omega) (by omega) _).mono ?_; rintro e w6 ⟨rfl, hb6⟩; have hz6 := hb6.size)
          | (go_at_call 70; (try simp only [List.append_assoc]); refine (dSum_any _ _ (by rw [HE.out]; have := HBL.out; omega)).mono ?_; rintro e w8 ⟨rfl, rfl⟩)
          | (go_at_call 68; refine (dNum_any _ (Sp.sum_range _).1 (Sp.sum_range _).2 _).mono ?_; rintro e w9 ⟨rfl, hb9⟩; have hz9 := hb9.size))
            go_ret
            exact ⟨by rw [← HYES.out _ HE.out]; simp, by (repeat (first | (with_reducible exact Below.refl _ _) | (with_reducible assumption) | (refine below_step (by assumption) (by first | omega | (simp; done) | (simp; omega)) ?_) | (with_reducible refine Below.alloc ?_ (by first | omega | (simp; done) | (simp; omega)) _) | (with_reducible refine Below.drew ?_) | (with_reducible refine below_drewN ?_ _) | (with_reducible refine Below.setCell ?_ (by first | omega | (simp; done) | (simp; omega)) _)))⟩
    · as_aux_lemma =>
        have e1 : (p.kind == 1) = false := by rw [beq_eq_false_iff_ne]; omega
        have e2 : (p.kind == 2) = false := by rw [beq_eq_false_iff_ne]; omega
        have e3 : (p.kind == 3) = false := by rw [beq_eq_false_iff_ne]; omega
        have e4 : (p.kind == 4) = false := by rw [beq_eq_false_iff_ne]; omega
        have e5 : (p.kind == 5) = false := by rw [beq_eq_false_iff_ne]; omega
        have e6 : (p.kind == 6) = true := beq_iff_eq.2 hk
        have HK := Lib.hid (Sp.partsB6 hk)
        obtain ⟨hr, f0, f1, l0, l1⟩ := Sp.isMt_rng hi
        have HR := Lib.hid hr
        clear hk hi hr HKD
        go_upto_region 33 with fail
        refine wp_region_after (by kernel_rfl) (by kernel_rfl) (w1.heap.size) ?_
        repeat (go_big_quiet_step (first | (go_at_call 68; exact after_call (Nat.le_refl _) (dNum_any _ Hp.out.txn.1 Hp.out.txn.2 _)) | (go_at_call 64; exact after_call (Nat.le_refl _) (dnum_any _ (by omega) (by omega) _)) | (go_at_call 69; exact after_call (Nat.le_refl _) (drootB_any p.mt.main _ HR.out))))
        refine wpQuiet_nil ?_
        intro w6 hb6
        have hz6 := hb6.size
        have HE := Lib.hid (show Sp.le8 p.kind ++ Sp.le8 p.mt.txn ++ Sp.rootB p.mt.main ++ Sp.le8 p.mt.free ++ Sp.le8 p.mt.last = Sp.body p by rw [Sp.body_def, HK.out]; simp [Sp.mtB])
        have HE2 := Lib.hid (show Sp.le8 p.kind ++ (Sp.le8 p.mt.txn ++ (Sp.rootB p.mt.main ++ (Sp.le8 p.mt.free ++ Sp.le8 p.mt.last))) = Sp.body p by rw [Sp.body_def, HK.out]; simp [Sp.mtB])
        go_wp2_with (first
          | (go_at_call 70; refine (dSum_any _ _ (by first | (rw [HE.out]; have := HBL.out; omega) | (rw [HE2.out]; have := HBL.out; omega))).mono ?_; rintro e w8 ⟨rfl, rfl⟩)
          | (go_at_call 68; refine (dNum_any _ (Sp.sum_range _).1 (Sp.sum_range _).2 _).mono ?_; rintro e w9 ⟨rfl, hb9⟩; have hz9 := hb9.size))
        go_ret
        exact ⟨by first | (rw [← HYES.out _ HE2.out]; simp; done) | (rw [← HYES.out _ HE.out]; simp; done), by (repeat (first | (with_reducible exact Below.refl _ _) | (with_reducible assumption) | (refine below_step (by assumption) (by first | omega | (simp; done) | (simp; omega)) ?_) | (with_reducible refine Below.alloc ?_ (by first | omega | (simp; done) | (simp; omega)) _) | (with_reducible refine Below.drew ?_) | (with_reducible refine below_drewN ?_ _) | (with_reducible refine Below.setCell ?_ (by first | omega | (simp; done) | (simp; omega)) _)))⟩
end Go.Proofs.YtmcpkhknjdiocaaGreat
namespace Go.Proofs.YtmcpkhknjdiocaaGreat
open Go.RowKit
section
variable {P : Program} {ops : Array Oper} {Q : Exit → Act → World → Prop} {md : Region.Mode} {C : World → Prop} {last : Nat}
def edgeB (md : Region.Mode) (ops : Array Oper) (i j : Nat) : Bool := match ops[j]? with | none => false | some oj => oj.after.any fun e => Region.binds md e && e.on == i
theorem edgeB_spec {i j : Nat} (h : edgeB md ops i j = true) : ∃ oj, ops[j]? = some oj ∧ ∃ e ∈ oj.after, Region.binds md e = true ∧ e.on = i := by
  unfold edgeB at h
  cases ho : ops[j]? with
  | none => rw [ho] at h; cases h
  | some oj =>
    rw [ho] at h
    obtain ⟨e, he, h3⟩ := Array.any_eq_true'.1 h
    rw [Bool.and_eq_true] at h3
    exact ⟨oj, rfl, e, he, h3.1, by simpa using h3.2⟩
/-- A way from an operation to the last one. -/
def chainB (md : Region.Mode) (ops : Array Oper) (last : Nat) : Nat → List Nat → Bool
  | _, [] => false
  | i, j :: l => edgeB md ops i j && (match l with | [] => j == last | _ :: _ => chainB md ops last j l)
/-- What is listed has all that it waits for listed. -/
def Shut (md : Region.Mode) (ops : Array Oper) (listed : Array Bool) : Prop := ∀ (j : Nat) (oj : Oper), ops[j]? = some oj → listed.getD j false = true → ∀ e ∈ oj.after, Region.binds md e = true → listed.getD e.on false = true
def shutB (md : Region.Mode) (ops : Array Oper) (listed : Array Bool) : Bool := (List.range listed.size).all fun j => !listed.getD j false || (match ops[j]? with | none => true | some oj => oj.after.all fun e => !Region.binds md e || listed.getD e.on false)
theorem shutB_spec {listed : Array Bool} (h : shutB md ops listed = true) : Shut md ops listed := by
  intro j oj hj hl e he hb
  have hjs : j < listed.size := by
    rcases Nat.lt_or_ge j listed.size with h' | h'
    · exact h'
    · simp [Array.getElem?_eq_none h'] at hl
  have h1 := (List.all_eq_true.1 h) j (List.mem_range.2 hjs)
  rw [hl, hj] at h1
  have h2 : (oj.after.all fun e => !Region.binds md e || listed.getD e.on false) = true := by simpa using h1
  have h3 := (Array.all_eq_true_iff_forall_mem.1 h2) e he
  rw [hb] at h3
  simpa using h3
theorem Shut.step {listed : Array Bool} {j : Nat} (h : Shut md ops listed) (hj : j ∈ Region.ready md ops listed) : Shut md ops (listed.setIfInBounds j true) := by
  obtain ⟨hjun, oj, hoj, hall⟩ := mem_ready.1 hj
  intro k ok hk hl e he hb
  by_cases hjk : j = k
  · subst hjk
    obtain rfl : oj = ok := Option.some.inj (hoj.symm.trans hk)
    exact getD_set_true (hall e he hb)
  · rw [getD_set_ne false hjk] at hl
    exact getD_set_true (h k ok hk hl e he hb)
theorem chain_late : ∀ {l : List Nat} {i : Nat} {listed : Array Bool}, chainB md ops last i l = true → Shut md ops listed → listed.getD i false = false → last ∉ Region.ready md ops listed ∧ (listed.getD last false = false)
  | [], _, _, h, _, _ => by cases h
  | j :: [], i, listed, h, hs, hi => by
    unfold chainB at h
    rw [Bool.and_eq_true] at h
    obtain ⟨oj, hoj, e, he, hb, rfl⟩ := edgeB_spec h.1
    have hjl : j = last := by simpa using h.2
    subst hjl
    refine ⟨fun hr => ?_, ?_⟩
    · obtain ⟨_, o', ho', hall⟩ := mem_ready.1 hr
      obtain rfl : oj = o' := Option.some.inj (hoj.symm.trans ho')
      rw [hall e he hb] at hi
      cases hi
    · cases hl : listed.getD j false with
      | false => rfl
      | true =>
        rw [hs j oj hoj hl e he hb] at hi
        cases hi
  | j :: k :: l, i, listed, h, hs, hi => by
    unfold chainB at h
    rw [Bool.and_eq_true] at h
    obtain ⟨oj, hoj, e, he, hb, rfl⟩ := edgeB_spec h.1
    refine chain_late h.2 hs ?_
    cases hl : listed.getD j false with
    | false => rfl
    | true =>
      rw [hs j oj hoj hl e he hb] at hi
      cases hi
theorem wpIn_first2 {i : Nat} {oi : Oper} {v : Value} {l : List Nat} (hi : ops[i]? = some oi) (hsel : ∀ (j : Nat) (o : Oper) cs b, ops[j]? = some o → o.op ≠ .select cs b) (hil : i ≠ last) (hch : chainB md ops last i l = true)
    (hQ : ∀ c a w, Q (.panic c) (a.put oi.dst v) w → Q (.panic c) a w) :
    ∀ (fuel : Nat) (listed : Array Bool) (a : Act) (w : World),
      (∀ j oj, ops[j]? = some oj → j ≠ i → listed.getD j true = false → (∀ e ∈ oj.after, Region.binds md e = true → e.on ≠ i) → oi.apart ops oj = true) → Shut md ops listed →
      i ∈ Region.ready md ops listed → listed.getD last false = false → C w → YieldsC P ops C oi v a →
      wpIn P md ops last C Q fuel (listed.setIfInBounds i true) (a.put oi.dst v) w → wpIn P md ops last C Q (fuel + 1) listed a w := by
  intro fuel
  induction fuel with
  | zero =>
    intro listed a w _ _ hr hll hC hy H
    refine ⟨fun _ => hC, fun h => (by rw [h] at hr; cases hr), fun j hj => ?_⟩
    by_cases hji : j = i
    · subst hji; exact hy.wpOp hi hC H
    · have := ready_mono hj hji
      rw [H.2.1] at this
      cases this
  | succ fuel ih =>
    intro listed a w hfree hsh hr hll hC hy H
    refine ⟨fun _ => hC, fun h => (by rw [h] at hr; cases hr), fun j hj => ?_⟩
    by_cases hji : j = i
    · subst hji; exact hy.wpOp hi hC H
    · have h1 := H.2.2 j (ready_mono hj hji)
      obtain ⟨hjun, oj, hoj, hall⟩ := mem_ready.1 hj
      have h0 := (mem_ready.1 hr).1
      have hif : listed.getD i false = false := by
        rcases Nat.lt_or_ge i listed.size with h' | h'
        · simp [h'] at h0 ⊢; exact h0
        · simp [Array.getElem?_eq_none h'] at h0
      have hnot : ∀ e ∈ oj.after, Region.binds md e = true → e.on ≠ i := fun e he hb heq => by
        have h1 := hall e he hb
        rw [heq, hif] at h1
        cases h1
      have hjl : j ≠ last := fun e => by
        subst e
        exact (chain_late hch hsh hif).1 hj
      have hll' : (listed.setIfInBounds j true).getD last false = false := by rw [getD_set_ne false hjl]; exact hll
      have hll2 : ((listed.setIfInBounds i true).setIfInBounds j true).getD last false = false := by rw [getD_set_ne false hjl, getD_set_ne false hil]; exact hll
      have h2 := wpOp_putC hoj (hfree j oj hoj hji hjun hnot) (fun cs b => hsel i oi cs b hi) (fun cs b => hsel j oj cs b hoj) hQ hy h1
      have hfree' : ∀ k ok, ops[k]? = some ok → k ≠ i → (listed.setIfInBounds j true).getD k true = false →
          (∀ e ∈ ok.after, Region.binds md e = true → e.on ≠ i) → oi.apart ops ok = true := fun k ok hk hki hun hno => by
        refine hfree k ok hk hki ?_ hno
        by_cases hjk : j = k
        · subst hjk; exact hjun
        · rw [getD_set_ne true hjk] at hun; exact hun
      refine wpOp_mono (fun a' w' h3 => ih (listed.setIfInBounds j true) a' w' hfree' (hsh.step hj) (ready_mono hr (Ne.symm hji)) hll' (wpIn.cls h3.2 hll2) h3.1 ?_) h2
      rw [Array.setIfInBounds_comm _ _ hji]
      exact h3.2
/-- One that reads is taken first: the last one waits for it by way of others. -/
theorem wpIn_takeV (i : Nat) (l : List Nat) {oi : Oper} (v : Value) {fuel : Nat} {listed : Array Bool} {a : Act} {w : World} (hi : ops[i]? = some oi)
    (hs : Region.noSelect ops = true) (hf : Region.free md ops listed i = true) (hr : (Region.ready md ops listed).contains i = true) (hne : (i != last) = true) (hch : chainB md ops last i l = true) (hsh : shutB md ops listed = true) (hll : listed.getD last false = false)
    (hw : Region.wanted oi (yielded ops a.tmps) = true) (hQ : ∀ c a w, Q (.panic c) (a.put oi.dst v) w → Q (.panic c) a w) (hC : C w) (hy : ∀ w, C w → (execOp a.eval oi).run P w = .ok (.value v) w)
    (h : wpIn P md ops last C Q fuel (listed.setIfInBounds i true) (a.put oi.dst v) w) : wpIn P md ops last C Q (fuel + 1) listed a w :=
  wpIn_first2 hi (Region.noSelect_spec hs) (by simpa using hne) hch hQ fuel listed a w (Region.free_spec hi hf) (shutB_spec hsh) (by simpa using hr) hll hC (.inl ⟨hw, hy⟩) h
end
end Go.Proofs.YtmcpkhknjdiocaaGreat
namespace Go.Proofs.YtmcpkhknjdiocaaGreat
open Go.RowKit
attribute [local go_sem low] mk_extract
attribute [local go_sem] After.cell After.frozen mk_extract_end ByteArray.mk_append_mk
abbrev StT : TypeId := 123
abbrev PMapT : TypeId := 121
def pgZ0 : Array Value := #[.int .i64 0, .slice none 0 0, .slice none 0 0, .slice none 0 0, .string ⟨#[]⟩, .slice none 0 0, .slice none 0 0, .int .i64 0, .int .u64 0, .int .i64 0, .int .i64 0, .int .i64 0, .int .i64 0, .int .i64 0]
theorem zeroPage (W : World) : (zeroValue 108).run Tryz.prog W = .ok (.agg pgZ0) W := by kernel_rfl
theorem run_lookup_empty (W : World) (m c : Nat) (h : W.heap[m]? = some (.map #[] c)) (i : Int) : (Instr.lookup PMapT (.map (some m)) (.int .i64 i) true).run Tryz.prog W = .ok (.tuple #[.agg pgZ0, .bool false]) W := by
  have hk : MapKept.IsKey (.int .i64) (.int .i64 i) := rfl
  have hd := Tryz.underlying3
  have ht := Tryz.underlying121
  have hf : Instr.findNow (.int .i64) (.int .i64 i) (#[] : Array MapEntry).toList 0 = some none := rfl
  simp [Instr.lookup, run_underlying ht, MapKept.run_getObj_map h, MapKept.run_checkKey hd hk, MapKept.run_findKey hd hf, zeroPage, Result.andThen, pgZ0]
/-- A store that has made nothing. -/
structure St0 (w : World) (t f m d : Nat) (last : Int) (v : Value) (V : List Txt) : Prop where
  bt : Blk w t StT #[.pointer (some ⟨f, 0, none⟩), .map (some d), .slice none 0 0, .slice none 0 0, .int .i64 last, .int .i64 400]
  dm : ∃ c, w.heap[d]? = some (.map #[] c)
  fa : FileAt w f v m V
theorem St0.go {w w' : World} {t f m d : Nat} {last : Int} {v : Value} {V : List Txt} (h : St0 w t f m d last v V) (hb : Below w.heap.size w w') : St0 w' t f m d last v V := by
  obtain ⟨c, hd⟩ := h.dm
  exact ⟨h.bt.below hb h.bt.lt, ⟨c, (hb.block d (Array.getElem?_eq_some_iff.1 hd).1).trans hd⟩, h.fa.go hb⟩
set_option maxRecDepth 100000 in
set_option maxHeartbeats 1600000 in
theorem storeNew_any (f m : Nat) (last : Int) (v : Value) (V : List Txt) (w : World) (hf : FileAt w f v m V) (h2 : 2 ≤ last) (h4 : last ≤ 400) :
    Calls Tryz.prog 28 #[.pointer (some ⟨f, 0, none⟩), .int .i64 last, .int .i64 400, .slice none 0 0] w fun e w' => ∃ t d, e = .returned (.pointer (some ⟨t, 0, none⟩)) ∧ St0 w' t f m d last v V ∧ Below w.heap.size w w' := by
  have HF := Lib.hid hf
  have hmx : max last 2 = last := by omega
  have hmn : min last 400 = last := by omega
  have hmm := @run_makeMap Tryz.prog
  clear hf
  go_enter Tryz.func28, Tryz.ntmps28
  go_upto_region 2 with fail
  refine wp_gen (fun W => St0 W (w.heap.size + 1) f m w.heap.size last v V ∧ Below w.heap.size w W) ?_ ?_
  · have hb : Below w.heap.size w ((w.alloc (.map #[] 0)).alloc (.cells #[.pointer (some ⟨f, 0, none⟩), .map (some w.heap.size), .slice none 0 0, .slice none 0 0, .int .i64 last, .int .i64 400] StT)) := ((Below.refl _ _).alloc (Nat.le_refl _) _).alloc (by simp) _
    refine ⟨⟨blk_second w _ _ _, ⟨0, ?_⟩, HF.out.go hb⟩, hb⟩
    have := heap_alloc_new w (.map #[] 0)
    exact (((Below.refl _ _).alloc (Nat.le_refl _) _ : Below (w.alloc (.map #[] 0)).heap.size (w.alloc (.map #[] 0)) _).block _ (by rw [World.size_alloc]; omega)).trans this
  rintro w1 ⟨hs, hb⟩
  have HS := Lib.hid hs
  have HB := Lib.hid hb
  clear hs hb HF
  go_wp2_with fail
  go_loopw [24] (fun i wr => i = .int .i64 0 ∧ wr = w1) (fun _ _ => 0)
  case atStart => exact ⟨rfl, rfl⟩
  case round =>
    obtain ⟨rfl, rfl⟩ := hrel
    go_wp2_with fail
    go_ret
    exact ⟨_, _, rfl, HS.out, HB.out⟩
theorem pageV_all0 (p : Sp.Page) (r : Refs) : (pageV p r).toArray.all (·.oneCell') = true := by
  rw [Array.all_eq_true_iff_forall_mem]
  intro u hu
  have hu : u ∈ pageV p r := by simpa using hu
  simp only [pageV, mtV, List.mem_append, List.mem_cons, List.not_mem_nil, or_false] at hu
  rcases hu with rfl | rfl | rfl | rfl | rfl | rfl | rfl | rfl | rfl | rfl | rfl | rfl | rfl | rfl <;> rfl
theorem chg_setRow0 (w : World) (k : Nat) (cs : Array Value) : Chg (OneM k) w (w.setRow k cs) :=
  ⟨rfl, rfl, rfl, by simp, fun i _ hs => setRow_other w k i cs (fun e => hs e)⟩
def readE (s : Txt) : Value := if Sp.readOk s then .nilIface else .iface 51 (.int .i64 12)
theorem readV_is (s : Txt) (r : Refs) : readV s r = .tuple #[.agg (pageV (readPg s) r).toArray, readE s] := by
  unfold readV readPg readE
  split <;> rfl
theorem atV_sz (V : List Txt) (i : Int) (h : ∀ s ∈ V, s.length ≤ 4611686018427387904) : (Sp.atV V i).length ≤ 4611686018427387904 := by
  unfold Sp.atV
  split
  · simp
  · rw [List.getD_eq_getElem?_getD]
    cases hq : V[i.toNat]? with
    | none => simp
    | some s => exact h s (List.mem_of_getElem? hq)
set_option maxRecDepth 100000 in
set_option maxHeartbeats 1600000 in
theorem storeRead_any (t f m d : Nat) (last : Int) (v : Value) (V : List Txt) (i : Int) (w : World) (hs : St0 w t f m d last v V) (hn : V.length ≤ 400) (h2 : 2 ≤ i) (h4 : i < 400) :
    Calls Tryz.prog 109 #[.pointer (some ⟨t, 0, none⟩), .int .i64 i] w fun e w' => ∃ r, e = .returned (readV (Sp.atV V i) r) ∧ (∀ M : Nat → Prop, (∀ k, w.heap.size ≤ k → ¬ M k) → PageRd w' M (readPg (Sp.atV V i)) r) ∧ Below w.heap.size w w' := by
  have hal : Below w.heap.size w (w.alloc (.cells pgZ0 PageT)) := (Below.refl _ _).alloc (Nat.le_refl _) _
  have HS := Lib.hid (hs.go hal)
  have c0 := HS.out.bt.cell 0
  have c1 := HS.out.bt.cell 1
  have c5 := HS.out.bt.cell 5
  simp at c0 c1 c5
  obtain ⟨ck, hdm⟩ := HS.out.dm
  have HD := Lib.hid hdm
  have HZ := Lib.hid (Blk.new w PageT pgZ0)
  have HSZ := Lib.hid (atV_sz V i hs.fa.sz)
  have HAL := Lib.hid hal
  have hlt2 : ¬ (i < 2) := by omega
  have h400 : ¬ (400 ≤ i) := by omega
  have hd1 : d < (w.alloc (.cells pgZ0 PageT)).heap.size := (Array.getElem?_eq_some_iff.1 hdm).1
  have hlk := run_lookup_empty _ _ _ hdm i
  clear hs hal hdm
  simp only [pgZ0] at *
  go_enter Tryz.func109, Tryz.ntmps109
  go_upto_region 5 with (refine wpList_new PageT _ _ rfl rfl rfl rfl rfl rfl _ rfl (of_decide_eq_true (by kernel_rfl)) (by kernel_rfl) (by kernel_rfl) (by kernel_rfl) ?_)
  have hal2 : Below (w.alloc (.cells pgZ0 PageT)).heap.size (w.alloc (.cells pgZ0 PageT)) ((w.alloc (.cells pgZ0 PageT)).alloc (.cells pgZ0 PageT)) := (Below.refl _ _).alloc (Nat.le_refl _) _
  have HS2 := Lib.hid (HS.out.go hal2)
  have HZ2 := Lib.hid (HZ.out.below hal2 HZ.out.lt)
  have HAL2 := Lib.hid (HAL.out.trans (hal2.mono HAL.out.size))
  have e0 := HS2.out.bt.cell 0
  simp at e0
  clear c0 c1 c5 hlk HS HZ HAL hal2 HD hd1
  simp only [pgZ0] at *
  generalize ((w.alloc (.cells _ PageT)).alloc (.cells _ PageT)) = W2 at *
  go_wp2_with (first
    | (go_at_call 124; refine (fileRead_any f m v V i _ HS2.out.fa (by omega)).mono ?_; rintro e w2 ⟨rfl, rfl⟩)
    | (go_at_call 127; refine (read_any (Sp.atV V i) _ HSZ.out).mono ?_; rintro e w3 ⟨r, rfl, hr, hb3⟩; rw [readV_is])
    | (refine wpList_store_row rfl PageT _ _ rfl w.heap.size _ rfl rfl PageT _ (HZ2.out.below hb3 HZ2.out.lt) (by kernel_rfl) rfl (pageV_all0 (readPg (Sp.atV V i)) r) ?_))
  obtain ⟨⟨z0, z1, z2, z3, z4, z5, z6, z7, z8, z9, z10, z11, z12, z13⟩, _⟩ := ((HZ2.out.below hb3 HZ2.out.lt).row (ds := #[.int .i64 (readPg (Sp.atV V i)).kind, .slice r.I (readPg (Sp.atV V i)).items.length r.i, .slice r.K (readPg (Sp.atV V i)).keys.length r.k, .slice r.D (readPg (Sp.atV V i)).kids.length r.d, .string ⟨(readPg (Sp.atV V i)).text.toArray⟩, .slice r.V (readPg (Sp.atV V i)).vals.length r.v, .slice r.F (readPg (Sp.atV V i)).free.length r.f, .int .i64 (readPg (Sp.atV V i)).next, .int .u64 (readPg (Sp.atV V i)).mt.txn, .int .i64 (readPg (Sp.atV V i)).mt.main.page, .int .i64 (readPg (Sp.atV V i)).mt.main.count, .int .i64 (readPg (Sp.atV V i)).mt.main.flags, .int .i64 (readPg (Sp.atV V i)).mt.free, .int .i64 (readPg (Sp.atV V i)).mt.last])).at14
  have hge : w.heap.size ≤ W2.heap.size := HAL2.out.size
  have hb4 : Below w.heap.size w (w3.setRow w.heap.size (pageV (readPg (Sp.atV V i)) r).toArray) := below_setRow (HAL2.out.trans (hb3.mono hge)) (Nat.le_refl _) _
  refine bodyPost_ret (v := .tuple #[.agg (pageV (readPg (Sp.atV V i)) r).toArray, readE (Sp.atV V i)]) (by simp [results, Tryz.results109, go_sem, pageV, mtV, z0, z1, z2, z3, z4, z5, z6, z7, z8, z9, z10, z11, z12, z13]) rfl ⟨r, by rw [readV_is], fun M hM => ?_, hb4⟩
  have hz2 : w.heap.size < W2.heap.size := HZ2.out.lt
  have h1 := hr (fun k => M k ∨ k = w.heap.size) (fun k hk => by
    rintro (h | h)
    · exact hM k (by omega) h
    · omega)
  exact (h1.chg ((chg_setRow0 w3 w.heap.size _).mono (fun k _ h => .inr h))).anti (fun k h => .inl h)
end Go.Proofs.YtmcpkhknjdiocaaGreat
namespace Go.Proofs.YtmcpkhknjdiocaaGreat
open Go.RowKit
attribute [local go_sem low] mk_extract
attribute [local go_sem] After.cell After.frozen mk_extract_end ByteArray.mk_append_mk
theorem is_typeOf (v : Value) (w : World) : (Extern.ReflectliteType.typeOf #[.iface ErrT v]).run Tryz.prog w = .ok (.iface 152 (.agg #[typeHandle Tryz.prog ErrT])) w := by kernel_rfl
theorem is_comparable (w : World) : ((Extern.ReflectliteType.method fun t => do Extern.Rtype.noPackHeld "Comparable" t; (fun a => Value.bool a.comparable) <$> typeInfo t) #[.agg #[typeHandle Tryz.prog ErrT]]).run Tryz.prog w = .ok (.bool true) w := by kernel_rfl
theorem is_method (v : Value) (w : World) : (Go.method 111 152 v "Comparable").run Tryz.prog w = .ok (209, v) w := by kernel_rfl
theorem is_comp : (Tryz.prog.info? ErrT).map (·.comparable) = some true := by kernel_rfl
theorem is_noIs (v : Value) (xT : TypeId) (w : World) : (Instr.typeAssert (.iface ErrT v) xT 154 true).run Tryz.prog w = .ok (.tuple #[.nilIface, .bool false]) w := run_typeAssert_lacksB Tryz.underlying154 (by kernel_rfl) (by kernel_rfl) v xT w
theorem is_noUn (v : Value) (xT : TypeId) (w : World) : (Instr.typeAssert (.iface ErrT v) xT 157 true).run Tryz.prog w = .ok (.tuple #[.nilIface, .bool false]) w := run_typeAssert_lacksB Tryz.underlying157 (by kernel_rfl) (by kernel_rfl) v xT w
theorem is_noUns (v : Value) (xT : TypeId) (w : World) : (Instr.typeAssert (.iface ErrT v) xT 159 true).run Tryz.prog w = .ok (.tuple #[.nilIface, .bool false]) w := run_typeAssert_lacksB Tryz.underlying159 (by kernel_rfl) (by kernel_rfl) v xT w
set_option maxRecDepth 100000 in
set_option maxHeartbeats 1600000 in
theorem errIs_nil (b : Int) (w : World) : Calls Tryz.prog 22 #[.nilIface, .iface ErrT (.int .i64 b)] w fun e w' => e = .returned (.bool false) ∧ w' = w := by
  have hn := run_eql_iface_nil_left (P := Tryz.prog) w ErrT (.int .i64 b) Tryz.underlying31
  go_enter Tryz.func22, Tryz.ntmps22
  go_wp2
  go_ret
  exact ⟨rfl, rfl⟩
set_option maxRecDepth 100000 in
set_option maxHeartbeats 1600000 in
theorem errIs_same (a : Int) (w : World) : Calls Tryz.prog 22 #[.iface ErrT (.int .i64 a), .iface ErrT (.int .i64 a)] w fun e w' => e = .returned (.bool true) ∧ w' = w := by
  have h8 := @run_callFunc_extern Tryz.prog 45 _ Extern.ReflectliteType.typeOf Tryz.func45 (by kernel_rfl) (by kernel_rfl) (by kernel_rfl) (by kernel_rfl)
  have h32 := @run_callFunc_extern Tryz.prog 209 _ (Extern.ReflectliteType.method fun t => do Extern.Rtype.noPackHeld "Comparable" t; pure (.bool (← typeInfo t).comparable)) Tryz.func209 (by kernel_rfl) (by kernel_rfl) (by kernel_rfl) (by kernel_rfl)
  have tT := is_typeOf
  have cT := is_comparable
  have mR := is_method
  have heq : (binOp .eql 31 (.iface ErrT (.int .i64 a)) (.iface ErrT (.int .i64 a))).run Tryz.prog w = .ok (.bool true) w := by
    have h := Lib.run_eql_iface_int (P := Tryz.prog) (k := .i64) w a a Tryz.underlying31 is_comp Tryz.underlying51
    simpa using h
  go_enter Tryz.func22, Tryz.ntmps22
  go_wp2
  refine wp_loop_rounds 1 ?_
  rw [rounds_succ]
  go_wp2
  go_ret
  exact ⟨rfl, rfl⟩
set_option maxRecDepth 100000 in
set_option maxHeartbeats 1600000 in
theorem errIs_other (a b : Int) (hab : a ≠ b) (w : World) : Calls Tryz.prog 22 #[.iface ErrT (.int .i64 a), .iface ErrT (.int .i64 b)] w fun e w' => e = .returned (.bool false) ∧ w' = w := by
  have h8 := @run_callFunc_extern Tryz.prog 45 _ Extern.ReflectliteType.typeOf Tryz.func45 (by kernel_rfl) (by kernel_rfl) (by kernel_rfl) (by kernel_rfl)
  have h32 := @run_callFunc_extern Tryz.prog 209 _ (Extern.ReflectliteType.method fun t => do Extern.Rtype.noPackHeld "Comparable" t; pure (.bool (← typeInfo t).comparable)) Tryz.func209 (by kernel_rfl) (by kernel_rfl) (by kernel_rfl) (by kernel_rfl)
  have tT := is_typeOf
  have cT := is_comparable
  have mR := is_method
  have nE := is_noIs
  have uE := is_noUn
  have vE := is_noUns
  have heq : (binOp .eql 31 (.iface ErrT (.int .i64 a)) (.iface ErrT (.int .i64 b))).run Tryz.prog w = .ok (.bool false) w := by
    have h := Lib.run_eql_iface_int (P := Tryz.prog) (k := .i64) w a b Tryz.underlying31 is_comp Tryz.underlying51
    rw [h, beq_eq_false_iff_ne.2 hab]
  clear hab
  go_enter Tryz.func22, Tryz.ntmps22
  go_wp2
  refine wp_loop_rounds 1 ?_
  rw [rounds_succ]
  go_wp2
  go_ret
  exact ⟨rfl, rfl⟩
end Go.Proofs.YtmcpkhknjdiocaaGreat
namespace Go.Proofs.YtmcpkhknjdiocaaGreat
open Go.RowKit
attribute [local go_sem low] mk_extract
attribute [local go_sem] After.cell After.frozen mk_extract_end ByteArray.mk_append_mk
namespace Sp
theorem lt_eq (a b : Txt) : lt a b = decide (a < b) := bytesLess_eq a b
theorem lt_irr (a : Txt) : lt a a = false := by
  rw [lt_eq]
  exact decide_eq_false (List.lt_irrefl a)
theorem lt_trans {a b c : Txt} (h1 : lt a b = true) (h2 : lt b c = true) : lt a c = true := by
  rw [lt_eq] at *
  exact decide_eq_true (List.lt_trans (of_decide_eq_true h1) (of_decide_eq_true h2))
theorem lt_asymm {a b : Txt} (h : lt a b = true) : lt b a = false := by
  rcases hb : lt b a with _ | _
  · rfl
  · exact absurd (lt_trans h hb) (by rw [lt_irr]; simp)
theorem lt_tri (a b : Txt) : lt a b = true ∨ a = b ∨ lt b a = true := by
  rw [lt_eq, lt_eq]
  by_cases h1 : a < b
  · exact .inl (decide_eq_true h1)
  · by_cases h2 : b < a
    · exact .inr (.inr (decide_eq_true h2))
    · exact .inr (.inl (List.le_antisymm (List.not_lt.1 h2) (List.not_lt.1 h1)))
theorem lt_nilF (a : Txt) : lt a [] = false := by
  unfold lt Op.bytesLess
  rfl
/-- An item put into a leaf's. -/
def insIt (x : Item) : List Item → List Item
  | [] => [x]
  | y :: l => if lt y.key x.key then y :: insIt x l else if y.key = x.key then x :: l else x :: y :: l
/-- Items whose keys rise. -/
def Rising (l : List Item) : Prop := l.Pairwise fun a b => lt a.key b.key = true
theorem insIt_len (x : Item) : ∀ l : List Item, l.length ≤ (insIt x l).length ∧ (insIt x l).length ≤ l.length + 1
  | [] => by simp [insIt]
  | y :: l => by
    have := insIt_len x l
    unfold insIt
    split
    · simp; omega
    · split <;> simp
theorem mem_insIt {x y : Item} : ∀ {l : List Item}, y ∈ insIt x l → y = x ∨ y ∈ l
  | [], h => by simpa [insIt] using h
  | z :: l, h => by
    unfold insIt at h
    split at h
    · rcases List.mem_cons.1 h with h | h
      · exact .inr (by simp [h])
      · rcases mem_insIt h with h | h
        · exact .inl h
        · exact .inr (by simp [h])
    · split at h
      · rcases List.mem_cons.1 h with h | h
        · exact .inl h
        · exact .inr (by simp [h])
      · rcases List.mem_cons.1 h with h | h
        · exact .inl h
        · exact .inr h
theorem insIt_rising (x : Item) : ∀ {l : List Item}, Rising l → Rising (insIt x l)
  | [], _ => by simp [insIt, Rising]
  | y :: l, h => by
    obtain ⟨h1, h2⟩ := List.pairwise_cons.1 h
    unfold insIt
    split
    · rename_i hy
      refine List.pairwise_cons.2 ⟨fun z hz => ?_, insIt_rising x h2⟩
      rcases mem_insIt hz with rfl | hz
      · exact hy
      · exact h1 z hz
    · rename_i hy
      split
      · rename_i he
        exact List.pairwise_cons.2 ⟨fun z hz => by rw [← he]; exact h1 z hz, h2⟩
      · rename_i he
        have hxy : lt x.key y.key = true := by
          rcases lt_tri y.key x.key with h' | h' | h'
          · exact absurd h' hy
          · exact absurd h' he
          · exact h'
        exact List.pairwise_cons.2 ⟨fun z hz => by
          rcases List.mem_cons.1 hz with rfl | hz
          · exact hxy
          · exact lt_trans hxy (h1 z hz), h⟩
/-- Put into one of two rows, where it belongs. -/
theorem insIt_left {x : Item} : ∀ {l r : List Item}, (∀ y ∈ r, lt x.key y.key = true) → insIt x (l ++ r) = insIt x l ++ r
  | [], [], _ => rfl
  | [], y :: r, h => by
    have hy := h y (by simp)
    show insIt x (y :: r) = [x] ++ y :: r
    unfold insIt
    rw [if_neg (by rw [lt_asymm hy]; simp), if_neg (fun e => by rw [e, lt_irr] at hy; simp at hy)]
    rfl
  | z :: l, r, h => by
    rw [List.cons_append]
    unfold insIt
    split
    · rw [insIt_left h]; rfl
    · split <;> rfl
theorem insIt_right {x : Item} : ∀ {l r : List Item}, (∀ y ∈ l, lt y.key x.key = true) → insIt x (l ++ r) = l ++ insIt x r
  | [], _, _ => rfl
  | z :: l, r, h => by
    rw [List.cons_append]
    show insIt x (z :: (l ++ r)) = z :: (l ++ insIt x r)
    rw [insIt, if_pos (h z (by simp)), insIt_right fun y hy => h y (by simp [hy])]
end Sp
end Go.Proofs.YtmcpkhknjdiocaaGreat
