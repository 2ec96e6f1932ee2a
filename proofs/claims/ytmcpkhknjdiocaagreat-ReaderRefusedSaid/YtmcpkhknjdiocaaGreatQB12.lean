/- The document's Bytes. The document's metas: a new file's, its bytes. Readers' steps: the laws' own file, and what they ask ahead of all else. Readers' steps: what the laws ask ahead of all else. errors.Is where the target is an Errno. Readers' steps: what a reader sees of other metas, of none: the plain side. Readers' steps: another meta written, or the metas spoilt. -/
import Derived.Test.YtmcpkhknjdiocaaGreatQB11
import Derived.Lib.IfaceEq
import Derived.LaidEql
import Derived.Stop.Asserts
import Derived.RowKitTokens
set_option linter.unusedSimpArgs false
set_option linter.unusedVariables false
namespace Go.Proofs.YtmcpkhknjdiocaaGreat
open Go.RowKit
attribute [local go_sem low] mk_extract
attribute [local go_sem] After.cell After.frozen mk_extract_end ByteArray.mk_append_mk
attribute [local go_sem] Sp.le8_length Sp.rootB_len
theorem Sp.body_le {p : Sp.Page} (h : Sp.isPage p = true) : (Sp.body p).length ≤ 1300000 := by
  have := Sp.partsB_le h
  rw [Sp.body_def, List.length_append, Sp.le8_length]
  omega
theorem Sp.bytes_yes {p : Sp.Page} (h : Sp.isPage p = true) {E : Txt} (hE : E = Sp.body p) : Sp.le8 (Sp.sum E) ++ E = Sp.bytes p := by
  subst hE
  simp [Sp.bytes, h]
set_option maxRecDepth 100000 in
set_option maxHeartbeats 12800000 in
theorem dBytes_any (p : Sp.Page) (r : Refs) {M : Nat → Prop} (w : World) (hp : PageRd w M p r) :
    Calls Tryz.prog 43 #[.agg (pageV p r).toArray] w fun e w' => e = .returned (.string ⟨(Sp.bytes p).toArray⟩) ∧ Below w.heap.size w w' := by
  have Hp := Lib.hid hp
  clear hp
  have hsz : w.heap.size < w.heap.size + 1 := by omega
  have Blk0 := Lib.hid (Blk.new w PageT (pageV p r).toArray)
  have HI := Lib.hid (fun w h => dIs_any (M := M) p r w h)
  simp only [pageV] at *
  cases hi : Sp.isPage p
  · rw [hi] at HI
    have HBN : Hid (Sp.bytes p = []) := Lib.hid (Sp.bytes_no hi)
    clear hi
    go_enter Tryz.func43, Tryz.ntmps43
    go_upto_region 1 with fail
    go_wp2_with (first
      | (go_at_call 63; refine (HI.out _ (Hp.out.go (by (repeat (first | (with_reducible exact Below.refl _ _) | (with_reducible assumption) | (refine below_step (by assumption) (by first | omega | (simp; done) | (simp; omega)) ?_) | (with_reducible refine Below.alloc ?_ (by first | omega | (simp; done) | (simp; omega)) _) | (with_reducible refine Below.drew ?_) | (with_reducible refine below_drewN ?_ _) | (with_reducible refine Below.setCell ?_ (by first | omega | (simp; done) | (simp; omega)) _)))))).mono ?_; rintro e w2 ⟨rfl, hb2⟩)
      | (refine wpList_row PageT _ rfl w.heap.size rfl rfl PageT _ (0, 0) _ Blk0.out Tryz.underlying108 rfl rfl ?_))
    go_ret
    exact ⟨by rw [HBN.out]; rfl, by (repeat (first | (with_reducible exact Below.refl _ _) | (with_reducible assumption) | (refine below_step (by assumption) (by first | omega | (simp; done) | (simp; omega)) ?_) | (with_reducible refine Below.alloc ?_ (by first | omega | (simp; done) | (simp; omega)) _) | (with_reducible refine Below.drew ?_) | (with_reducible refine below_drewN ?_ _) | (with_reducible refine Below.setCell ?_ (by first | omega | (simp; done) | (simp; omega)) _)))⟩
  · rw [hi] at HI
    have HYES := Lib.hid (fun E => Sp.bytes_yes (E := E) hi)
    have HBL := Lib.hid (Sp.body_le hi)
    have hkd := Sp.isPage_kind hi
    have hkr : 1 ≤ p.kind ∧ p.kind ≤ 6 := by rcases hkd with h | h | h | h | h | h <;> omega
    have HKD := Lib.hid hkd
    clear hi hkd
    go_enter Tryz.func43, Tryz.ntmps43
    go_upto_region 3 with (first
      | (go_at_call 63; refine (HI.out _ (Hp.out.go (by (repeat (first | (with_reducible exact Below.refl _ _) | (with_reducible assumption) | (refine below_step (by assumption) (by first | omega | (simp; done) | (simp; omega)) ?_) | (with_reducible refine Below.alloc ?_ (by first | omega | (simp; done) | (simp; omega)) _) | (with_reducible refine Below.drew ?_) | (with_reducible refine below_drewN ?_ _) | (with_reducible refine Below.setCell ?_ (by first | omega | (simp; done) | (simp; omega)) _)))))).mono ?_; rintro e w2 ⟨rfl, hb2⟩)
      | (refine wpList_row PageT _ rfl w.heap.size rfl rfl PageT _ (0, 0) _ Blk0.out Tryz.underlying108 rfl rfl ?_))
    have hB : Below w.heap.size w w2 := by (repeat (first | (with_reducible exact Below.refl _ _) | (with_reducible assumption) | (refine below_step (by assumption) (by first | omega | (simp; done) | (simp; omega)) ?_) | (with_reducible refine Below.alloc ?_ (by first | omega | (simp; done) | (simp; omega)) _) | (with_reducible refine Below.drew ?_) | (with_reducible refine below_drewN ?_ _) | (with_reducible refine Below.setCell ?_ (by first | omega | (simp; done) | (simp; omega)) _)))
    have hBk := Blk0.out.below hb2 (by simp)
    have hsz : w.heap.size < w2.heap.size := by have := hb2.size; simp at this; omega
    obtain ⟨⟨c0, c1, c2, c3, c4, c5, c6, c7, c8, c9, c10, c11, c12, c13⟩, _⟩ := hBk.at14
    clear hb2 hBk Blk0 HI
    obtain ⟨w0, rfl⟩ : ∃ W, W = w2 := ⟨_, rfl⟩
    have hsz'' := hsz
    go_upto_region 4 with (go_at_call 64; refine (dnum_any _ (by omega) (by omega) _).mono ?_; rintro e w2 ⟨rfl, hb2⟩; have hz := hb2.size; have hsz : w.heap.size < w2.heap.size := Nat.lt_of_lt_of_le (by first | exact hsz | omega | (simp; done) | (simp; omega)) hz; obtain ⟨hc2, hf2⟩ := bcell hb2)
    replace c0 := (hc2 _ _ hsz'').trans c0
    replace c1 := (hc2 _ _ hsz'').trans c1
    replace c2 := (hc2 _ _ hsz'').trans c2
    replace c3 := (hc2 _ _ hsz'').trans c3
    replace c4 := (hc2 _ _ hsz'').trans c4
    replace c5 := (hc2 _ _ hsz'').trans c5
    replace c6 := (hc2 _ _ hsz'').trans c6
    replace c7 := (hc2 _ _ hsz'').trans c7
    replace c8 := (hc2 _ _ hsz'').trans c8
    replace c9 := (hc2 _ _ hsz'').trans c9
    replace c10 := (hc2 _ _ hsz'').trans c10
    replace c11 := (hc2 _ _ hsz'').trans c11
    replace c12 := (hc2 _ _ hsz'').trans c12
    replace c13 := (hc2 _ _ hsz'').trans c13
    replace hB : Below w.heap.size w w2 := by (repeat (first | (with_reducible exact Below.refl _ _) | (with_reducible assumption) | (refine below_step (by assumption) (by first | omega | (simp; done) | (simp; omega)) ?_) | (with_reducible refine Below.alloc ?_ (by first | omega | (simp; done) | (simp; omega)) _) | (with_reducible refine Below.drew ?_) | (with_reducible refine below_drewN ?_ _) | (with_reducible refine Below.setCell ?_ (by first | omega | (simp; done) | (simp; omega)) _)))
    clear hb2 hc2 hf2 hz hsz''
    obtain ⟨w1, rfl⟩ : ∃ W, W = w2 := ⟨_, rfl⟩
    rcases HKD.out with ⟨hk, hi⟩ | ⟨hk, hi⟩ | hk | ⟨hk, hi⟩ | ⟨hk, hi⟩ | ⟨hk, hi⟩
    · as_aux_lemma =>
        have e1 : (p.kind == 1) = true := beq_iff_eq.2 hk
        have HK := Lib.hid (Sp.partsB1 hk)
        obtain ⟨hl4, hall⟩ := Sp.isLeaf_rng hi
        have HA := Lib.hid hall
        have HIT := Lib.hid (Hp.out.items.go hB)
        clear hk hi hall HKD c2 c3 c4 c5 c6 c7 c8 c9 c10 c11 c12 c13
        have hsz'' := hsz
        go_upto_region 7 with (go_at_call 64; refine (dnum_any _ (by omega) (by omega) _).mono ?_; rintro e w2 ⟨rfl, hb2⟩; have hz := hb2.size; have hsz : w.heap.size < w2.heap.size := Nat.lt_of_lt_of_le (by first | exact hsz | omega | (simp; done) | (simp; omega)) hz; obtain ⟨hc2, hf2⟩ := bcell hb2)
        replace c1 := (hc2 _ _ hsz'').trans c1
        have hb3 : Below w1.heap.size w1 w2 := hb2
        clear hc2 hf2 hb2 c0 hz
        go_wp2_with fail
        go_loopw [3, 4] (fun o i wr => ∃ k : Nat, k ≤ p.items.length ∧ i = .int .i64 k ∧ o = .string ⟨((Sp.le8 p.kind ++ Sp.le8 p.items.length) ++ Sp.itemsB (p.items.take k)).toArray⟩ ∧ Below w2.heap.size w2 wr) (fun _ i _ => p.items.length - (intOf i).toNat)
        case atStart => exact ⟨0, Nat.zero_le _, rfl, by simp [Sp.itemsB], Below.refl _ _⟩
        case round =>
          obtain ⟨k, hk, rfl, rfl, hb⟩ := hrel
          have hz4 := hb.size
          have hz3 := hb3.size
          have d1 := (hb.cell (p := ⟨w.heap.size, 1, none⟩) hsz).trans c1
          have hszw : w.heap.size < wr.heap.size := by omega
          by_cases hlt : k < p.items.length
          · obtain ⟨b, off, hA, hbl, hc⟩ := HIT.out.at_ hlt
            obtain ⟨V2, cv2, hit, htx⟩ := hc k hlt
            rw [hA] at d1
            clear hc hA
            have hb5 := hb3.trans (hb.mono (by omega))
            have hit := hit.keep (w' := wr) fun j => hb5.cell (p := ⟨_, _, none⟩) hbl
            have Ht := Lib.hid (htx.go hb5)
            obtain ⟨h0, h1, h2, h3, h4, h5, h6, h7, h8, h9⟩ := hit
            have HII := Lib.hid (HA.out k hlt)
            have hbw : b < wr.heap.size := by omega
            have HS := Lib.hid (Sp.itemsB_succ p.items k hlt)
            have hle := Sp.itemsB_le HA.out k (by omega)
            have hle2 := Sp.itemB_le (Sp.isItem_rng HII.out).2.2.2.2.2.2.2.2.1
            generalize Sp.itemsB (p.items.take k) = t at *
            generalize p.items.getD k Sp.item0 = x at *
            clear htx
            go_wp2_with (go_at_call 65; refine (ditemB_any x V2 cv2 _ Ht.out HII.out).mono ?_; rintro e w6 ⟨rfl, hb6⟩; have hz6 := hb6.size)
            exact ⟨⟨k + 1, by omega, by go_num, by rw [HS.out] <;> simp, by (repeat (first | (with_reducible exact Below.refl _ _) | (with_reducible assumption) | (refine below_step (by assumption) (by first | omega | (simp; done) | (simp; omega)) ?_) | (with_reducible refine Below.alloc ?_ (by first | omega | (simp; done) | (simp; omega)) _) | (with_reducible refine Below.drew ?_) | (with_reducible refine below_drewN ?_ _) | (with_reducible refine Below.setCell ?_ (by first | omega | (simp; done) | (simp; omega)) _)))⟩, by simp [intOf]; omega⟩
          · have htk : p.items.take k = p.items := List.take_of_length_le (by omega)
            have hfull := Sp.itemsB_le HA.out p.items.length (Nat.le_refl _)
            rw [List.take_of_length_le (Nat.le_refl _)] at hfull
            have HE := Lib.hid (show Sp.le8 p.kind ++ (Sp.le8 p.items.length ++ Sp.itemsB p.items) = Sp.body p by rw [Sp.body_def, HK.out])
            have hkl : k = p.items.length := by omega
            rw [htk]
            clear htk
            go_wp2_with (first
          | (go_at_call 70; (try rw [List.append_assoc]); refine (dSum_any _ _ (by rw [HE.out]; have := HBL.out; omega)).mono ?_; rintro e w8 ⟨rfl, rfl⟩)
          | (go_at_call 68; refine (dNum_any _ (Sp.sum_range _).1 (Sp.sum_range _).2 _).mono ?_; rintro e w9 ⟨rfl, hb9⟩; have hz9 := hb9.size))
            go_ret
            exact ⟨by rw [← HYES.out _ HE.out]; simp, by (repeat (first | (with_reducible exact Below.refl _ _) | (with_reducible assumption) | (refine below_step (by assumption) (by first | omega | (simp; done) | (simp; omega)) ?_) | (with_reducible refine Below.alloc ?_ (by first | omega | (simp; done) | (simp; omega)) _) | (with_reducible refine Below.drew ?_) | (with_reducible refine below_drewN ?_ _) | (with_reducible refine Below.setCell ?_ (by first | omega | (simp; done) | (simp; omega)) _)))⟩
    · as_aux_lemma =>
        have e1 : (p.kind == 1) = false := by rw [beq_eq_false_iff_ne]; omega
        have e2 : (p.kind == 2) = true := beq_iff_eq.2 hk
        have HK := Lib.hid (Sp.partsB2 hk)
        obtain ⟨hl4, hkd, hall⟩ := Sp.isBranch_rng hi
        have HA := Lib.hid hall
        have HKY := Lib.hid (Hp.out.keys.go hB)
        have HDY := Lib.hid (Hp.out.kids.go hB)
        have HKDD := Lib.hid hkd
        clear hk hi hall HKD hkd c1 c4 c5 c6 c7 c8 c9 c10 c11 c12 c13
        have hsz'' := hsz
        go_upto_region 13 with (go_at_call 64; refine (dnum_any _ (by omega) (by omega) _).mono ?_; rintro e w2 ⟨rfl, hb2⟩; have hz := hb2.size; have hsz : w.heap.size < w2.heap.size := Nat.lt_of_lt_of_le (by first | exact hsz | omega | (simp; done) | (simp; omega)) hz; obtain ⟨hc2, hf2⟩ := bcell hb2)
        replace c2 := (hc2 _ _ hsz'').trans c2
        replace c3 := (hc2 _ _ hsz'').trans c3
        have hb3 : Below w1.heap.size w1 w2 := hb2
        clear hc2 hf2 hb2 c0 hz
        go_wp2_with fail
        go_loopw [3, 5] (fun o i wr => ∃ k : Nat, k ≤ p.kids.length ∧ i = .int .i64 k ∧ o = .string ⟨((Sp.le8 p.kind ++ Sp.le8 p.kids.length) ++ Sp.kidsTo p.keys p.kids k).toArray⟩ ∧ Below w2.heap.size w2 wr) (fun _ i _ => p.kids.length - (intOf i).toNat)
        case atStart => exact ⟨0, Nat.zero_le _, rfl, by simp [Sp.kidsTo], Below.refl _ _⟩
        case round =>
          obtain ⟨k, hk, rfl, rfl, hb⟩ := hrel
          have hz4 := hb.size
          have hz3 := hb3.size
          have d2 := (hb.cell (p := ⟨w.heap.size, 2, none⟩) hsz).trans c2
          have d3 := (hb.cell (p := ⟨w.heap.size, 3, none⟩) hsz).trans c3
          have hszw : w.heap.size < wr.heap.size := by omega
          by_cases hlt : k < p.kids.length
          · have hltk : k < p.keys.length := by have := HKDD.out; omega
            obtain ⟨db, do_, hA2, hdb, hdc⟩ := HDY.out.at_ hlt
            obtain ⟨kb, ko, hA, hkb, hkc⟩ := HKY.out.at_ hltk
            rw [hA] at d2
            rw [hA2] at d3
            have hb5 := hb3.trans (hb.mono (by omega))
            have hdc0 := (hb5.cell (p := ⟨_, _, none⟩) hdb).trans (hdc k hlt)
            have hkc0 := (hb5.cell (p := ⟨_, _, none⟩) hkb).trans (hkc k hltk)
            have hkbw : kb < wr.heap.size := by omega
            have hdbw : db < wr.heap.size := by omega
            obtain ⟨hu0, hu1⟩ := HA.out k hlt
            clear hdc hkc hA hA2
            have HS := Lib.hid (Sp.kidsTo_succ p.keys p.kids k)
            have HD := Lib.hid (Sp.kidB_def p.keys p.kids k)
            have hle := Sp.kidsTo_le p.keys p.kids k
            have hte := Sp.text_le (p.keys.getD k [])
            generalize Sp.kidB p.keys p.kids k = kb2 at *
            generalize Sp.kidsTo p.keys p.kids k = t at *
            generalize p.kids.getD k 0 = u at *
            generalize p.keys.getD k [] = s at *
            go_wp2
            refine wp_region_after (by kernel_rfl) (by kernel_rfl) (wr.heap.size) ?_
            repeat (go_big_quiet_step (first | (go_at_call 66; exact after_call (Nat.le_refl _) (dText_any _ _)) | (go_at_call 64; exact after_call (Nat.le_refl _) (dnum_any _ (by omega) (by omega) _))))
            refine wpQuiet_nil ?_
            intro w6 hb6
            go_wp2
            exact ⟨⟨k + 1, by omega, by go_num, by rw [HS.out, HD.out] <;> simp, by (repeat (first | (with_reducible exact Below.refl _ _) | (with_reducible assumption) | (refine below_step (by assumption) (by first | omega | (simp; done) | (simp; omega)) ?_) | (with_reducible refine Below.alloc ?_ (by first | omega | (simp; done) | (simp; omega)) _) | (with_reducible refine Below.drew ?_) | (with_reducible refine below_drewN ?_ _) | (with_reducible refine Below.setCell ?_ (by first | omega | (simp; done) | (simp; omega)) _)))⟩, by simp [intOf]; omega⟩
          · have hkl : k = p.kids.length := by omega
            subst hkl
            have hle := Sp.kidsTo_le p.keys p.kids p.kids.length
            have HE := Lib.hid (show Sp.le8 p.kind ++ (Sp.le8 p.kids.length ++ Sp.kidsTo p.keys p.kids p.kids.length) = Sp.body p by rw [Sp.body_def, HK.out])
            go_wp2_with (first
          | (go_at_call 70; (try rw [List.append_assoc]); refine (dSum_any _ _ (by rw [HE.out]; have := HBL.out; omega)).mono ?_; rintro e w8 ⟨rfl, rfl⟩)
          | (go_at_call 68; refine (dNum_any _ (Sp.sum_range _).1 (Sp.sum_range _).2 _).mono ?_; rintro e w9 ⟨rfl, hb9⟩; have hz9 := hb9.size))
            go_ret
            exact ⟨by rw [← HYES.out _ HE.out]; simp, by (repeat (first | (with_reducible exact Below.refl _ _) | (with_reducible assumption) | (refine below_step (by assumption) (by first | omega | (simp; done) | (simp; omega)) ?_) | (with_reducible refine Below.alloc ?_ (by first | omega | (simp; done) | (simp; omega)) _) | (with_reducible refine Below.drew ?_) | (with_reducible refine below_drewN ?_ _) | (with_reducible refine Below.setCell ?_ (by first | omega | (simp; done) | (simp; omega)) _)))⟩
    · as_aux_lemma =>
        have e1 : (p.kind == 1) = false := by rw [beq_eq_false_iff_ne]; omega
        have e2 : (p.kind == 2) = false := by rw [beq_eq_false_iff_ne]; omega
        have e3 : (p.kind == 3) = true := beq_iff_eq.2 hk
        have HK := Lib.hid (Sp.partsB3 hk)
        have hte := Sp.text_le p.text
        clear hk HKD
        go_wp2_with (first
          | ((go_at_call 66; refine (dText_any _ _).mono ?_; rintro e w2 ⟨rfl, hb2⟩; have hz := hb2.size; have hsz : w.heap.size < w2.heap.size := Nat.lt_of_lt_of_le (by first | exact hsz | omega | (simp; done) | (simp; omega)) hz; obtain ⟨hc2, hf2⟩ := bcell hb2); have HE := Lib.hid (show Sp.le8 p.kind ++ Sp.text p.text = Sp.body p by rw [Sp.body_def, HK.out]))
          | (go_at_call 70; refine (dSum_any _ _ (by rw [HE.out]; have := HBL.out; omega)).mono ?_; rintro e w8 ⟨rfl, rfl⟩)
          | (go_at_call 68; refine (dNum_any _ (Sp.sum_range _).1 (Sp.sum_range _).2 _).mono ?_; rintro e w9 ⟨rfl, hb9⟩; have hz9 := hb9.size))
        go_ret
        exact ⟨by rw [← HYES.out _ HE.out]; simp, by (repeat (first | (with_reducible exact Below.refl _ _) | (with_reducible assumption) | (refine below_step (by assumption) (by first | omega | (simp; done) | (simp; omega)) ?_) | (with_reducible refine Below.alloc ?_ (by first | omega | (simp; done) | (simp; omega)) _) | (with_reducible refine Below.drew ?_) | (with_reducible refine below_drewN ?_ _) | (with_reducible refine Below.setCell ?_ (by first | omega | (simp; done) | (simp; omega)) _)))⟩
    · as_aux_lemma =>
        have e1 : (p.kind == 1) = false := by rw [beq_eq_false_iff_ne]; omega
        have e2 : (p.kind == 2) = false := by rw [beq_eq_false_iff_ne]; omega
        have e3 : (p.kind == 3) = false := by rw [beq_eq_false_iff_ne]; omega
        have e4 : (p.kind == 4) = true := beq_iff_eq.2 hk
        have HK := Lib.hid (Sp.partsB4 hk)
        have hv := Sp.isVals_rng hi
        have hvb := Sp.valsB_le p.vals
        clear hk hi HKD
        go_wp2_with (first
          | ((go_at_call 67; refine (dtexts_any p.vals r.V r.v _ (Hp.out.vals.go (by (repeat (first | (with_reducible exact Below.refl _ _) | (with_reducible assumption) | (refine below_step (by assumption) (by first | omega | (simp; done) | (simp; omega)) ?_) | (with_reducible refine Below.alloc ?_ (by first | omega | (simp; done) | (simp; omega)) _) | (with_reducible refine Below.drew ?_) | (with_reducible refine below_drewN ?_ _) | (with_reducible refine Below.setCell ?_ (by first | omega | (simp; done) | (simp; omega)) _))))) (by omega)).mono ?_; rintro e w2 ⟨rfl, hb2⟩; have hz := hb2.size; have hsz : w.heap.size < w2.heap.size := Nat.lt_of_lt_of_le (by first | exact hsz | omega | (simp; done) | (simp; omega)) hz; obtain ⟨hc2, hf2⟩ := bcell hb2); have HE := Lib.hid (show Sp.le8 p.kind ++ Sp.valsB p.vals = Sp.body p by rw [Sp.body_def, HK.out]))
          | (go_at_call 70; refine (dSum_any _ _ (by rw [HE.out]; have := HBL.out; omega)).mono ?_; rintro e w8 ⟨rfl, rfl⟩)
          | (go_at_call 68; refine (dNum_any _ (Sp.sum_range _).1 (Sp.sum_range _).2 _).mono ?_; rintro e w9 ⟨rfl, hb9⟩; have hz9 := hb9.size))
        go_ret
        exact ⟨by rw [← HYES.out _ HE.out]; simp, by (repeat (first | (with_reducible exact Below.refl _ _) | (with_reducible assumption) | (refine below_step (by assumption) (by first | omega | (simp; done) | (simp; omega)) ?_) | (with_reducible refine Below.alloc ?_ (by first | omega | (simp; done) | (simp; omega)) _) | (with_reducible refine Below.drew ?_) | (with_reducible refine below_drewN ?_ _) | (with_reducible refine Below.setCell ?_ (by first | omega | (simp; done) | (simp; omega)) _)))⟩
    · as_aux_lemma =>
        have e1 : (p.kind == 1) = false := by rw [beq_eq_false_iff_ne]; omega
        have e2 : (p.kind == 2) = false := by rw [beq_eq_false_iff_ne]; omega
        have e3 : (p.kind == 3) = false := by rw [beq_eq_false_iff_ne]; omega
        have e4 : (p.kind == 4) = false := by rw [beq_eq_false_iff_ne]; omega
        have e5 : (p.kind == 5) = true := beq_iff_eq.2 hk
        have HK := Lib.hid (Sp.partsB5 hk)
        obtain ⟨hl20, hn0, hn1, hall⟩ := Sp.isFree_rng hi
        have HA := Lib.hid hall
        have Hf := Lib.hid (Hp.out.free.go hB)
        clear hk hi hall HKD c1 c2 c3 c4 c5 c8 c9 c10 c11 c12 c13
        have hsz'' := hsz
        go_upto_region 23 with (go_at_call 64; refine (dnum_any _ (by omega) (by omega) _).mono ?_; rintro e w2 ⟨rfl, hb2⟩; have hz := hb2.size; have hsz : w.heap.size < w2.heap.size := Nat.lt_of_lt_of_le (by first | exact hsz | omega | (simp; done) | (simp; omega)) hz; obtain ⟨hc2, hf2⟩ := bcell hb2)
        replace c6 := (hc2 _ _ hsz'').trans c6
        replace c7 := (hc2 _ _ hsz'').trans c7
        have hb3 : Below w1.heap.size w1 w2 := hb2
        clear hc2 hf2 hb2 c0 hz
        go_wp2_with fail
        go_loopw [3, 6] (fun o i wr => ∃ k : Nat, k ≤ p.free.length ∧ i = .int .i64 k ∧ o = .string ⟨((Sp.le8 p.kind ++ Sp.le8 p.free.length) ++ Sp.freesB (p.free.take k)).toArray⟩ ∧ Below w2.heap.size w2 wr) (fun _ i _ => p.free.length - (intOf i).toNat)
        case atStart => exact ⟨0, Nat.zero_le _, rfl, by simp [Sp.freesB], Below.refl _ _⟩
        case round =>
          obtain ⟨k, hk, rfl, rfl, hb⟩ := hrel
          have hz4 := hb.size
          have hz3 := hb3.size
          have d6 := (hb.cell (p := ⟨w.heap.size, 6, none⟩) hsz).trans c6
          have d7 := (hb.cell (p := ⟨w.heap.size, 7, none⟩) hsz).trans c7
          have hszw : w.heap.size < wr.heap.size := by omega
          by_cases hlt : k < p.free.length
          · obtain ⟨fb, fo, hA, hfb, hfc⟩ := Hf.out.at_ hlt
            obtain ⟨V2, c2, ⟨hc0, hc1⟩, hids, htx0, htx1⟩ := hfc k hlt
            rw [hA] at d6
            clear hfc hA
            obtain ⟨hil, hidr⟩ := HA.out k hlt
            have hb5 := hb3.trans (hb.mono (by omega))
            have hc0 := (hb5.cell (p := ⟨_, _, none⟩) hfb).trans hc0
            have hc1 := (hb5.cell (p := ⟨_, _, none⟩) hfb).trans hc1
            have Hids := Lib.hid (hids.go hb5)
            have HT := Lib.hid (Sp.freesB_succ p.free k hlt)
            have htle := Sp.freesB_le (l := p.free) k (by omega) (fun j hj => (HA.out j hj).1)
            have HTX := Lib.hid (And.intro htx0 htx1)
            have hfbw : fb < wr.heap.size := by omega
            clear hids htx0 htx1
            generalize Sp.freesB (p.free.take k) = t at *
            generalize p.free.getD k Sp.free0 = x at *
            obtain ⟨tx, ids⟩ := x
            simp only at *
            have HX := Lib.hid (Sp.freeB_def tx ids)
            go_wp2
            refine wp_region_after (by kernel_rfl) (by kernel_rfl) (wr.heap.size) ?_
            repeat (go_big_quiet_step (first | (go_at_call 68; exact after_call (Nat.le_refl _) (dNum_any _ HTX.out.1 HTX.out.2 _)) | (go_at_call 64; exact after_call (Nat.le_refl _) (dnum_any _ (by omega) (by omega) _))))
            refine wpQuiet_nil ?_
            intro w4 hb4
            have hz5 := hb4.size
            have f6 := (hb4.cell (p := ⟨w.heap.size, 6, none⟩) hszw).trans d6
            have g1 := (hb4.cell (p := ⟨fb, _, none⟩) hfbw).trans hc1
            have hszw4 : w.heap.size < w4.heap.size := by omega
            have hfbw4 : fb < w4.heap.size := by omega
            obtain ⟨wo, rfl⟩ : ∃ wo : World, wo = wr := ⟨_, rfl⟩
            have Hids2 := Lib.hid (Hids.out.go (w' := w4) (by (repeat (first | (with_reducible exact Below.refl _ _) | (with_reducible assumption) | (refine below_step (by assumption) (by first | omega | (simp; done) | (simp; omega)) ?_) | (with_reducible refine Below.alloc ?_ (by first | omega | (simp; done) | (simp; omega)) _) | (with_reducible refine Below.drew ?_) | (with_reducible refine below_drewN ?_ _) | (with_reducible refine Below.setCell ?_ (by first | omega | (simp; done) | (simp; omega)) _)))))
            clear d6 hc0 hc1
            go_wp2
            go_loopw [3, 7] (fun o i wr => ∃ j : Nat, j ≤ ids.length ∧ i = .int .i64 j ∧ o = .string ⟨((((Sp.le8 p.kind ++ Sp.le8 p.free.length) ++ t) ++ (Sp.le8 tx ++ Sp.le8 ids.length)) ++ Sp.numsB (ids.take j)).toArray⟩ ∧ Below w4.heap.size w4 wr) (fun _ i _ => ids.length - (intOf i).toNat)
            case atStart => exact ⟨0, Nat.zero_le _, rfl, by simp [Sp.numsB], Below.refl _ _⟩
            case round =>
              obtain ⟨j, hj, rfl, rfl, hbq⟩ := hrel
              have hzq := hbq.size
              have h6 := (hbq.cell (p := ⟨w.heap.size, 6, none⟩) hszw4).trans f6
              have h1 := (hbq.cell (p := ⟨fb, _, none⟩) hfbw4).trans g1
              by_cases hjl : j < ids.length
              · obtain ⟨ib, io, rfl, hib, hic⟩ := Hids2.out.at_ hjl
                have hic0 := (hbq.cell (p := ⟨_, _, none⟩) hib).trans (hic j hjl)
                clear hic
                have hu := hidr j hjl
                have HJ := Lib.hid (Sp.numsB_succ ids j hjl)
                have hnl := Sp.numsB_len (ids.take j)
                have hnl2 : (Sp.numsB (ids.take j)).length ≤ 160 := by
                  rw [hnl, List.length_take]
                  omega
                clear hnl
                have HD := Lib.hid hidr
                clear hidr
                generalize Sp.numsB (ids.take j) = nb at *
                generalize ids.getD j 0 = u at *
                obtain ⟨hu0, hu1⟩ := hu
                go_wp2_with (go_at_call 64; refine (dnum_any _ (by omega) (by omega) _).mono ?_; rintro e w6 ⟨rfl, hb6⟩; have hz6 := hb6.size)
                go_roundw
                case rel =>
                  repeat apply Exists.intro
                  refine ⟨?_, rfl⟩
                  exact ⟨j + 1, by omega, by go_num, by rw [HJ.out]; simp, by (repeat (first | (with_reducible exact Below.refl _ _) | (with_reducible assumption) | (refine below_step (by assumption) (by first | omega | (simp; done) | (simp; omega)) ?_) | (with_reducible refine Below.alloc ?_ (by first | omega | (simp; done) | (simp; omega)) _) | (with_reducible refine Below.drew ?_) | (with_reducible refine below_drewN ?_ _) | (with_reducible refine Below.setCell ?_ (by first | omega | (simp; done) | (simp; omega)) _)))⟩
                case measure => simp [intOf]; omega
              · have htk : ids.take j = ids := List.take_of_length_le (by omega)
                have HTK := Lib.hid htk
                clear htk
                have hjl2 : j = ids.length := by omega
                go_wp2
                go_roundw
                case rel =>
                  refine ⟨k + 1, by omega, by go_num, ?_, by (repeat (first | (with_reducible exact Below.refl _ _) | (with_reducible assumption) | (refine below_step (by assumption) (by first | omega | (simp; done) | (simp; omega)) ?_) | (with_reducible refine Below.alloc ?_ (by first | omega | (simp; done) | (simp; omega)) _) | (with_reducible refine Below.drew ?_) | (with_reducible refine below_drewN ?_ _) | (with_reducible refine Below.setCell ?_ (by first | omega | (simp; done) | (simp; omega)) _)))⟩
                  rw [HT.out, HX.out]
                  simp [HTK.out]
                case measure => simp [intOf]; omega
          · have htk : p.free.take k = p.free := List.take_of_length_le (by omega)
            have hfl : (Sp.freesB p.free).length ≤ 176 * 20 := by
              have := Sp.freesB_le (l := p.free) p.free.length (by omega) (fun j hj => (HA.out j hj).1)
              rw [List.take_of_length_le (by omega)] at this
              omega
            have HE := Lib.hid (show Sp.le8 p.kind ++ (Sp.le8 p.free.length ++ (Sp.freesB p.free ++ Sp.le8 p.next)) = Sp.body p by rw [Sp.body_def, HK.out]; simp)
            have hkl : k = p.free.length := by omega
            rw [htk]
            clear htk
            generalize Sp.freesB p.free = t at *
            go_wp2_with (first
          | (go_at_call 64; refine (dnum_any _ (by omega) (by omega) _).mono ?_; rintro e w6 ⟨rfl, hb6⟩; have hz6 := hb6.size)
          | (go_at_call 70; (try simp only [List.append_assoc]); refine (dSum_any _ _ (by rw [HE.out]; have := HBL.out; omega)).mono ?_; rintro e w8 ⟨rfl, rfl⟩)
          | (go_at_call 68; refine (dNum_any _ (Sp.sum_range _).1 (Sp.sum_range _).2 _).mono ?_; rintro e w9 ⟨rfl, hb9⟩; have hz9 := hb9.size))
            go_ret
            exact ⟨by rw [← HYES.out _ HE.out]; simp, by (repeat (first | (with_reducible exact Below.refl _ _) | (with_reducible assumption) | (refine below_step (by assumption) (by first | omega | (simp; done) | (simp; omega)) ?_) | (with_reducible refine Below.alloc ?_ (by first | omega | (simp; done) | (simp; omega)) _) | (with_reducible refine Below.drew ?_) | (with_reducible refine below_drewN ?_ _) | (with_reducible refine Below.setCell ?_ (by first | omega | (simp; done) | (simp; omega)) _)))⟩
    · as_aux_lemma =>
        have e1 : (p.kind == 1) = false := by rw [beq_eq_false_iff_ne]; omega
        have e2 : (p.kind == 2) = false := by rw [beq_eq_false_iff_ne]; omega
        have e3 : (p.kind == 3) = false := by rw [beq_eq_false_iff_ne]; omega
        have e4 : (p.kind == 4) = false := by rw [beq_eq_false_iff_ne]; omega
        have e5 : (p.kind == 5) = false := by rw [beq_eq_false_iff_ne]; omega
        have e6 : (p.kind == 6) = true := beq_iff_eq.2 hk
        have HK := Lib.hid (Sp.partsB6 hk)
        obtain ⟨hr, f0, f1, l0, l1⟩ := Sp.isMt_rng hi
        have HR := Lib.hid hr
        clear hk hi hr HKD
        go_upto_region 33 with fail
        refine wp_region_after (by kernel_rfl) (by kernel_rfl) (w1.heap.size) ?_
        repeat (go_big_quiet_step (first | (go_at_call 68; exact after_call (Nat.le_refl _) (dNum_any _ Hp.out.txn.1 Hp.out.txn.2 _)) | (go_at_call 64; exact after_call (Nat.le_refl _) (dnum_any _ (by omega) (by omega) _)) | (go_at_call 69; exact after_call (Nat.le_refl _) (drootB_any p.mt.main _ HR.out))))
        refine wpQuiet_nil ?_
        intro w6 hb6
        have hz6 := hb6.size
        have HE := Lib.hid (show Sp.le8 p.kind ++ Sp.le8 p.mt.txn ++ Sp.rootB p.mt.main ++ Sp.le8 p.mt.free ++ Sp.le8 p.mt.last = Sp.body p by rw [Sp.body_def, HK.out]; simp [Sp.mtB])
        have HE2 := Lib.hid (show Sp.le8 p.kind ++ (Sp.le8 p.mt.txn ++ (Sp.rootB p.mt.main ++ (Sp.le8 p.mt.free ++ Sp.le8 p.mt.last))) = Sp.body p by rw [Sp.body_def, HK.out]; simp [Sp.mtB])
        go_wp2_with (first
          | (go_at_call 70; refine (dSum_any _ _ (by first | (rw [HE.out]; have := HBL.out; omega) | (rw [HE2.out]; have := HBL.out; omega))).mono ?_; rintro e w8 ⟨rfl, rfl⟩)
          | (go_at_call 68; refine (dNum_any _ (Sp.sum_range _).1 (Sp.sum_range _).2 _).mono ?_; rintro e w9 ⟨rfl, hb9⟩; have hz9 := hb9.size))
        go_ret
        exact ⟨by first | (rw [← HYES.out _ HE2.out]; simp; done) | (rw [← HYES.out _ HE.out]; simp; done), by (repeat (first | (with_reducible exact Below.refl _ _) | (with_reducible assumption) | (refine below_step (by assumption) (by first | omega | (simp; done) | (simp; omega)) ?_) | (with_reducible refine Below.alloc ?_ (by first | omega | (simp; done) | (simp; omega)) _) | (with_reducible refine Below.drew ?_) | (with_reducible refine below_drewN ?_ _) | (with_reducible refine Below.setCell ?_ (by first | omega | (simp; done) | (simp; omega)) _)))⟩
end Go.Proofs.YtmcpkhknjdiocaaGreat
namespace Go.Proofs.YtmcpkhknjdiocaaGreat
open Go.RowKit
attribute [local go_sem low] mk_extract
attribute [local go_sem] After.cell After.frozen mk_extract_end ByteArray.mk_append_mk
set_option maxRecDepth 100000 in
set_option maxHeartbeats 400000 in
theorem dFresh_any (i : Int) (w : World) : Calls Tryz.prog 42 #[.int .i64 i] w fun e w' => e = .returned (.agg (mtV (Sp.fresh i)).toArray) ∧ Below w.heap.size w w' := by
  go_enter Tryz.func42, Tryz.ntmps42
  go_wp2_with fail
  all_goals
    first
      | (have e : Sp.fresh i = ⟨0, Sp.root0, 0, 2⟩ := by
           unfold Sp.fresh
           congr 1
           omega
         rw [e])
      | (have e : Sp.fresh i = ⟨i, Sp.root0, 0, 2⟩ := by
           unfold Sp.fresh
           congr 1
           omega
         rw [e])
      | (have e : Sp.fresh i = ⟨1, Sp.root0, 0, 2⟩ := by
           unfold Sp.fresh
           congr 1
           omega
         rw [e])
    refine bodyPost_ret (v := .agg (mtV _).toArray) (by simp [results, Tryz.results42, go_sem, mtV, Sp.root0]) rfl ⟨rfl, by go_grown⟩
set_option maxRecDepth 100000 in
set_option maxHeartbeats 1600000 in
theorem dMetaBytes_any (m : Sp.Mt) (w : World) (hm : 0 ≤ m.txn ∧ m.txn < 18446744073709551616) : Calls Tryz.prog 19 #[.agg (mtV m).toArray] w fun e w' => e = .returned (.string ⟨(Sp.metaB m).toArray⟩) ∧ Below w.heap.size w w' := by
  have hb := Blk.new w 45 (mtV m).toArray
  have HB := Lib.hid hb
  have HM := Lib.hid hm
  clear hb hm
  simp only [mtV] at *
  go_enter Tryz.func19, Tryz.ntmps19
  go_wp2_with (first
    | (refine wpList_row 45 _ rfl w.heap.size rfl rfl 45 #[.int .u64 m.txn, .int .i64 m.main.page, .int .i64 m.main.count, .int .i64 m.main.flags, .int .i64 m.free, .int .i64 m.last] (0, 0) _ HB.out Tryz.underlying45 rfl rfl ?_)
    | (go_at_call 43; refine (dBytes_any (M := NoM) (Sp.pgM m) refs0 _ ⟨Items.nil_, Row.nil_, Row.nil_, Row.nil_, Frees.nil_, HM.out⟩).mono ?_; rintro e w7 ⟨rfl, hb2⟩; have HB2 := Lib.hid hb2; clear hb2))
  go_ret
  exact ⟨rfl, ((Below.refl _ _).alloc (Nat.le_refl _) _).trans (HB2.out.mono (by simp))⟩
end Go.Proofs.YtmcpkhknjdiocaaGreat
namespace Go.Proofs.YtmcpkhknjdiocaaGreat
open Go.RowKit
attribute [local go_sem low] mk_extract
attribute [local go_sem] After.cell After.frozen mk_extract_end ByteArray.mk_append_mk
set_option maxRecDepth 100000 in
set_option maxHeartbeats 1600000 in
theorem empty_any (w : World) : Calls Tryz.prog 13 #[] w fun e w' => ∃ b, e = .returned (.slice (some ⟨b, 0, none⟩) 2 2) ∧ Txts w' NoM (some ⟨b, 0, none⟩) (Sp.filesAt 1) ∧ Below w.heap.size w w' := by
  have hfl : Sp.filesAt 1 = [Sp.metaB (Sp.mt2 0 2), Sp.metaB (Sp.mt2 1 2)] := rfl
  rw [hfl]
  clear hfl
  go_enter Tryz.func13, Tryz.ntmps13
  go_upto_region 1 with fail
  go_cut [0] (fun s0 W => ∃ b, s0 = .slice (some ⟨b, 0, none⟩) 2 2 ∧ Txts W NoM (some ⟨b, 0, none⟩) [Sp.metaB (Sp.mt2 0 2), Sp.metaB (Sp.mt2 1 2)] ∧ Below w.heap.size w W)
  case first =>
    go_wp2_with (first
      | (go_at_call_of 42 (0 : Int); refine (dFresh_any 0 _).mono ?_; rintro e w1 ⟨rfl, hb1⟩; rw [Sp.fresh0]; have HB1 := Lib.hid hb1; clear hb1)
      | (go_at_call 42; refine (dFresh_any 1 _).mono ?_; rintro e w3 ⟨rfl, hb3⟩; rw [Sp.fresh1]; have HB3 := Lib.hid (HB2.out.trans (hb3.mono HB2.out.size)); clear hb3)
      | (go_at_call_of 19 (0 : Int); refine (dMetaBytes_any (Sp.mt2 0 2) _ (by decide)).mono ?_; rintro e w2 ⟨rfl, hb2⟩; have HB2 := Lib.hid (HB1.out.trans (hb2.mono HB1.out.size)); clear hb2)
      | (go_at_call 19; refine (dMetaBytes_any (Sp.mt2 1 2) _ (by decide)).mono ?_; rintro e w4 ⟨rfl, hb4⟩; have HB4 := Lib.hid (HB3.out.trans (hb4.mono HB3.out.size)); clear hb4))
    go_meet
    case rel =>
      refine ⟨w4.heap.size, rfl, ⟨by simp, .inr ⟨w4.heap.size, 0, rfl, by simp, id, fun j u hu => ?_⟩⟩, HB4.out.alloc HB4.out.size _⟩
      rw [Nat.zero_add]
      refine ((Blk.new w4 StrT _).cell j).trans ?_
      rw [← hu]
      exact List.getElem?_toArray ..
  case rest =>
    obtain ⟨b, rfl, ht, hb⟩ := hcut
    obtain ⟨W1, rfl⟩ : ∃ W, W = wc := ⟨_, rfl⟩
    have HT := Lib.hid ht
    have HB := Lib.hid hb
    clear ht hb
    go_wp2_with fail
    go_ret
    exact ⟨b, rfl, HT.out, HB.out⟩
namespace Sp
/-- A reader at a phase, its slots, when version t is the last one. -/
def mvR (pid most : Int) (ph : Nat) (t : Int) : Rdr := ⟨pid, most, (ph : Int), if ph = 1 then -1 else 0, if ph = 1 ∨ ph = 2 then mt0 else mt2 t 2, none⟩
def mvS (pid : Int) (ph : Nat) (t : Int) : List Sl := if ph = 1 then List.replicate 8 sl0 else if ph = 2 then oneSl pid 0 else if ph = 3 then oneSl pid (t - 1) else oneSl pid t
section
variable {pid most t : Int}
theorem mv1 (hp : 0 < pid) (a b : Txt) : (mvR pid most 1 1).step a b (mvS pid 1 1) = ((false, none), (mvR pid most 2 1, mvS pid 2 1)) := step_claims hp
theorem mv2 (hm : 2 ≤ most) : (mvR pid most 2 1).step (atV (filesAt 1) 0) (atV (filesAt 1) 1) (mvS pid 2 1) = ((false, none), (mvR pid most 3 1, mvS pid 3 1)) := step_chooses (filesAt_choose (by decide) (by decide)) hm
theorem mv3 (hp : 0 < pid) (a b : Txt) : (mvR pid most 3 t).step a b (mvS pid 3 t) = ((false, none), (mvR pid most 4 t, mvS pid 4 t)) := step_publishes hp
theorem mv4 (hm : 2 ≤ most) (h0 : 1 ≤ t) (h1 : t < 18446744073709551616) : (mvR pid most 4 t).step (atV (filesAt t) 0) (atV (filesAt t) 1) (mvS pid 4 t) = ((true, none), (mvR pid most 0 t, mvS pid 0 t)) := step_same (filesAt_choose h0 h1) hm rfl
theorem mv4n (hm : 2 ≤ most) (h0 : 0 ≤ t) (h1 : t + 1 < 18446744073709551616) : (mvR pid most 4 t).step (atV (filesAt (t + 1)) 0) (atV (filesAt (t + 1)) 1) (mvS pid 4 t) = ((false, none), (mvR pid most 3 (t + 1), mvS pid 3 (t + 1))) := by
  have h := step_other (pid := pid) (most := most) (slot := 0) (m := mt2 t 2) (er := none) (sl := oneSl pid t) (filesAt_choose (t := t + 1) (by omega) h1) hm (by show t ≠ t + 1; omega)
  refine h.trans ?_
  have e : oneSl pid t = mvS pid 3 (t + 1) := by
    show oneSl pid t = oneSl pid (t + 1 - 1)
    rw [show t + 1 - 1 = t by omega]
  rw [e]
  rfl
theorem mv0 (a b : Txt) : (mvR pid most 0 t).step a b (mvS pid 0 t) = ((true, none), (mvR pid most 0 t, mvS pid 0 t)) := step_done
end
end Sp
theorem LwS.call {W0 W W' : World} {f m l p : Nat} {v : Value} {V : List Txt} {sl sl' : List Sp.Sl} {r r' : Sp.Rdr} {bo : Bool × Option Int} (h : LwS W0 f m l p v V sl r W) (hs : r.step (Sp.atV V 0) (Sp.atV V 1) sl = (bo, (r', sl'))) (hr : RdAt W' p (r.step (Sp.atV V 0) (Sp.atV V 1) sl).2.1) (hl : LockAt W' l 0 (r.step (Sp.atV V 0) (Sp.atV V 1) sl).2.2) (hk : Chg (fun k => k = p ∨ k = l) W W') : LwS W0 f m l p v V sl' r' W' := by
  rw [hs] at hr hl
  exact h.step hr hl hk
/-- A step of a reader, where what it answers is known. -/
theorem stepAt {W0 W : World} {f m l p : Nat} {v : Value} {V : List Txt} {sl sl' : List Sp.Sl} {r r' : Sp.Rdr} {bo : Bool} {er : Option Int} (h : LwS W0 f m l p v V sl r W) (hs : r.step (Sp.atV V 0) (Sp.atV V 1) sl = ((bo, er), (r', sl'))) (hn : V.length ≤ 400) (hph : 0 ≤ r.phase ∧ r.phase ≤ 5) :
    Calls Tryz.prog 20 #[.pointer (some ⟨p, 0, none⟩), .pointer (some ⟨f, 0, none⟩), .pointer (some ⟨l, 0, none⟩)] W fun e w' => e = .returned (.tuple #[.bool bo, erV er]) ∧ LwS W0 f m l p v V sl' r' w' := by
  refine (rdStep_any p f m l r v V 0 sl W h.rd h.ff h.lk hn hph).mono ?_
  rintro e w' ⟨he, hr, hl, hk⟩
  rw [hs] at he
  exact ⟨he, h.call hs hr hl hk⟩
end Go.Proofs.YtmcpkhknjdiocaaGreat
namespace Go.Proofs.YtmcpkhknjdiocaaGreat
open Go.RowKit
attribute [local go_sem low] mk_extract
attribute [local go_sem] After.cell After.frozen mk_extract_end ByteArray.mk_append_mk
theorem fileNew_at1 (b : Nat) {M : Nat → Prop} (w : World) (hl : Txts w M (some ⟨b, 0, none⟩) (Sp.filesAt 1)) :
    Calls Tryz.prog 12 #[.slice (some ⟨b, 0, none⟩) 2 2] w fun e w' => ∃ f v m, e = .returned (.pointer (some ⟨f, 0, none⟩)) ∧ FileAt w' f v m (Sp.filesAt 1) ∧ w.heap.size ≤ f ∧ w.heap.size ≤ m ∧ (∀ k, v.ownBlock = some k → w.heap.size ≤ k) ∧ Below w.heap.size w w' := by
  have h := fileNew_any (Sp.filesAt 1) b 0 2 w hl (by rw [Sp.filesAt_len]; omega) (by rw [Sp.filesAt_len]; omega) (Sp.filesAt_sz 1)
  rw [Sp.filesAt_len] at h
  exact h
theorem LwS.mk3 {w w1 w2 w3 w4 : World} {f m : Nat} {v : Value} {V : List Txt} {sl : List Sp.Sl} {r : Sp.Rdr} (hb1 : Below w.heap.size w w1) (hf : FileAt w2 f v m V) (h2 : w1.heap.size ≤ m) (h3 : ∀ k, v.ownBlock = some k → w1.heap.size ≤ k) (hb2 : Below w1.heap.size w1 w2)
    (hl : LockAt w3 w2.heap.size 0 sl) (hb3 : Below w2.heap.size w2 w3) (hr : RdAt w4 w3.heap.size r) (hb4 : Below w3.heap.size w3 w4) : LwS w f m w2.heap.size w3.heap.size v V sl r w4 := by
  have z1 := hb1.size
  have z2 := hb2.size
  have z3 := hb3.size
  exact ⟨((hb1.trans (hb2.mono z1)).trans (hb3.mono (by omega))).trans (hb4.mono (by omega)), (hf.go hb3).go hb4, hl.go hb4, hr, ⟨by omega, by omega, by omega⟩, fun k hk => by have := h3 k hk; omega⟩
theorem eqSl71 (W : World) : (Op.equalIn 10000 SlotT (.agg #[.int .i64 7, .int .u64 1]) (.agg #[.int .i64 7, .int .u64 1])).run Tryz.prog W = .ok true W := by kernel_rfl
theorem field0 (a b c d e f : Int) (W : World) : (Instr.field MetaT (.agg #[.int .u64 a, .int .i64 b, .int .i64 c, .int .i64 d, .int .i64 e, .int .i64 f]) 0).run Tryz.prog W = .ok (.int .u64 a) W := by kernel_rfl
theorem own2_at {w : World} {base : Nat} {e : TypeId} {g cap n : Nat} {xs : List Value} (h : w.ownsRow base e 2 (.slice (some ⟨g, 0, none⟩) n cap) n xs) {j : Nat} {u : Value} (hj : xs[j]? = some u) : w.cell? ⟨g, j, none⟩ = some u := by
  rcases h.2 with ⟨h', _⟩ | ⟨g', cap', cur, hv, _, hh, hnc, _, hcs, ht⟩
  · cases h'
  · simp only [Value.slice.injEq, Option.some.injEq, Addr.mk.injEq] at hv
    obtain ⟨⟨rfl, _⟩, _, rfl⟩ := hv
    have hb : Blk w g e cur := hh
    refine (hb.cell j).trans ?_
    rw [← ht, List.getElem?_take] at hj
    split at hj
    · rw [← hj, Array.getElem?_toList]
    · cases hj
set_option maxRecDepth 100000 in
set_option maxHeartbeats 6400000 in
theorem known22_any (w : World) : Calls Tryz.prog 11 #[] w fun e w' => e = .returned (.bool true) ∧ Below w.heap.size w w' := by
  go_enter Tryz.func11, Tryz.ntmps11
  go_upto_region 3 with (first
    | (go_at_call 13; refine (empty_any _).mono ?_; rintro e w1 ⟨b, rfl, ht, hb1⟩; have HT := Lib.hid ht; have HB1 := Lib.hid hb1; clear ht hb1)
    | (go_at_call 12; refine (fileNew_at1 b _ HT.out).mono ?_; rintro e w2 ⟨f, v, m, rfl, hf, h1, h2, h3, hb2⟩; have HF := Lib.hid hf; have H2 := Lib.hid h2; have H3 := Lib.hid h3; have HB2 := Lib.hid hb2; clear hf h1 h2 h3 hb2)
    | (go_at_call 14; refine (lockNew_any _).mono ?_; rintro e w3 ⟨rfl, hl, hb3⟩; have HL := Lib.hid hl; have HB3 := Lib.hid hb3; clear hl hb3)
    | (go_at_call 16; refine (rdNew_any 7 10 _).mono ?_; rintro e w4 ⟨rfl, hr, hb4⟩; have HR := Lib.hid hr; have HB4 := Lib.hid hb4; clear hr hb4))
  have S := Lib.hid (show LwS w f m w2.heap.size w3.heap.size v (Sp.filesAt 1) (Sp.mvS 7 1 1) (Sp.mvR 7 10 1 1) w4 from LwS.mk3 HB1.out HF.out H2.out H3.out HB2.out HL.out HB3.out HR.out HB4.out)
  clear HT HF H2 H3 HL HR HB1 HB2 HB3 HB4
  generalize w2.heap.size = l at *
  generalize w3.heap.size = p at *
  have hl2 := Sp.filesAt_len 1
  go_wp2_with fail
  go_loopw [4] (fun i wr => ∃ k : Nat, k ≤ 3 ∧ i = .int .i64 k ∧ LwS w f m l p v (Sp.filesAt 1) (Sp.mvS 7 (k + 1) 1) (Sp.mvR 7 10 (k + 1) 1) wr) (fun i _ => 3 - (intOf i).toNat)
  case atStart => exact ⟨0, by omega, rfl, S.out⟩
  case round =>
    obtain ⟨k, hk, rfl, hs⟩ := hrel
    replace S := Lib.hid hs
    clear hs
    rcases (by omega : k = 0 ∨ k = 1 ∨ k = 2 ∨ k = 3) with rfl | rfl | rfl | rfl
    · go_wp2_with (first
        | (go_at_call 20; refine (stepAt S.out (Sp.mv1 (by decide) _ _) (by omega) (by decide)).mono ?_; rintro e w5 ⟨rfl, hs⟩; simp only [erV]; replace S := Lib.hid hs; clear hs)
        | (go_at_call 40; refine (rdPhase_any p _ _ S.out.rd).mono ?_; rintro e w6 ⟨rfl, rfl⟩; rw [show (Sp.mvR 7 10 2 1).phase = 2 from rfl]))
      go_roundw
      case rel => exact ⟨1, by omega, by go_num, S.out⟩
      case measure => simp [intOf]
    · go_wp2_with (first
        | (go_at_call 20; refine (stepAt S.out (Sp.mv2 (by decide)) (by omega) (by decide)).mono ?_; rintro e w5 ⟨rfl, hs⟩; simp only [erV]; replace S := Lib.hid hs; clear hs)
        | (go_at_call 40; refine (rdPhase_any p _ _ S.out.rd).mono ?_; rintro e w6 ⟨rfl, rfl⟩; rw [show (Sp.mvR 7 10 3 1).phase = 3 from rfl]))
      go_roundw
      case rel => exact ⟨2, by omega, by go_num, S.out⟩
      case measure => simp [intOf]
    · go_wp2_with (first
        | (go_at_call 20; refine (stepAt S.out (Sp.mv3 (by decide) _ _) (by omega) (by decide)).mono ?_; rintro e w5 ⟨rfl, hs⟩; simp only [erV]; replace S := Lib.hid hs; clear hs)
        | (go_at_call 40; refine (rdPhase_any p _ _ S.out.rd).mono ?_; rintro e w6 ⟨rfl, rfl⟩; rw [show (Sp.mvR 7 10 4 1).phase = 4 from rfl]))
      go_roundw
      case rel => exact ⟨3, by omega, by go_num, S.out⟩
      case measure => simp [intOf]
    · go_upto_region 14 with (first
        | (go_at_call 20; refine (stepAt S.out (Sp.mv4 (by decide) (by decide) (by decide)) (by omega) (by decide)).mono ?_; rintro e w5 ⟨rfl, hs⟩; simp only [erV]; replace S := Lib.hid hs; clear hs)
        | (go_at_call 20; refine (stepAt S.out (Sp.mv0 _ _) (by omega) (by decide)).mono ?_; rintro e w7 ⟨rfl, hs⟩; simp only [erV]; replace S := Lib.hid hs; clear hs)
        | (go_at_call 21; refine (slots_any l 0 _ _ S.out.lk).mono ?_; rintro e w8 ⟨g, cap, rfl, ho, hb⟩; replace S := Lib.hid (S.out.go hb); have HO := Lib.hid ho; clear ho hb))
      have d0 : w8.cell? ⟨g, 0, none⟩ = some (.int .i64 7) := own2_at HO.out rfl
      have d1 : w8.cell? ⟨g, 1, none⟩ = some (.int .u64 1) := own2_at HO.out rfl
      have hq := eqSl71
      have hfd := field0 1 0 0 0 0 2
      have hg := own_lt HO.out g rfl
      go_wp2_with (first
        | (go_at_call 23; refine (rdSlot_any p _ _ S.out.rd).mono ?_; rintro e w9 ⟨rfl, rfl⟩; rw [show (Sp.mvR 7 10 0 1).slot = 0 from rfl])
        | (go_at_call 40; refine (rdPhase_any p _ _ S.out.rd).mono ?_; rintro e w9 ⟨rfl, rfl⟩; rw [show (Sp.mvR 7 10 0 1).phase = 0 from rfl])
        | (go_at_call 24; refine (rdMeta_any p _ _ S.out.rd).mono ?_; rintro e w9 ⟨rfl, hb⟩; rw [show (mtV (Sp.mvR 7 10 0 1).mt).toArray = #[.int .u64 1, .int .i64 0, .int .i64 0, .int .i64 0, .int .i64 0, .int .i64 2] from rfl]; replace S := Lib.hid (S.out.go hb); have d0' := (hb.cell (p := ⟨g, 0, none⟩) hg).trans d0; have d1' := (hb.cell (p := ⟨g, 1, none⟩) hg).trans d1; clear d0 d1 hb))
      go_ret
      exact ⟨rfl, S.out.hb⟩
end Go.Proofs.YtmcpkhknjdiocaaGreat
namespace Go.Proofs.YtmcpkhknjdiocaaGreat
open Go.RowKit
attribute [local go_sem low] mk_extract
attribute [local go_sem] After.cell After.frozen mk_extract_end ByteArray.mk_append_mk
theorem is_typeOf (v : Value) (w : World) : (Extern.ReflectliteType.typeOf #[.iface ErrT v]).run Tryz.prog w = .ok (.iface 152 (.agg #[typeHandle Tryz.prog ErrT])) w := by kernel_rfl
theorem is_comparable (w : World) : ((Extern.ReflectliteType.method fun t => do Extern.Rtype.noPackHeld "Comparable" t; (fun a => Value.bool a.comparable) <$> typeInfo t) #[.agg #[typeHandle Tryz.prog ErrT]]).run Tryz.prog w = .ok (.bool true) w := by kernel_rfl
theorem is_method (v : Value) (w : World) : (Go.method 111 152 v "Comparable").run Tryz.prog w = .ok (209, v) w := by kernel_rfl
theorem is_comp : (Tryz.prog.info? ErrT).map (·.comparable) = some true := by kernel_rfl
theorem is_noIs (v : Value) (xT : TypeId) (w : World) : (Instr.typeAssert (.iface ErrT v) xT 154 true).run Tryz.prog w = .ok (.tuple #[.nilIface, .bool false]) w := run_typeAssert_lacksB Tryz.underlying154 (by kernel_rfl) (by kernel_rfl) v xT w
theorem is_noUn (v : Value) (xT : TypeId) (w : World) : (Instr.typeAssert (.iface ErrT v) xT 157 true).run Tryz.prog w = .ok (.tuple #[.nilIface, .bool false]) w := run_typeAssert_lacksB Tryz.underlying157 (by kernel_rfl) (by kernel_rfl) v xT w
theorem is_noUns (v : Value) (xT : TypeId) (w : World) : (Instr.typeAssert (.iface ErrT v) xT 159 true).run Tryz.prog w = .ok (.tuple #[.nilIface, .bool false]) w := run_typeAssert_lacksB Tryz.underlying159 (by kernel_rfl) (by kernel_rfl) v xT w
set_option maxRecDepth 100000 in
set_option maxHeartbeats 1600000 in
theorem errIs_nil (b : Int) (w : World) : Calls Tryz.prog 22 #[.nilIface, .iface ErrT (.int .i64 b)] w fun e w' => e = .returned (.bool false) ∧ w' = w := by
  have hn := run_eql_iface_nil_left (P := Tryz.prog) w ErrT (.int .i64 b) Tryz.underlying31
  go_enter Tryz.func22, Tryz.ntmps22
  go_wp2
  go_ret
  exact ⟨rfl, rfl⟩
set_option maxRecDepth 100000 in
set_option maxHeartbeats 1600000 in
theorem errIs_same (a : Int) (w : World) : Calls Tryz.prog 22 #[.iface ErrT (.int .i64 a), .iface ErrT (.int .i64 a)] w fun e w' => e = .returned (.bool true) ∧ w' = w := by
  have h8 := @run_callFunc_extern Tryz.prog 45 _ Extern.ReflectliteType.typeOf Tryz.func45 (by kernel_rfl) (by kernel_rfl) (by kernel_rfl) (by kernel_rfl)
  have h32 := @run_callFunc_extern Tryz.prog 209 _ (Extern.ReflectliteType.method fun t => do Extern.Rtype.noPackHeld "Comparable" t; pure (.bool (← typeInfo t).comparable)) Tryz.func209 (by kernel_rfl) (by kernel_rfl) (by kernel_rfl) (by kernel_rfl)
  have tT := is_typeOf
  have cT := is_comparable
  have mR := is_method
  have heq : (binOp .eql 31 (.iface ErrT (.int .i64 a)) (.iface ErrT (.int .i64 a))).run Tryz.prog w = .ok (.bool true) w := by
    have h := Lib.run_eql_iface_int (P := Tryz.prog) (k := .i64) w a a Tryz.underlying31 is_comp Tryz.underlying51
    simpa using h
  go_enter Tryz.func22, Tryz.ntmps22
  go_wp2
  refine wp_loop_rounds 1 ?_
  rw [rounds_succ]
  go_wp2
  go_ret
  exact ⟨rfl, rfl⟩
set_option maxRecDepth 100000 in
set_option maxHeartbeats 1600000 in
theorem errIs_other (a b : Int) (hab : a ≠ b) (w : World) : Calls Tryz.prog 22 #[.iface ErrT (.int .i64 a), .iface ErrT (.int .i64 b)] w fun e w' => e = .returned (.bool false) ∧ w' = w := by
  have h8 := @run_callFunc_extern Tryz.prog 45 _ Extern.ReflectliteType.typeOf Tryz.func45 (by kernel_rfl) (by kernel_rfl) (by kernel_rfl) (by kernel_rfl)
  have h32 := @run_callFunc_extern Tryz.prog 209 _ (Extern.ReflectliteType.method fun t => do Extern.Rtype.noPackHeld "Comparable" t; pure (.bool (← typeInfo t).comparable)) Tryz.func209 (by kernel_rfl) (by kernel_rfl) (by kernel_rfl) (by kernel_rfl)
  have tT := is_typeOf
  have cT := is_comparable
  have mR := is_method
  have nE := is_noIs
  have uE := is_noUn
  have vE := is_noUns
  have heq : (binOp .eql 31 (.iface ErrT (.int .i64 a)) (.iface ErrT (.int .i64 b))).run Tryz.prog w = .ok (.bool false) w := by
    have h := Lib.run_eql_iface_int (P := Tryz.prog) (k := .i64) w a b Tryz.underlying31 is_comp Tryz.underlying51
    rw [h, beq_eq_false_iff_ne.2 hab]
  clear hab
  go_enter Tryz.func22, Tryz.ntmps22
  go_wp2
  refine wp_loop_rounds 1 ?_
  rw [rounds_succ]
  go_wp2
  go_ret
  exact ⟨rfl, rfl⟩
end Go.Proofs.YtmcpkhknjdiocaaGreat
namespace Go.Proofs.YtmcpkhknjdiocaaGreat
open Go.RowKit
attribute [local go_sem low] mk_extract
attribute [local go_sem] After.cell After.frozen mk_extract_end ByteArray.mk_append_mk
namespace Sp
section
variable {a b : Txt} {pid most slot x e : Int} {m m2 : Mt} {er : Option Int} {sl : List Sl}
theorem see_some (hc : choose a b = some m2) (hm : m2.last ≤ most) : see most a b = (m2, none) := by
  unfold see
  rw [hc]
  have : ¬ most < m2.last := by omega
  simp [this]
theorem see_big (hc : choose a b = some m2) (hm : most < m2.last) : see most a b = (m2, some 19) := by
  unfold see
  rw [hc]
  simp [hm]
theorem see_none (hc : choose a b = none) : see most a b = (mt0, some 12) := by
  unfold see
  rw [hc]
theorem step_sees (hs : see most a b = (m2, none)) : (⟨pid, most, 2, slot, m, er⟩ : Rdr).step a b sl = ((false, none), (⟨pid, most, 3, slot, m2, er⟩, sl)) := by
  unfold Rdr.step Rdr.goes Rdr.looks
  dsimp only
  rw [hs]
  simp
theorem step_refuses {ph : Int} (h : ph = 2 ∨ ph = 4) (hs : see most a b = (m2, some e)) : (⟨pid, most, ph, slot, m, er⟩ : Rdr).step a b sl = ((false, none), (⟨pid, most, 5, slot, m, some e⟩, sl)) := by
  unfold Rdr.step Rdr.goes Rdr.looks
  dsimp only
  rw [hs]
  rcases h with rfl | rfl <;> simp
theorem step_frees (hp : 0 < pid) : (⟨pid, most, 5, 0, m, some e⟩ : Rdr).step a b (oneSl pid x) = ((true, some e), (⟨pid, most, 0, -1, m, some e⟩, List.replicate 8 sl0)) := by
  have h := own_one (txn := x) hp
  unfold Rdr.step Rdr.goes freeSl
  dsimp only
  rw [h]
  rfl
theorem step_pub (hp : 0 < pid) : (⟨pid, most, 3, 0, m, er⟩ : Rdr).step a b (oneSl pid x) = ((false, none), (⟨pid, most, 4, 0, m, er⟩, oneSl pid m.txn)) := step_publishes hp
theorem step_same2 (hs : see most a b = (m2, none)) (hx : m2.txn = m.txn) : (⟨pid, most, 4, slot, m, er⟩ : Rdr).step a b sl = ((true, none), (⟨pid, most, 0, slot, m, none⟩, sl)) := by
  unfold Rdr.step Rdr.goes Rdr.looks
  dsimp only
  rw [hs]
  simp [hx]
theorem step_other2 (hs : see most a b = (m2, none)) (hx : m2.txn ≠ m.txn) : (⟨pid, most, 4, slot, m, er⟩ : Rdr).step a b sl = ((false, none), (⟨pid, most, 3, slot, m2, er⟩, sl)) := by
  unfold Rdr.step Rdr.goes Rdr.looks
  dsimp only
  rw [hs]
  simp [hx]
end
/-- The file of a law, with another meta in the first place, or spoilt. -/
def spoilAt (k : Int) (spoilt : Bool) : List Txt := if spoilt then [[120], [120]] else [metaB (mt2 2 k), metaB (mt2 1 2)]
theorem spoilAt_len (k : Int) (s : Bool) : (spoilAt k s).length = 2 := by cases s <;> rfl
theorem spoil_no (k : Int) : choose (atV (spoilAt k true) 0) (atV (spoilAt k true) 1) = none := by
  rw [choose_eq]
  show two (right [120] 0) (right [120] 1) = none
  rw [right_x, right_x]
  rfl
theorem spoil_yes {k : Int} (h : 2 ≤ k ∧ k ≤ 400) : choose (atV (spoilAt k false) 0) (atV (spoilAt k false) 1) = some (mt2 2 k) := by
  have x := mt2_is (n := 2) (l := k) h
  have y := mt2_is (n := 1) (l := 2) (by omega)
  rw [choose_eq]
  show two (right (metaB (mt2 2 k)) 0) (right (metaB (mt2 1 2)) 1) = _
  rw [right_metaB x (show (0 : Int) ≤ 2 ∧ (2 : Int) < 18446744073709551616 by decide), right_metaB y (by decide)]
  rfl
/-- Slots of which the first i are another's. -/
def fullSl (i : Nat) : List Sl := List.replicate i ⟨100, 0⟩ ++ List.replicate (8 - i) sl0
theorem full_next : ∀ i, i < 8 → claimed (fullSl i) 100 = fullSl (i + 1) := by decide +kernel
theorem full_none : claim (fullSl 8) 5 = none ∧ claimed (fullSl 8) 5 = fullSl 8 := by decide +kernel
theorem step_full {a b : Txt} {most : Int} {m : Mt} {er : Option Int} : (⟨5, most, 1, -1, m, er⟩ : Rdr).step a b (fullSl 8) = ((true, some 15), (⟨5, most, 0, -1, m, some 15⟩, fullSl 8)) := by
  obtain ⟨h1, h2⟩ := full_none
  unfold Rdr.step Rdr.goes
  dsimp only
  rw [h1, h2]
  rfl
end Sp
end Go.Proofs.YtmcpkhknjdiocaaGreat
namespace Go.Proofs.YtmcpkhknjdiocaaGreat
open Go.RowKit
attribute [local go_sem low] mk_extract
attribute [local go_sem] After.cell After.frozen mk_extract_end ByteArray.mk_append_mk
theorem field3 (a b c d e f : Int) (W : World) : (Instr.field MetaT (.agg #[.int .u64 a, .int .i64 b, .int .i64 c, .int .i64 d, .int .i64 e, .int .i64 f]) 3).run Tryz.prog W = .ok (.int .i64 f) W := by kernel_rfl
set_option maxRecDepth 100000 in
set_option maxHeartbeats 1600000 in
theorem spoil_any (W0 : World) (f m l p : Nat) (v : Value) (sl : List Sp.Sl) (r : Sp.Rdr) (k : Int) (b : Bool) (w : World) (hs : LwS W0 f m l p v (Sp.filesAt 1) sl r w) :
    Calls Tryz.prog 25 #[.pointer (some ⟨f, 0, none⟩), .int .i64 k, .bool b] w fun e w' => e = .returned (.tuple #[]) ∧ LwS W0 f m l p v (Sp.spoilAt k b) sl r w' := by
  have S := Lib.hid hs
  clear hs
  have hfl : Sp.filesAt 1 = [Sp.metaB (Sp.mt2 0 2), Sp.metaB (Sp.mt2 1 2)] := rfl
  rw [hfl] at S
  clear hfl
  have hml := Sp.metaB_le (Sp.mt2 2 k)
  rcases b with _ | _
  · go_enter Tryz.func25, Tryz.ntmps25
    go_wp2_with (first
      | (go_at_call 19; refine (dMetaBytes_any (Sp.mt2 2 k) _ (by show (0 : Int) ≤ 2 ∧ (2 : Int) < 18446744073709551616; omega)).mono ?_; rintro e w6 ⟨rfl, hb6⟩; replace S := Lib.hid (S.out.go hb6); clear hb6)
      | (go_at_call 17; refine (fileWrite_any f m 0 v _ (Sp.metaB (Sp.mt2 2 k)) _ S.out.ff (by decide) (by decide) (by omega)).mono ?_; rintro e w6 ⟨rfl, hf6, hk6⟩; replace S := Lib.hid (S.out.write hf6 hk6); clear hf6 hk6))
    go_end0
    exact ⟨rfl, S.out⟩
  · go_enter Tryz.func25, Tryz.ntmps25
    go_wp2_with (first
      | (go_at_call 19; refine (dMetaBytes_any (Sp.mt2 2 k) _ (by show (0 : Int) ≤ 2 ∧ (2 : Int) < 18446744073709551616; omega)).mono ?_; rintro e w6 ⟨rfl, hb6⟩; replace S := Lib.hid (S.out.go hb6); clear hb6)
      | (go_at_call_of 17 (1 : Int); refine (fileWrite_any f m 1 v _ [120] _ S.out.ff (by simp) (by simp) (by simp)).mono ?_; rintro e w6 ⟨rfl, hf6, hk6⟩; replace S := Lib.hid (S.out.write hf6 hk6); clear hf6 hk6)
      | (go_at_call_of 17 k; refine (fileWrite_any f m 0 v _ (Sp.metaB (Sp.mt2 2 k)) _ S.out.ff (by simp) (by simp) (by omega)).mono ?_; rintro e w6 ⟨rfl, hf6, hk6⟩; replace S := Lib.hid (S.out.write hf6 hk6); clear hf6 hk6)
      | (go_at_call 17; refine (fileWrite_any f m 0 v _ [120] _ S.out.ff (by simp) (by simp) (by simp)).mono ?_; rintro e w6 ⟨rfl, hf6, hk6⟩; replace S := Lib.hid (S.out.write hf6 hk6); clear hf6 hk6))
    go_end0
    exact ⟨rfl, S.out⟩
end Go.Proofs.YtmcpkhknjdiocaaGreat
