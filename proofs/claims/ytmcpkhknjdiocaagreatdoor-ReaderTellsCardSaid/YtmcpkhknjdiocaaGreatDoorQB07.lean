/- slices.Equal at texts and numbers. Whether an item may be; whether items are alike. isItem. isLeaf. isBranch. -/
import Derived.Test.YtmcpkhknjdiocaaGreatDoorQB01
import Derived.Test.YtmcpkhknjdiocaaGreatDoorQB06
import Derived.RegionTactic
import Derived.ChangeAlike
import Derived.BigRegion
set_option linter.unusedSimpArgs false
set_option linter.unusedVariables false
namespace Go.Proofs.YtmcpkhknjdiocaaGreatDoor
open Go.RowKit
attribute [local go_sem low] mk_extract
attribute [local go_sem] After.cell After.frozen mk_extract_end ByteArray.mk_append_mk
set_option maxRecDepth 100000 in
set_option maxHeartbeats 400000 in
theorem equalTxts (l m : List Txt) (A B : Option Addr) (c d : Nat) {M N : Nat → Prop} (w : World) (hl : Txts w M A l) (hm : Txts w N B m) :
    Calls Tryz.prog 208 #[.slice A l.length c, .slice B m.length d] w fun e w' => e = .returned (.bool (decide (l = m))) ∧ Below w.heap.size w w' := by
  have hlen := hl.len
  have hmen := hm.len
  have Hl := Lib.hid hl
  have Hm := Lib.hid hm
  clear hl hm
  by_cases he : l.length = m.length
  · have he1 : ((l.length : Int) == (m.length : Int)) = true := by simp [he]
    have he2 : ((l.length : Int) != (m.length : Int)) = false := by simp [he]
    have HE := Lib.hid he
    clear he
    go_enter Tryz.func208, Tryz.ntmps208
    go_wp2
    go_loopw [13] (fun i wr => ∃ k : Nat, k ≤ l.length ∧ i = .int .i64 k ∧ Below w.heap.size w wr ∧ Hid (∀ j, j < k → l.getD j [] = m.getD j [])) (fun i _ => l.length - (intOf i).toNat)
    case atStart => exact ⟨0, Nat.zero_le _, rfl, Below.refl _ _, fun j h => absurd h (by omega)⟩
    case round =>
      obtain ⟨k, hk, rfl, hb, hok⟩ := hrel
      have hsz := hb.size
      by_cases hlt : k < l.length
      · obtain ⟨b, off, rfl, hbl, hc⟩ := Hl.out.at_ hlt
        obtain ⟨b2, off2, rfl, hbl2, hc2⟩ := Hm.out.at_ (HE.out ▸ hlt : k < m.length)
        have hltm : k < m.length := HE.out ▸ hlt
        have hc0 := (hb.cell (p := ⟨b, off + k, none⟩) hbl).trans (hc k hlt)
        have hc1 := (hb.cell (p := ⟨b2, off2 + k, none⟩) hbl2).trans (hc2 k hltm)
        have hbw : b < wr.heap.size := by omega
        have hbw2 : b2 < wr.heap.size := by omega
        clear hc hc2
        generalize hx : l.getD k [] = x at *
        generalize hy : m.getD k [] = y at *
        have HX := Lib.hid hx
        have HY := Lib.hid hy
        clear hx hy
        go_wp2
        refine wp_region_after (by kernel_rfl) (by kernel_rfl) (wr.heap.size) ?_
        repeat (go_big_quiet_step (fail))
        refine wpQuiet_nil ?_
        intro w2 hb2
        have hb3 := hb.trans (hb2.mono hsz)
        go_wp2
        all_goals first
          | (go_ret
             go_light
             have hne : x ≠ y := by grind
             exact ⟨ret_bool (by simpa using Sp.ne_at (k := k) (d := []) (by rw [HX.out, HY.out]; exact hne)), hb3⟩)
          | (go_light
             have hee : x = y := by grind
             refine ⟨⟨k + 1, by omega, by go_num, hb3, fun j hj => ?_⟩, by simp [intOf]; omega⟩
             rcases Nat.lt_succ_iff_lt_or_eq.1 hj with h | rfl
             · exact hok.out j h
             · rw [HX.out, HY.out]; exact hee)
      · have hkl : k = l.length := by omega
        go_wp2
        go_ret
        refine ⟨ret_bool ?_, hb⟩
        have := Sp.eq_all HE.out (fun j hj => hok.out j (by omega))
        simp [this]
  · have he1 : ((l.length : Int) == (m.length : Int)) = false := by simp; omega
    have he2 : ((l.length : Int) != (m.length : Int)) = true := by simp; omega
    have HE := Lib.hid he
    clear he
    go_enter Tryz.func208, Tryz.ntmps208
    go_wp2
    go_ret
    refine ⟨ret_bool ?_, Below.refl _ _⟩
    have hne : l ≠ m := fun e => HE.out (by rw [e])
    simp [hne]
end Go.Proofs.YtmcpkhknjdiocaaGreatDoor
namespace Go.Proofs.YtmcpkhknjdiocaaGreatDoor
open Go.RowKit
attribute [local go_sem low] mk_extract
attribute [local go_sem] After.cell After.frozen mk_extract_end ByteArray.mk_append_mk
/-- An item by value: its values are a slice that reads. -/
def ownV (x : Sp.Item) (V : Option Addr) (c : Nat) : List Value := if x.kind = 3 then itemV (Sp.own x) V c else itemV (Sp.own x) none 0
set_option maxRecDepth 100000 in
set_option maxHeartbeats 1600000 in
theorem own_any (x : Sp.Item) (V : Option Addr) (c : Nat) (w : World) :
    Calls Tryz.prog 199 #[.agg (itemV x V c).toArray] w fun e w' => e = .returned (.agg (ownV x V c).toArray) ∧ Below w.heap.size w w' := by
  obtain ⟨key, kind, val, run, len, vals, dup, rt⟩ := x
  simp only [itemV]
  by_cases h1 : kind = 1
  · subst h1
    go_enter Tryz.func199, Tryz.ntmps199
    go_wp2
    go_returns
    exact ⟨by simp [ownV, itemV, Sp.own, Sp.root0], by go_grown⟩
  · by_cases h2 : kind = 2
    · subst h2
      go_enter Tryz.func199, Tryz.ntmps199
      go_wp2
      go_region
      go_wp2
      go_returns
      exact ⟨by simp [ownV, itemV, Sp.own, Sp.root0], by go_grown⟩
    · by_cases h3 : kind = 3
      · subst h3
        go_enter Tryz.func199, Tryz.ntmps199
        go_wp2
        go_region
        go_wp2
        go_returns
        exact ⟨by simp [ownV, itemV, Sp.own, Sp.root0], by go_grown⟩
      · by_cases h4 : kind = 4
        · subst h4
          go_enter Tryz.func199, Tryz.ntmps199
          go_wp2
          go_returns
          exact ⟨by simp [ownV, itemV, Sp.own, Sp.root0], by go_grown⟩
        · go_enter Tryz.func199, Tryz.ntmps199
          go_wp2
          go_returns
          exact ⟨by simp [ownV, itemV, Sp.own, Sp.root0, h1, h2, h3, h4], by go_grown⟩
set_option maxRecDepth 100000 in
set_option maxHeartbeats 1600000 in
theorem sameItem_any (x y : Sp.Item) (V W : Option Addr) (c d : Nat) {M N : Nat → Prop} (w : World) (hx : Txts w M V x.vals) (hy : Txts w N W y.vals) :
    Calls Tryz.prog 198 #[.agg (itemV x V c).toArray, .agg (itemV y W d).toArray] w fun e w' => e = .returned (.bool (Sp.sameItem x y)) ∧ Below w.heap.size w w' := by
  obtain ⟨key, kind, val, run, len, vals, dup, ⟨rp, rc, rf⟩⟩ := x
  obtain ⟨key', kind', val', run', len', vals', dup', ⟨rp', rc', rf'⟩⟩ := y
  simp only [itemV]
  have Hx := Lib.hid hx
  have Hy := Lib.hid hy
  clear hx hy
  go_enter Tryz.func198, Tryz.ntmps198
  go_wp2_with (go_at_call 208; refine (equalTxts vals vals' V W c d _ (Hx.out.go (by go_grown)) (Hy.out.go (by go_grown))).mono ?_; rintro e w1 ⟨rfl, hb⟩; obtain ⟨hc, hf⟩ := bcell hb)
  all_goals
    go_ret
    go_light
    refine ⟨ret_bool ?_, by first | (refine Below.trans (b := (w.alloc _).alloc _) ?_ (hb.mono (by simp; omega)); go_grown) | go_grown⟩
    simp only [Sp.sameItem]
    grind
end Go.Proofs.YtmcpkhknjdiocaaGreatDoor
namespace Go.Proofs.YtmcpkhknjdiocaaGreatDoor
open Go.RowKit
attribute [local go_sem low] mk_extract
attribute [local go_sem] After.cell After.frozen mk_extract_end ByteArray.mk_append_mk
theorem own_ex (x : Sp.Item) (V : Option Addr) (c : Nat) : ∃ V' c', ownV x V c = itemV (Sp.own x) V' c' ∧ ∀ (w : World) (M : Nat → Prop), Txts w M V x.vals → Txts w M V' (Sp.own x).vals := by
  by_cases h : x.kind = 3
  · refine ⟨V, c, by simp [ownV, h], fun w M hh => ?_⟩
    simpa [Sp.own, h] using hh
  · refine ⟨none, 0, by simp [ownV, h], fun w M hh => ?_⟩
    have : (Sp.own x).vals = [] := by
      unfold Sp.own
      split
      · rfl
      · split
        · rfl
        · split <;> rfl
    rw [this]
    exact Row.nil_
set_option maxRecDepth 100000 in
set_option maxHeartbeats 1600000 in
theorem isItem_any (x : Sp.Item) (V : Option Addr) (c : Nat) {M : Nat → Prop} (w : World) (hx : Txts w M V x.vals) :
    Calls Tryz.prog 181 #[.agg (itemV x V c).toArray] w fun e w' => e = .returned (.bool (Sp.isItem x)) ∧ Below w.heap.size w w' := by
  have HS := Lib.hid (short_any x.key)
  have HI := Lib.hid (Sp.isItem_def x)
  have Hx := Lib.hid hx
  obtain ⟨V', c', hv, ht⟩ := own_ex x V c
  have HO := Lib.hid (own_any x V c)
  rw [hv] at HO
  have HE := Lib.hid (fun w h => sameItem_any x (Sp.own x) V V' c c' w h (ht w M h))
  clear hv ht hx
  generalize Sp.own x = z at *
  have e0 : (itemV x V c).toArray = #[.string ⟨x.key.toArray⟩, .int .i64 x.kind, .string ⟨x.val.toArray⟩, .int .i64 x.run, .int .i64 x.len, .slice V x.vals.length c, .int .i64 x.dup, .int .i64 x.root.page, .int .i64 x.root.count, .int .i64 x.root.flags] := rfl
  have E0 := Lib.hid e0
  clear e0
  cases hs : Sp.short x.key
  · rw [hs] at HS HI
    have HH := Lib.hid hs
    clear hs
    rw [E0.out]
    go_enter Tryz.func181, Tryz.ntmps181
    go_wp2
    refine wp_region_after (by kernel_rfl) (by kernel_rfl) (w.heap.size + 1) ?_
    repeat (go_big_quiet_step (first | (go_at_call 183; exact after_call (by simp) (HS.out _))))
    refine wpQuiet_nil ?_
    intro w1 hb
    obtain ⟨hc, hf⟩ := bcell hb
    go_wp2
    go_ret
    exact ⟨by rw [HI.out]; rfl, Below.trans (b := w.alloc _) (by go_grown) (hb.mono (by simp))⟩
  · rw [hs] at HS HI
    have HH := Lib.hid hs
    clear hs
    cases hs : Sp.sameItem x z
    all_goals
      rw [hs] at HI
      have HE2 : ∀ w, Txts w M V x.vals → _ := HE.out
      rw [hs] at HE2
      have HE := Lib.hid HE2
      have HH2 := Lib.hid hs
      clear hs HE2
      rw [E0.out]
      go_enter Tryz.func181, Tryz.ntmps181
      go_wp2
      refine wp_region_after (by kernel_rfl) (by kernel_rfl) (w.heap.size + 1) ?_
      repeat (go_big_quiet_step (first | (go_at_call 183; exact after_call (by simp) (HS.out _)) | (go_at_call 199; exact after_call (by simp) (HO.out _)) | (go_at_call 198; exact after_call (by simp) (HE.out _ (Hx.out.go (Below.trans (b := w.alloc _) (by go_grown) ((After.h _).mono (by simp))))))))
      refine wpQuiet_nil ?_
      intro w1 hb
      obtain ⟨hc, hf⟩ := bcell hb
    · go_wp2
      go_ret
      exact ⟨by rw [HI.out]; rfl, Below.trans (b := w.alloc _) (by go_grown) (hb.mono (by simp))⟩
    · have Hb := Lib.hid hb
      have hsz : w.heap.size < w1.heap.size := by have := hb.size; simp at this; omega
      go_wp2_with (first
        | (go_at_call 182; refine (isID_any _ _).mono ?_; rintro e w2 ⟨rfl, hb2⟩; have hz := hb2.size; have hsz : w.heap.size < w2.heap.size := Nat.lt_of_lt_of_le (by first | exact hsz | omega | (simp; done) | (simp; omega)) hz; obtain ⟨hc2, hf2⟩ := bcell hb2)
        | (go_at_call 157; refine (isVals_any x.vals V c 1 3 _ (Hx.out.go (by (repeat (first | (with_reducible exact Below.refl _ _) | (with_reducible assumption) | (refine below_step (by assumption) (by first | omega | (simp; done) | (simp; omega)) ?_) | (with_reducible refine Below.alloc ?_ (by first | omega | (simp; done) | (simp; omega)) _) | (with_reducible refine Below.drew ?_) | (with_reducible refine below_drewN ?_ _) | (with_reducible refine Below.setCell ?_ (by first | omega | (simp; done) | (simp; omega)) _)))))).mono ?_; rintro e w2 ⟨rfl, hb2⟩; have hz := hb2.size; have hsz : w.heap.size < w2.heap.size := Nat.lt_of_lt_of_le (by first | exact hsz | omega | (simp; done) | (simp; omega)) hz; obtain ⟨hc2, hf2⟩ := bcell hb2)
        | (go_at_call 159; refine (isRoot_any x.root _).mono ?_; rintro e w2 ⟨rfl, hb2⟩; have hz := hb2.size; have hsz : w.heap.size < w2.heap.size := Nat.lt_of_lt_of_le (by first | exact hsz | omega | (simp; done) | (simp; omega)) hz; obtain ⟨hc2, hf2⟩ := bcell hb2))
      all_goals
        go_ret
        refine ⟨ret_bool ?_, by (repeat (first | (with_reducible exact Below.refl _ _) | (with_reducible assumption) | (refine below_step (by assumption) (by first | omega | (simp; done) | (simp; omega)) ?_) | (with_reducible refine Below.alloc ?_ (by first | omega | (simp; done) | (simp; omega)) _) | (with_reducible refine Below.drew ?_) | (with_reducible refine below_drewN ?_ _) | (with_reducible refine Below.setCell ?_ (by first | omega | (simp; done) | (simp; omega)) _)))⟩
        rw [HI.out]
        go_light
        grind [Sp.kindOk, List.length_eq_zero_iff]
end Go.Proofs.YtmcpkhknjdiocaaGreatDoor
namespace Go.Proofs.YtmcpkhknjdiocaaGreatDoor
open Go.RowKit
attribute [local go_sem low] mk_extract
attribute [local go_sem] After.cell After.frozen mk_extract_end ByteArray.mk_append_mk
set_option maxRecDepth 100000 in
set_option maxHeartbeats 1600000 in
theorem isLeaf_any (l : List Sp.Item) (A : Option Addr) (c : Nat) {M : Nat → Prop} (w : World) (hl : Items w M A l) :
    Calls Tryz.prog 155 #[.slice A l.length c] w fun e w' => e = .returned (.bool (Sp.isLeaf l)) ∧ Below w.heap.size w w' := by
  have hlen := hl.len
  have Hl := Lib.hid hl
  clear hl
  go_enter Tryz.func155, Tryz.ntmps155
  go_wp2
  go_loopw [7] (fun i wr => ∃ k : Nat, k ≤ l.length ∧ i = .int .i64 k ∧ Below w.heap.size w wr ∧ Hid (∀ j, j < k → Sp.leafAt l j = true)) (fun i _ => l.length - (intOf i).toNat)
  case atStart => exact ⟨0, Nat.zero_le _, rfl, Below.refl _ _, fun j h => absurd h (by omega)⟩
  case round =>
    obtain ⟨k, hk, rfl, hb, hok⟩ := hrel
    have hsz := hb.size
    by_cases hlt : k < l.length
    · obtain ⟨b, off, rfl, hbl, hc⟩ := Hl.out.at_ hlt
      obtain ⟨V, cv, hi, ht⟩ := hc k hlt
      have hk1 : 0 < k → wr.cell? ⟨b, off + (k - 1) * 10, none⟩ = some (.string ⟨(l.getD (k - 1) Sp.item0).key.toArray⟩) := fun h => by
        obtain ⟨V', cv', hi', ht'⟩ := hc (k - 1) (by omega)
        exact (hb.cell (p := ⟨_, _, none⟩) hbl).trans hi'.c0
      clear hc
      have hi := hi.keep (w' := wr) fun j => hb.cell (p := ⟨_, _, none⟩) hbl
      have ht := Lib.hid (ht.go hb)
      obtain ⟨h0, h1, h2, h3, h4, h5, h6, h7, h8, h9⟩ := hi
      have HV := Lib.hid (Sp.leafAt_def l k)
      have hbw : b < wr.heap.size := by omega
      generalize l.getD k Sp.item0 = x at *
      generalize (l.getD (k - 1) Sp.item0).key = y at *
      have HI := Lib.hid (fun w => isItem_any x V cv (M := M) w)
      have hclose : ∀ w2, Sp.leafAt l k = false → Below w.heap.size w w2 → (Ending.returned (.bool false) = .returned (.bool (Sp.isLeaf l)) ∧ Below w.heap.size w w2) := fun w2 hv h2 =>
        ⟨by rw [Sp.isLeaf, Sp.allTo_false hlt hv]; rfl, h2⟩
      have Hclose := Lib.hid hclose
      clear hclose
      have hnext : Sp.leafAt l k = true → ∀ j, j < k + 1 → Sp.leafAt l j = true := fun hv j hj => by
        rcases Nat.lt_succ_iff_lt_or_eq.1 hj with h | rfl
        · exact hok.out j h
        · exact hv
      have Hnext := Lib.hid hnext
      clear hnext
      cases hI : Sp.isItem x
      · rw [hI] at HI HV
        have HI2 := Lib.hid hI
        clear hI
        go_wp2
        refine wp_region_after (by kernel_rfl) (by kernel_rfl) (wr.heap.size + 1) ?_
        repeat (go_big_quiet_step (first | (go_at_call 181; exact after_call (by simp) (HI.out _ (Txts.go ht.out (Below.trans (b := wr.alloc _) (by go_grown) ((After.h _).mono (by simp))))))))
        refine wpQuiet_nil ?_
        intro w2 hb2
        go_wp2
        go_ret
        exact Hclose.out _ (by rw [HV.out]; rfl) (by (repeat (first | (with_reducible exact Below.refl _ _) | (with_reducible assumption) | (refine below_step (by assumption) (by first | omega | (simp; done) | (simp; omega)) ?_) | (with_reducible refine Below.alloc ?_ (by first | omega | (simp; done) | (simp; omega)) _) | (with_reducible refine Below.drew ?_) | (with_reducible refine below_drewN ?_ _) | (with_reducible refine Below.setCell ?_ (by first | omega | (simp; done) | (simp; omega)) _))))
      · rw [hI] at HI HV
        have HI2 := Lib.hid hI
        clear hI
        by_cases h0k : k = 0
        · have hkz : ¬ 0 < k := by omega
          have HK := Lib.hid h0k
          clear h0k
          go_wp2
          refine wp_region_after (by kernel_rfl) (by kernel_rfl) (wr.heap.size + 1) ?_
          repeat (go_big_quiet_step (first | (go_at_call 181; exact after_call (by simp) (HI.out _ (Txts.go ht.out (Below.trans (b := wr.alloc _) (by go_grown) ((After.h _).mono (by simp))))))))
          refine wpQuiet_nil ?_
          intro w2 hb2
          go_wp2
          exact ⟨⟨k + 1, by omega, by go_num, by (repeat (first | (with_reducible exact Below.refl _ _) | (with_reducible assumption) | (refine below_step (by assumption) (by first | omega | (simp; done) | (simp; omega)) ?_) | (with_reducible refine Below.alloc ?_ (by first | omega | (simp; done) | (simp; omega)) _) | (with_reducible refine Below.drew ?_) | (with_reducible refine below_drewN ?_ _) | (with_reducible refine Below.setCell ?_ (by first | omega | (simp; done) | (simp; omega)) _))), Hnext.out (by rw [HV.out]; simp [HK.out])⟩, by simp [intOf]; omega⟩
        · have hkz : 0 < k := by omega
          have hk2 := hk1 hkz
          clear hk1
          have HK := Lib.hid h0k
          clear h0k
          cases hlt2 : Op.bytesLess y x.key
          all_goals
            go_wp2
            refine wp_region_after (by kernel_rfl) (by kernel_rfl) (wr.heap.size + 1) ?_
            repeat (go_big_quiet_step (first | (go_at_call 181; exact after_call (by simp) (HI.out _ (Txts.go ht.out (Below.trans (b := wr.alloc _) (by go_grown) ((After.h _).mono (by simp))))))))
            refine wpQuiet_nil ?_
            intro w2 hb2
            go_wp2
          · go_ret
            exact Hclose.out _ (by rw [HV.out]; simp [HK.out, Sp.lt, hlt2]) (by (repeat (first | (with_reducible exact Below.refl _ _) | (with_reducible assumption) | (refine below_step (by assumption) (by first | omega | (simp; done) | (simp; omega)) ?_) | (with_reducible refine Below.alloc ?_ (by first | omega | (simp; done) | (simp; omega)) _) | (with_reducible refine Below.drew ?_) | (with_reducible refine below_drewN ?_ _) | (with_reducible refine Below.setCell ?_ (by first | omega | (simp; done) | (simp; omega)) _))))
          · exact ⟨⟨k + 1, by omega, by go_num, by (repeat (first | (with_reducible exact Below.refl _ _) | (with_reducible assumption) | (refine below_step (by assumption) (by first | omega | (simp; done) | (simp; omega)) ?_) | (with_reducible refine Below.alloc ?_ (by first | omega | (simp; done) | (simp; omega)) _) | (with_reducible refine Below.drew ?_) | (with_reducible refine below_drewN ?_ _) | (with_reducible refine Below.setCell ?_ (by first | omega | (simp; done) | (simp; omega)) _))), Hnext.out (by rw [HV.out]; simp [Sp.lt, hlt2])⟩, by simp [intOf]; omega⟩
    · have hkl : k = l.length := by omega
      go_wp2
      all_goals
        go_ret
        refine ⟨ret_bool ?_, hb⟩
        go_light
        rw [Sp.isLeaf, Sp.allTo_true fun j hj => hok.out j (by omega)]
        grind
end Go.Proofs.YtmcpkhknjdiocaaGreatDoor
namespace Go.Proofs.YtmcpkhknjdiocaaGreatDoor
open Go.RowKit
attribute [local go_sem low] mk_extract
attribute [local go_sem] After.cell After.frozen mk_extract_end ByteArray.mk_append_mk
set_option maxRecDepth 100000 in
set_option maxHeartbeats 1600000 in
theorem isBranch_any (p : Sp.Page) (r : Refs) {M : Nat → Prop} (w : World) (hp : PageRd w M p r) :
    Calls Tryz.prog 156 #[.agg (pageV p r).toArray] w fun e w' => e = .returned (.bool (Sp.isBranch p)) ∧ Below w.heap.size w w' := by
  have Hk := Lib.hid hp.keys
  have Hd := Lib.hid hp.kids
  clear hp
  have hdl := Hd.out.len
  have hkl := Hk.out.len
  have HB := Lib.hid (Sp.isBranch_def p)
  obtain ⟨I, K, D, V, F, ci, ck, cd, cv, cf⟩ := r
  simp only [pageV] at *
  by_cases hd : 2 ≤ p.kids.length ∧ p.kids.length ≤ 4 ∧ p.keys.length = p.kids.length
  · obtain ⟨d2, d4, hkd⟩ := hd
    have he1 : ((p.keys.length : Int) == (p.kids.length : Int)) = true := by simp [hkd]
    have he2 : ((p.keys.length : Int) != (p.kids.length : Int)) = false := by simp [hkd]
    have hk0 : 0 < p.keys.length := by omega
    obtain ⟨kb, ko, rfl, hkb, hkc⟩ := Hk.out.at_ hk0
    obtain ⟨db, do_, rfl, hdb, hdc⟩ := Hd.out.at_ (by omega : 0 < p.kids.length)
    have hkc0 := hkc 0 (by omega)
    simp only [Nat.add_zero] at hkc0
    have Hkc := Lib.hid hkc
    have Hdc := Lib.hid hdc
    have HKD := Lib.hid hkd
    have HB2 := HB.out
    rw [decide_eq_true d2, decide_eq_true d4, decide_eq_true hkd] at HB2
    simp only [Bool.true_and] at HB2
    clear hkc hdc hkd HB
    have HB := Lib.hid HB2
    clear HB2
    by_cases hf : p.keys.getD 0 [] = []
    · have hfe : List.isEmpty (p.keys.getD 0 []) = true := by rw [hf]; rfl
      have HB2 := HB.out
      rw [decide_eq_true hf] at HB2
      simp only [Bool.true_and] at HB2
      clear HB hf
      have HB := Lib.hid HB2
      clear HB2
      generalize p.keys.getD 0 [] = y0 at hkc0 hfe
      go_enter Tryz.func156, Tryz.ntmps156
      go_wp2
      go_loopw [34] (fun i wr => ∃ k : Nat, k ≤ p.kids.length ∧ i = .int .i64 k ∧ Below w.heap.size w wr ∧ w.heap.size < wr.heap.size ∧ wr.cell? ⟨w.heap.size, 2, none⟩ = some (.slice (some ⟨kb, ko, none⟩) p.keys.length ck) ∧ Hid (∀ j, j < k → Sp.branchAt p.keys p.kids j = true)) (fun i _ => p.kids.length - (intOf i).toNat)
      case atStart => exact ⟨0, Nat.zero_le _, rfl, by go_grown, by simp, by simp [go_sem], fun j h => absurd h (by omega)⟩
      case round =>
        obtain ⟨k, hk, rfl, hb, hsw, hbox, hok⟩ := hrel
        by_cases hlt : k < p.kids.length
        · have hdc0 := (hb.cell (p := ⟨_, _, none⟩) hdb).trans (Hdc.out k hlt)
          have hkc1 := (hb.cell (p := ⟨_, _, none⟩) hkb).trans (Hkc.out k (by have := HKD.out; omega))
          have hkc2 := (hb.cell (p := ⟨_, _, none⟩) hkb).trans (Hkc.out (k - 1) (by have := HKD.out; omega))
          have hltk : k < p.keys.length := by have := HKD.out; omega
          have hkbw : kb < wr.heap.size := by omega
          have HV := Lib.hid (Sp.branchAt_def p.keys p.kids k)
          generalize p.kids.getD k 0 = d at *
          generalize p.keys.getD k [] = x at *
          generalize p.keys.getD (k - 1) [] = y at *
          have hnext : Sp.branchAt p.keys p.kids k = true → ∀ j, j < k + 1 → Sp.branchAt p.keys p.kids j = true := fun hv j hj => by
            rcases Nat.lt_succ_iff_lt_or_eq.1 hj with h | rfl
            · exact hok.out j h
            · exact hv
          have Hnext := Lib.hid hnext
          clear hnext
          have HI := Lib.hid (isID_any d)
          have HS := Lib.hid (short_any x)
          cases h1 : Sp.isID d <;> rw [h1] at HI HV
          · clear h1
            go_wp2
            refine wp_region_after (by kernel_rfl) (by kernel_rfl) (wr.heap.size) ?_
            repeat (go_big_quiet_step ((go_at_call 182; exact after_call (by simp) (HI.out _))))
            refine wpQuiet_nil ?_
            intro w2 hb2
            go_wp2
            go_ret
            exact ⟨ret_bool (by rw [HB.out, Sp.allTo_false hlt (by rw [HV.out]; rfl)]), by (repeat (first | (with_reducible exact Below.refl _ _) | (with_reducible assumption) | (refine below_step (by assumption) (by first | omega | (simp; done) | (simp; omega)) ?_) | (with_reducible refine Below.alloc ?_ (by first | omega | (simp; done) | (simp; omega)) _) | (with_reducible refine Below.drew ?_) | (with_reducible refine below_drewN ?_ _) | (with_reducible refine Below.setCell ?_ (by first | omega | (simp; done) | (simp; omega)) _)))⟩
          · clear h1
            by_cases h0k : k = 0
            · have hkz : ¬ 0 < k := by omega
              have HK := Lib.hid h0k
              clear h0k
              go_wp2
              refine wp_region_after (by kernel_rfl) (by kernel_rfl) (wr.heap.size) ?_
              repeat (go_big_quiet_step ((go_at_call 182; exact after_call (by simp) (HI.out _))))
              refine wpQuiet_nil ?_
              intro w2 hb2
              obtain ⟨hc2, hf2⟩ := bcell hb2
              have hz2 := hb2.size
              go_wp2
              exact ⟨⟨k + 1, by omega, by go_num, by (repeat (first | (with_reducible exact Below.refl _ _) | (with_reducible assumption) | (refine below_step (by assumption) (by first | omega | (simp; done) | (simp; omega)) ?_) | (with_reducible refine Below.alloc ?_ (by first | omega | (simp; done) | (simp; omega)) _) | (with_reducible refine Below.drew ?_) | (with_reducible refine below_drewN ?_ _) | (with_reducible refine Below.setCell ?_ (by first | omega | (simp; done) | (simp; omega)) _))), by omega, (hc2 _ _ hsw).trans hbox, Hnext.out (by rw [HV.out]; simp [HK.out])⟩, by simp [intOf]; omega⟩
            · have hkz : 0 < k := by omega
              have hkd0 : decide (k = 0) = false := by simp [h0k]
              rw [hkd0] at HV
              clear h0k hkd0
              cases h2 : Sp.short x <;> rw [h2] at HS HV <;> clear h2
              · go_wp2
                refine wp_region_after (by kernel_rfl) (by kernel_rfl) (wr.heap.size) ?_
                repeat (go_big_quiet_step (first | (go_at_call 182; exact after_call (by simp) (HI.out _)) | (go_at_call 183; exact after_call (by simp) (HS.out _))))
                refine wpQuiet_nil ?_
                intro w2 hb2
                go_wp2
                go_ret
                exact ⟨ret_bool (by rw [HB.out, Sp.allTo_false hlt (by rw [HV.out]; rfl)]), by (repeat (first | (with_reducible exact Below.refl _ _) | (with_reducible assumption) | (refine below_step (by assumption) (by first | omega | (simp; done) | (simp; omega)) ?_) | (with_reducible refine Below.alloc ?_ (by first | omega | (simp; done) | (simp; omega)) _) | (with_reducible refine Below.drew ?_) | (with_reducible refine below_drewN ?_ _) | (with_reducible refine Below.setCell ?_ (by first | omega | (simp; done) | (simp; omega)) _)))⟩
              · cases h3 : Op.bytesLess y x
                all_goals
                  go_wp2
                  refine wp_region_after (by kernel_rfl) (by kernel_rfl) (wr.heap.size) ?_
                  repeat (go_big_quiet_step (first | (go_at_call 182; exact after_call (by simp) (HI.out _)) | (go_at_call 183; exact after_call (by simp) (HS.out _))))
                  refine wpQuiet_nil ?_
                  intro w2 hb2
                  obtain ⟨hc2, hf2⟩ := bcell hb2
                  have hz2 := hb2.size
                  go_wp2
                · go_ret
                  exact ⟨ret_bool (by rw [HB.out, Sp.allTo_false hlt (by rw [HV.out]; simp [Sp.lt, h3])]), by (repeat (first | (with_reducible exact Below.refl _ _) | (with_reducible assumption) | (refine below_step (by assumption) (by first | omega | (simp; done) | (simp; omega)) ?_) | (with_reducible refine Below.alloc ?_ (by first | omega | (simp; done) | (simp; omega)) _) | (with_reducible refine Below.drew ?_) | (with_reducible refine below_drewN ?_ _) | (with_reducible refine Below.setCell ?_ (by first | omega | (simp; done) | (simp; omega)) _)))⟩
                · exact ⟨⟨k + 1, by omega, by go_num, by (repeat (first | (with_reducible exact Below.refl _ _) | (with_reducible assumption) | (refine below_step (by assumption) (by first | omega | (simp; done) | (simp; omega)) ?_) | (with_reducible refine Below.alloc ?_ (by first | omega | (simp; done) | (simp; omega)) _) | (with_reducible refine Below.drew ?_) | (with_reducible refine below_drewN ?_ _) | (with_reducible refine Below.setCell ?_ (by first | omega | (simp; done) | (simp; omega)) _))), by omega, (hc2 _ _ hsw).trans hbox, Hnext.out (by rw [HV.out]; simp [Sp.lt, h3])⟩, by simp [intOf]; omega⟩
        · have hkl2 : k = p.kids.length := by omega
          go_wp2
          go_ret
          exact ⟨ret_bool (by rw [HB.out, Sp.allTo_true fun j hj => hok.out j (by omega)]), hb⟩
    · have hfe : List.isEmpty (p.keys.getD 0 []) = false := by simpa [List.isEmpty_eq_false_iff] using hf
      have HB2 := HB.out
      rw [decide_eq_false hf] at HB2
      clear HB hf
      have HB := Lib.hid HB2
      clear HB2
      generalize p.keys.getD 0 [] = y0 at hkc0 hfe
      go_enter Tryz.func156, Tryz.ntmps156
      go_wp2
      go_ret
      exact ⟨ret_bool (by rw [HB.out]; rfl), by go_grown⟩
  · have hno : Sp.isBranch p = false := by
      rw [HB.out]
      by_cases a1 : 2 ≤ p.kids.length
      · by_cases a2 : p.kids.length ≤ 4
        · have a3 : ¬ p.keys.length = p.kids.length := fun h => hd ⟨a1, a2, h⟩
          simp [a3]
        · simp [a2]
      · simp [a1]
    have HN := Lib.hid hno
    clear hno HB
    rcases (by omega : p.kids.length < 2 ∨ 4 < p.kids.length ∨ p.keys.length ≠ p.kids.length) with h | h | h
    · clear hd
      go_enter Tryz.func156, Tryz.ntmps156
      go_wp2
      go_ret
      exact ⟨ret_bool (by rw [HN.out]), by go_grown⟩
    · clear hd
      go_enter Tryz.func156, Tryz.ntmps156
      go_wp2
      go_ret
      exact ⟨ret_bool (by rw [HN.out]), by go_grown⟩
    · have he1 : ((p.keys.length : Int) == (p.kids.length : Int)) = false := by simp; omega
      have he2 : ((p.keys.length : Int) != (p.kids.length : Int)) = true := by simp; omega
      have HX := Lib.hid h
      by_cases a1 : 2 ≤ p.kids.length
      · by_cases a2 : p.kids.length ≤ 4
        · clear hd h
          go_enter Tryz.func156, Tryz.ntmps156
          go_wp2
          go_ret
          exact ⟨ret_bool (by rw [HN.out]), by go_grown⟩
        · clear hd h
          go_enter Tryz.func156, Tryz.ntmps156
          go_wp2
          go_ret
          exact ⟨ret_bool (by rw [HN.out]), by go_grown⟩
      · clear hd h
        go_enter Tryz.func156, Tryz.ntmps156
        go_wp2
        go_ret
        exact ⟨ret_bool (by rw [HN.out]), by go_grown⟩
end Go.Proofs.YtmcpkhknjdiocaaGreatDoor
