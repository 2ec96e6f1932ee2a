/- Readers' steps: the step of a phase; a step. Readers' steps: a step. The plain law of metas: which of two counts. Readers' steps: versions that are written by turns, what a reader sees of them: the plain side. The document's numbers and texts as bytes, its sums, its small words. The document's vals. -/
import Derived.Test.YtmcpkhknjdiocaaGreatDoorQB00
import Derived.Test.YtmcpkhknjdiocaaGreatDoorQB01
import Derived.Test.YtmcpkhknjdiocaaGreatDoorQB06
import Derived.Test.YtmcpkhknjdiocaaGreatDoorQB12
import Derived.Test.YtmcpkhknjdiocaaGreatDoorQB13
import Derived.WalkMore
import Derived.RegionTactic
import Derived.ChangeAlike
import Derived.BigRegion
set_option linter.unusedSimpArgs false
set_option linter.unusedVariables false
namespace Go.Proofs.YtmcpkhknjdiocaaGreatDoor
open Go.RowKit
attribute [local go_sem low] mk_extract
attribute [local go_sem] After.cell After.frozen mk_extract_end ByteArray.mk_append_mk
theorem RdAt.ne {w : World} {p l : Nat} {r : Sp.Rdr} {wn : Int} {sl : List Sp.Sl} (h : RdAt w p r) (hl : LockAt w l wn sl) : p ≠ l := fun e => by
  subst e
  exact Blk.not_ h (by decide) _ hl.bl
set_option maxRecDepth 100000 in
set_option maxHeartbeats 6400000 in
theorem rdGoes_any (p f m l : Nat) (r : Sp.Rdr) (v : Value) (V : List Txt) (wn : Int) (sl : List Sp.Sl) (w : World) (hr : RdAt w p r) (hf : FileAt w f v m V) (hl : LockAt w l wn sl) (hn : V.length ≤ 400) (hph : 1 ≤ r.phase ∧ r.phase ≤ 5) :
    Calls Tryz.prog 57 #[.pointer (some ⟨p, 0, none⟩), .pointer (some ⟨f, 0, none⟩), .pointer (some ⟨l, 0, none⟩)] w fun e w' => e = .returned (.tuple #[]) ∧ RdAt w' p (r.goes (Sp.atV V 0) (Sp.atV V 1) sl).1 ∧ LockAt w' l wn (r.goes (Sp.atV V 0) (Sp.atV V 1) sl).2 ∧ Chg (fun k => k = p ∨ k = l) w w' := by
  have hpl := hr.ne hl
  have HR := Lib.hid hr
  have HF := Lib.hid hf
  have HL := Lib.hid hl
  have c0 : w.cell? ⟨p, 0, none⟩ = some (.int .i64 r.pid) := Blk.cell hr 0
  have c2 : w.cell? ⟨p, 2, none⟩ = some (.int .i64 r.phase) := Blk.cell hr 2
  have f2 := Blk.frozen hr 2
  have c3 : w.cell? ⟨p, 3, none⟩ = some (.int .i64 r.slot) := Blk.cell hr 3
  have f3 := Blk.frozen hr 3
  clear hr hf hl
  rcases (by omega : r.phase = 1 ∨ r.phase = 2 ∨ r.phase = 3 ∨ r.phase = 4 ∨ r.phase = 5) with h | h | h | h | h
  · rw [h] at c2
    have HG := Lib.hid (show r.goes (Sp.atV V 0) (Sp.atV V 1) sl = (match Sp.claim sl r.pid with | some i => { r with slot := (i : Int), phase := 2 } | none => { r with phase := 0, err := some 15 }, Sp.claimed sl r.pid) by unfold Sp.Rdr.goes; rw [if_pos h]; rfl)
    rcases hcl : Sp.claim sl r.pid with _ | i
    · have HCV := Lib.hid (show claimV sl r.pid = .tuple #[.int .i64 (-1), .iface ErrT (.int .i64 15)] by unfold claimV; rw [hcl])
      rw [hcl] at HG
      dsimp only at HG
      clear hcl h hph
      go_enter Tryz.func57, Tryz.ntmps57
      go_wp2_with (first
        | (go_at_call 17; refine (claim_any l wn sl r.pid _ HL.out).mono ?_; rintro e w2 ⟨rfl, hl2, hk2⟩; rw [HCV.out]; have HL2 := Lib.hid hl2; have HK2 := Lib.hid hk2; have HR2 := Lib.hid (HR.out.chg hk2 (by unfold OneM; exact hpl)); clear hl2 hk2)
        | (go_at_call 85; refine (rdEnds_any p r (some 15) _ HR2.out).mono ?_; rintro e w3 ⟨rfl, hr3, hk3⟩; have HR3 := Lib.hid hr3; have HK3 := Lib.hid hk3; clear hr3 hk3))
      refine bodyPost_ret (v := .tuple #[]) (by first | rfl | simp [results, Tryz.results57, go_sem]) rfl ⟨rfl, by rw [HG.out]; exact HR3.out, by rw [HG.out]; exact HL2.out.chg HK3.out (by unfold OneM; exact fun e => hpl e.symm), ?_⟩
      exact (HK2.out.mono (fun k _ h => .inr h)).trans (HK3.out.mono (fun k _ h => .inl h))
    · have HCV := Lib.hid (show claimV sl r.pid = .tuple #[.int .i64 (i : Int), .nilIface] by unfold claimV; rw [hcl])
      rw [hcl] at HG
      dsimp only at HG
      clear hcl h hph
      go_enter Tryz.func57, Tryz.ntmps57
      go_upto_region 5 with (go_at_call 17; refine (claim_any l wn sl r.pid _ HL.out).mono ?_; rintro e w2 ⟨rfl, hl2, hk2⟩; rw [HCV.out]; have HL2 := Lib.hid hl2; have HK2 := Lib.hid hk2; have HR2 := Lib.hid (HR.out.chg hk2 (by unfold OneM; exact hpl)); clear hl2 hk2)
      clear c0 c2 f2 c3 f3
      have c2 : w2.cell? ⟨p, 2, none⟩ = some (.int .i64 r.phase) := Blk.cell HR2.out 2
      have f2 := Blk.frozen HR2.out 2
      have c3 : w2.cell? ⟨p, 3, none⟩ = some (.int .i64 r.slot) := Blk.cell HR2.out 3
      have f3 := Blk.frozen HR2.out 3
      go_wp2_with fail
      go_end0
      have hks : Chg (OneM p) w2 ((w2.setCell ⟨p, 3, none⟩ (.int .i64 (i : Int))).setCell ⟨p, 2, none⟩ (.int .i64 2)) := (Chg.set1 _ _ _ _).trans (Chg.set1 _ _ _ _)
      refine ⟨rfl, by rw [HG.out]; exact (Blk.set_ HR2.out 3 _).set_ 2 _, by rw [HG.out]; exact HL2.out.chg hks (by unfold OneM; exact fun e => hpl e.symm), ?_⟩
      exact (HK2.out.mono (fun k _ h => .inr h)).trans (hks.mono (fun k _ h => .inl h))
  · rw [h] at c2
    have HG := Lib.hid (show r.goes (Sp.atV V 0) (Sp.atV V 1) sl = (r.looks (Sp.atV V 0) (Sp.atV V 1), sl) by unfold Sp.Rdr.goes; rw [if_neg (by omega), if_pos (.inl h)])
    clear h hph
    go_enter Tryz.func57, Tryz.ntmps57
    go_wp2_with (go_at_call 86; refine (rdLooks_any p f m r v V _ HR.out HF.out hn).mono ?_; rintro e w2 ⟨rfl, hr2, hk2⟩; have HR2 := Lib.hid hr2; have HK2 := Lib.hid hk2; clear hr2 hk2)
    go_end0
    exact ⟨rfl, by rw [HG.out]; exact HR2.out, by rw [HG.out]; exact HL.out.chg HK2.out (by unfold OneM; exact fun e => hpl e.symm), HK2.out.mono (fun k _ h => .inl h)⟩
  · rw [h] at c2
    have HG := Lib.hid (show r.goes (Sp.atV V 0) (Sp.atV V 1) sl = (if Sp.owns sl r.slot r.pid then { r with phase := 4 } else { r with phase := 0, err := some 18 }, Sp.publish sl r.slot r.pid r.mt.txn) by unfold Sp.Rdr.goes; rw [if_neg (by omega), if_neg (by omega), if_pos h])
    clear h hph
    have HR1 := Lib.hid (show RdAt (w.setCell ⟨p, 2, none⟩ (.int .i64 4)) p { r with phase := 4 } from Blk.set_ HR.out 2 (.int .i64 4))
    have HK1 := Lib.hid (Chg.set1 w p 2 (.int .i64 4))
    have HL1 := Lib.hid (HL.out.chg HK1.out (by unfold OneM; exact fun e => hpl e.symm))
    rcases how : Sp.owns sl r.slot r.pid with _ | _
    all_goals
      rw [how] at HG
      simp only [if_true, Bool.false_eq_true, if_false] at HG
      have HOW := Lib.hid how
      clear how
      go_enter Tryz.func57, Tryz.ntmps57
      go_upto_region 11 with fail
      clear c0 c2 f2 c3 f3
      generalize w.setCell ⟨p, 2, none⟩ (.int .i64 4) = W1 at *
      have c0 : W1.cell? ⟨p, 0, none⟩ = some (.int .i64 r.pid) := Blk.cell HR1.out 0
      have c3 : W1.cell? ⟨p, 3, none⟩ = some (.int .i64 r.slot) := Blk.cell HR1.out 3
      have c4 : W1.cell? ⟨p, 4, none⟩ = some (.int .u64 r.mt.txn) := Blk.cell HR1.out 4
      go_region_law (go_simp; go_at_call 87; refine (publish_any l wn sl r.slot r.pid r.mt.txn _ ⟨Blk.drew HL1.out.bl, HL1.out.len⟩).mono ?_; rintro e w2 ⟨rfl, hl2, hk2⟩; rw [HOW.out]; simp only [if_true, Bool.false_eq_true, if_false, erV]; have HL2 := Lib.hid hl2; have HK2 := Lib.hid (Chg.trans ((Chg.refl (OneM l) W1).drew) hk2); have HR2 := Lib.hid (RdAt.chg HR1.out HK2.out (by unfold OneM; exact hpl)); clear hl2 hk2)
      all_goals
        go_wp2_with (go_at_call 85; refine (rdEnds_any p { r with phase := 4 } (some 18) _ HR2.out).mono ?_; rintro e w3 ⟨rfl, hr3, hk3⟩; have HR3 := Lib.hid hr3; have HK3 := Lib.hid hk3; clear hr3 hk3)
        go_end0
        first
          | exact ⟨rfl, by rw [HG.out]; exact HR2.out, by rw [HG.out]; exact HL2.out, (HK1.out.mono (fun k _ h => .inl h)).trans (HK2.out.mono (fun k _ h => .inr h))⟩
          | exact ⟨rfl, by rw [HG.out]; exact HR3.out, by rw [HG.out]; exact HL2.out.chg HK3.out (by unfold OneM; exact fun e => hpl e.symm), ((HK1.out.mono (fun k _ h => .inl h)).trans (HK2.out.mono (fun k _ h => .inr h))).trans (HK3.out.mono (fun k _ h => .inl h))⟩
  · rw [h] at c2
    have HG := Lib.hid (show r.goes (Sp.atV V 0) (Sp.atV V 1) sl = (r.looks (Sp.atV V 0) (Sp.atV V 1), sl) by unfold Sp.Rdr.goes; rw [if_neg (by omega), if_pos (.inr h)])
    clear h hph
    go_enter Tryz.func57, Tryz.ntmps57
    go_wp2_with (go_at_call 86; refine (rdLooks_any p f m r v V _ HR.out HF.out hn).mono ?_; rintro e w2 ⟨rfl, hr2, hk2⟩; have HR2 := Lib.hid hr2; have HK2 := Lib.hid hk2; clear hr2 hk2)
    go_end0
    exact ⟨rfl, by rw [HG.out]; exact HR2.out, by rw [HG.out]; exact HL.out.chg HK2.out (by unfold OneM; exact fun e => hpl e.symm), HK2.out.mono (fun k _ h => .inl h)⟩
  · rw [h] at c2
    have HG := Lib.hid (show r.goes (Sp.atV V 0) (Sp.atV V 1) sl = ({ r with slot := -1, phase := 0 }, Sp.freeSl sl r.slot r.pid) by unfold Sp.Rdr.goes; rw [if_neg (by omega), if_neg (by omega), if_neg (by omega), if_pos h])
    clear h hph
    go_enter Tryz.func57, Tryz.ntmps57
    go_upto_region 15 with fail
    go_region_law (go_simp; go_at_call 19; refine (freeSl_any l wn sl r.slot r.pid _ ⟨Blk.drew HL.out.bl, HL.out.len⟩).mono ?_; rintro e w2 ⟨rfl, hl2, hk2⟩; have HL2 := Lib.hid hl2; have HK2 := Lib.hid (Chg.trans ((Chg.refl (OneM l) w).drew) hk2); have HR2 := Lib.hid (RdAt.chg HR.out HK2.out (by unfold OneM; exact hpl)); clear hl2 hk2)
    all_goals
      clear c0 c2 f2 c3 f3
      have c3 : w2.cell? ⟨p, 3, none⟩ = some (.int .i64 r.slot) := Blk.cell HR2.out 3
      have f3 := Blk.frozen HR2.out 3
      go_upto_region 17 with fail
      have HR3 := Lib.hid (show RdAt (w2.setCell ⟨p, 3, none⟩ (.int .i64 (-1))) p { r with slot := -1 } from Blk.set_ HR2.out 3 _)
      have HK3 := Lib.hid (Chg.set1 w2 p 3 (.int .i64 (-1)))
      clear c3 f3
      generalize w2.setCell ⟨p, 3, none⟩ (.int .i64 (-1)) = W3 at *
      have c10 : W3.cell? ⟨p, 10, none⟩ = some (erV r.err) := Blk.cell HR3.out 10
      go_wp2_with (go_at_call 85; refine (rdEnds_any p { r with slot := -1 } r.err _ HR3.out).mono ?_; rintro e w4 ⟨rfl, hr4, hk4⟩; have HR4 := Lib.hid hr4; have HK4 := Lib.hid hk4; clear hr4 hk4)
      all_goals
        go_end0
        have hk34 := HK3.out.trans HK4.out
        exact ⟨rfl, by rw [HG.out]; exact HR4.out, by rw [HG.out]; exact HL2.out.chg hk34 (by unfold OneM; exact fun e => hpl e.symm), (HK2.out.mono (fun k _ h => .inr h)).trans (hk34.mono (fun k _ h => .inl h))⟩
end Go.Proofs.YtmcpkhknjdiocaaGreatDoor
namespace Go.Proofs.YtmcpkhknjdiocaaGreatDoor
open Go.RowKit
attribute [local go_sem low] mk_extract
attribute [local go_sem] After.cell After.frozen mk_extract_end ByteArray.mk_append_mk
namespace Sp
/-- A step: what it answers, what it leaves. -/
def Rdr.step (r : Rdr) (a b : Txt) (sl : List Sl) : (Bool × Option Int) × (Rdr × List Sl) :=
  if r.phase = 0 then ((true, r.err), (r, sl)) else if (r.goes a b sl).1.phase = 0 then ((true, (r.goes a b sl).1.err), r.goes a b sl) else ((false, none), r.goes a b sl)
end Sp
set_option maxRecDepth 100000 in
set_option maxHeartbeats 6400000 in
theorem rdStep_any (p f m l : Nat) (r : Sp.Rdr) (v : Value) (V : List Txt) (wn : Int) (sl : List Sp.Sl) (w : World) (hr : RdAt w p r) (hf : FileAt w f v m V) (hl : LockAt w l wn sl) (hn : V.length ≤ 400) (hph : 0 ≤ r.phase ∧ r.phase ≤ 5) :
    Calls Tryz.prog 21 #[.pointer (some ⟨p, 0, none⟩), .pointer (some ⟨f, 0, none⟩), .pointer (some ⟨l, 0, none⟩)] w fun e w' => e = .returned (.tuple #[.bool (r.step (Sp.atV V 0) (Sp.atV V 1) sl).1.1, erV (r.step (Sp.atV V 0) (Sp.atV V 1) sl).1.2]) ∧ RdAt w' p (r.step (Sp.atV V 0) (Sp.atV V 1) sl).2.1 ∧ LockAt w' l wn (r.step (Sp.atV V 0) (Sp.atV V 1) sl).2.2 ∧ Chg (fun k => k = p ∨ k = l) w w' := by
  have HR := Lib.hid hr
  have HF := Lib.hid hf
  have HL := Lib.hid hl
  have HST := Lib.hid (show r.step (Sp.atV V 0) (Sp.atV V 1) sl = if r.phase = 0 then ((true, r.err), (r, sl)) else if (r.goes (Sp.atV V 0) (Sp.atV V 1) sl).1.phase = 0 then ((true, (r.goes (Sp.atV V 0) (Sp.atV V 1) sl).1.err), r.goes (Sp.atV V 0) (Sp.atV V 1) sl) else ((false, none), r.goes (Sp.atV V 0) (Sp.atV V 1) sl) from rfl)
  have c2 : w.cell? ⟨p, 2, none⟩ = some (.int .i64 r.phase) := Blk.cell hr 2
  have hpw := Blk.lt hr
  by_cases h0 : r.phase = 0
  · rw [h0] at c2
    have c5 : w.cell? ⟨p, 10, none⟩ = some (erV r.err) := Blk.cell hr 10
    have HS := Lib.hid (HST.out.trans (if_pos h0))
    clear hr hf hl HST h0 hph
    generalize r.step (Sp.atV V 0) (Sp.atV V 1) sl = st at *
    go_enter Tryz.func21, Tryz.ntmps21
    go_wp2_with fail
    go_step3
    go_wp2_with fail
    go_step3
    go_wp2_with fail
    go_loopw [8] (fun _ wr => wr = w) (fun _ _ => 0)
    case atStart => rfl
    case round =>
      subst hrel
      go_upto_region 5 with fail
      refine wp_region_row (by kernel_rfl) (by kernel_rfl) ?_
      repeat (first | go_big_quiet_skip | go_big_quiet_step (fail))
      refine wpQuiet_nil ?_
      intro w2 hb2
      go_wp2_with fail
      try rw [Exit.noGoto_ret]
      refine bodyPost_ret (v := .tuple #[.bool true, erV r.err]) (by simp [results, Tryz.results21, go_sem]) rfl ⟨by rw [HS.out], by rw [HS.out]; exact HR.out.go hb2, by rw [HS.out]; exact HL.out.go hb2, Chg.of_below hb2⟩
  · have HG := Lib.hid (rdGoes_any p f m l r v V wn sl w hr hf hl hn (by omega))
    have e0 : (r.phase == 0) = false := beq_eq_false_iff_ne.2 h0
    have HS := Lib.hid (HST.out.trans (if_neg h0))
    have hpos : 0 < r.phase := by omega
    clear hr hf hl HST h0 hph
    generalize r.step (Sp.atV V 0) (Sp.atV V 1) sl = st at *
    generalize r.goes (Sp.atV V 0) (Sp.atV V 1) sl = g at *
    obtain ⟨g1, g2⟩ := g
    dsimp only at HG HS
    by_cases hg : g1.phase = 0
    · have HS2 := Lib.hid (HS.out.trans (if_pos hg))
      have e1 : (g1.phase == 0) = true := beq_iff_eq.2 hg
      have e2 : (g1.phase != 0) = false := by simp [hg]
      have HG1 := Lib.hid hg
      clear HS hg
      go_enter Tryz.func21, Tryz.ntmps21
      go_wp2_with fail
      go_step3
      go_wp2_with fail
      go_step3
      go_wp2_with fail
      go_loopw [8] (fun _ wr => (wr = w) ∨ (RdAt wr p g1 ∧ LockAt wr l wn g2 ∧ Chg (fun k => k = p ∨ k = l) w wr)) (fun _ W => match W.cell? ⟨p, 2, none⟩ with | some (.int .i64 n) => n.toNat | _ => 0)
      case atStart => exact .inl rfl
      case round =>
        rcases hrel with rfl | ⟨hr2, hl2, hk2⟩
        · go_upto_region 3 with (go_at_call 57; refine HG.out.mono ?_; rintro e w2 ⟨rfl, hr2, hl2, hk2⟩; have HR2 := Lib.hid hr2; have HL2 := Lib.hid hl2; have HK2 := Lib.hid hk2; clear hr2 hl2 hk2)
          have c2' : w2.cell? ⟨p, 2, none⟩ = some (.int .i64 g1.phase) := Blk.cell HR2.out 2
          go_wp2_with fail
          go_roundw
          case rel => exact .inr ⟨HR2.out, HL2.out, HK2.out⟩
          case measure => rw [c2, c2', HG1.out]; simp; omega
        · have c2' : wr.cell? ⟨p, 2, none⟩ = some (.int .i64 0) := by have := Blk.cell hr2 2; rw [← HG1.out]; exact this
          have c5 : wr.cell? ⟨p, 10, none⟩ = some (erV g1.err) := Blk.cell hr2 10
          have hpw := Blk.lt hr2
          have HR2 := Lib.hid hr2
          have HL2 := Lib.hid hl2
          have HK2 := Lib.hid hk2
          clear hr2 hl2 hk2 c2
          go_upto_region 5 with fail
          refine wp_region_row (by kernel_rfl) (by kernel_rfl) ?_
          repeat (first | go_big_quiet_skip | go_big_quiet_step (fail))
          refine wpQuiet_nil ?_
          intro w3 hb3
          go_wp2_with fail
          try rw [Exit.noGoto_ret]
          refine bodyPost_ret (v := .tuple #[.bool true, erV g1.err]) (by simp [results, Tryz.results21, go_sem]) rfl ⟨by rw [HS2.out], by rw [HS2.out]; exact HR2.out.go hb3, by rw [HS2.out]; exact HL2.out.go hb3, HK2.out.trans (Chg.of_below hb3)⟩
    · have HS2 := Lib.hid (HS.out.trans (if_neg hg))
      have e2 : (g1.phase != 0) = true := by simp [hg]
      clear HS hg
      go_enter Tryz.func21, Tryz.ntmps21
      go_wp2_with fail
      go_step3
      go_wp2_with fail
      go_step3
      go_wp2_with fail
      go_loopw [8] (fun _ wr => wr = w) (fun _ _ => 0)
      case atStart => rfl
      case round =>
        subst hrel
        go_upto_region 3 with (go_at_call 57; refine HG.out.mono ?_; rintro e w2 ⟨rfl, hr2, hl2, hk2⟩; have HR2 := Lib.hid hr2; have HL2 := Lib.hid hl2; have HK2 := Lib.hid hk2; clear hr2 hl2 hk2)
        have c2' : w2.cell? ⟨p, 2, none⟩ = some (.int .i64 g1.phase) := Blk.cell HR2.out 2
        go_wp2_with fail
        try rw [Exit.noGoto_ret]
        refine bodyPost_ret (v := .tuple #[.bool false, .nilIface]) (by simp [results, Tryz.results21, go_sem]) rfl ⟨by rw [HS2.out]; rfl, by rw [HS2.out]; exact HR2.out, by rw [HS2.out]; exact HL2.out, HK2.out⟩
end Go.Proofs.YtmcpkhknjdiocaaGreatDoor
namespace Go.Proofs.YtmcpkhknjdiocaaGreatDoor
open Go.RowKit
attribute [local go_sem low] mk_extract
attribute [local go_sem] After.cell After.frozen mk_extract_end ByteArray.mk_append_mk
namespace Sp
theorem pgM_is {m : Mt} (h : isMt m = true) : isPage (pgM m) = true := by
  have hm : m ≠ mt0 := by
    rintro rfl
    revert h
    decide
  simp [isPage, pgM, has, h]
theorem pgM_no {m : Mt} (h : isMt m = false) : isPage (pgM m) = false := by
  simp [isPage, pgM, h]
theorem pgM_rng {m : Mt} (hr : 0 ≤ m.txn ∧ m.txn < 18446744073709551616) : Rng (pgM m) := ⟨by simp [pgM], hr⟩
theorem metaB_no {m : Mt} (h : isMt m = false) : metaB m = [] := bytes_no (pgM_no h)
theorem metaB_le (m : Mt) : (metaB m).length ≤ 100 := by
  rcases h : isMt m with _ | _
  · rw [metaB_no h]; simp
  · rw [metaB, bytes_of (pgM_is h)]
    simp [body, partsB, pgM, mtB, le8_length, rootB_len]
theorem right_bad {s : Txt} (h : readOk s = false) (i : Int) : right s i = none := by
  unfold right
  rw [if_neg (by simp [h])]
theorem right_metaB {m : Mt} (h : isMt m = true) (hr : 0 ≤ m.txn ∧ m.txn < 18446744073709551616) (i : Int) : right (metaB m) i = if m.txn % 2 = i then some m else none := by
  have h1 := pgM_is h
  have h2 := pgM_rng hr
  unfold right metaB
  rw [readOk_bytes h1 h2, parse_bytes h1 h2]
  simp [pgM]
def two : Option Mt → Option Mt → Option Mt
  | none, y => y
  | some m, none => some m
  | some m, some n => if m.txn < n.txn then some n else some m
theorem choose_eq (a b : Txt) : choose a b = two (right a 0) (right b 1) := by
  unfold choose
  cases right a 0 <;> cases right b 1 <;> simp [later, two]
def mt2 (n l : Int) : Mt := ⟨n, root0, 0, l⟩
theorem mt2_is {n l : Int} (h : 2 ≤ l ∧ l ≤ 400) : isMt (mt2 n l) = true := by
  simp [isMt, mt2, root0, isRoot, noneOr, h.1, h.2]
def neP (x y : Txt) : Nat → Txt
  | 0 => []
  | 1 => [120]
  | 2 => x ++ [122]
  | _ => y
def neQ (x y : Txt) : Nat → Txt
  | 0 => []
  | 1 => [120]
  | 2 => x
  | _ => y.take 5
end Sp
end Go.Proofs.YtmcpkhknjdiocaaGreatDoor
namespace Go.Proofs.YtmcpkhknjdiocaaGreatDoor
open Go.RowKit
attribute [local go_sem low] mk_extract
attribute [local go_sem] After.cell After.frozen mk_extract_end ByteArray.mk_append_mk
namespace Sp
/-- The two metas' pages when version t is the last one. -/
def filesAt (t : Int) : List Txt := if t % 2 = 0 then [metaB (mt2 t 2), metaB (mt2 (t - 1) 2)] else [metaB (mt2 (t - 1) 2), metaB (mt2 t 2)]
theorem filesAt_len (t : Int) : (filesAt t).length = 2 := by
  unfold filesAt
  split <;> rfl
theorem filesAt_sz (t : Int) : ∀ s ∈ filesAt t, s.length ≤ 4611686018427387904 := by
  intro s hs
  unfold filesAt at hs
  have h1 := metaB_le (mt2 t 2)
  have h2 := metaB_le (mt2 (t - 1) 2)
  split at hs <;> simp only [List.mem_cons, List.not_mem_nil, or_false] at hs <;> rcases hs with rfl | rfl <;> omega
theorem filesAt_choose {t : Int} (h0 : 1 ≤ t) (h1 : t < 18446744073709551616) : choose (atV (filesAt t) 0) (atV (filesAt t) 1) = some (mt2 t 2) := by
  have x := mt2_is (n := t) (l := 2) (by omega)
  have y := mt2_is (n := t - 1) (l := 2) (by omega)
  have e1 : (mt2 t 2).txn = t := rfl
  have e2 : (mt2 (t - 1) 2).txn = t - 1 := rfl
  rw [choose_eq]
  unfold filesAt
  rcases (by omega : t % 2 = 0 ∨ t % 2 = 1) with h | h
  · rw [if_pos h]
    show two (right (metaB (mt2 t 2)) 0) (right (metaB (mt2 (t - 1) 2)) 1) = _
    rw [right_metaB x (by rw [e1]; omega), right_metaB y (by rw [e2]; omega), e1, e2, if_pos h, if_pos (by omega)]
    unfold two
    dsimp only
    rw [e1, e2, if_neg (by omega)]
  · rw [if_neg (by omega)]
    show two (right (metaB (mt2 (t - 1) 2)) 0) (right (metaB (mt2 t 2)) 1) = _
    rw [right_metaB x (by rw [e1]; omega), right_metaB y (by rw [e2]; omega), e1, e2, if_pos h, if_pos (by omega)]
    unfold two
    dsimp only
    rw [e1, e2, if_pos (by omega)]
theorem fresh0 : fresh 0 = mt2 0 2 := by decide
theorem fresh1 : fresh 1 = mt2 1 2 := by decide
/-- The slots of a lock of which a process has the first one. -/
def oneSl (pid txn : Int) : List Sl := ⟨pid, txn⟩ :: List.replicate 7 sl0
theorem claim_new {pid : Int} (hp : 0 < pid) : claim (List.replicate 8 sl0) pid = some 0 ∧ claimed (List.replicate 8 sl0) pid = oneSl pid 0 := by
  have h : claim (List.replicate 8 sl0) pid = some 0 := by
    unfold claim frees
    simp [hp, List.range_succ, sl0]
  refine ⟨h, ?_⟩
  unfold claimed
  rw [h]
  rfl
theorem own_one {pid txn : Int} (hp : 0 < pid) : owns (oneSl pid txn) 0 pid = true := by
  unfold owns oneSl
  simp [hp]
section
variable {a b : Txt} {pid most slot t x : Int} {m : Mt} {er : Option Int} {sl : List Sl}
theorem step_claims (hp : 0 < pid) : (⟨pid, most, 1, -1, m, er⟩ : Rdr).step a b (List.replicate 8 sl0) = ((false, none), (⟨pid, most, 2, 0, m, er⟩, oneSl pid 0)) := by
  obtain ⟨h1, h2⟩ := claim_new hp
  unfold Rdr.step Rdr.goes
  dsimp only
  rw [h1, h2]
  rfl
theorem see_at (hc : choose a b = some (mt2 t 2)) (hm : 2 ≤ most) : see most a b = (mt2 t 2, none) := by
  unfold see
  rw [hc]
  have : ¬ most < (mt2 t 2).last := by show ¬ most < 2; omega
  simp [this]
theorem step_chooses (hc : choose a b = some (mt2 t 2)) (hm : 2 ≤ most) : (⟨pid, most, 2, slot, m, er⟩ : Rdr).step a b sl = ((false, none), (⟨pid, most, 3, slot, mt2 t 2, er⟩, sl)) := by
  unfold Rdr.step Rdr.goes Rdr.looks
  dsimp only
  rw [see_at hc hm]
  simp
theorem step_publishes (hp : 0 < pid) : (⟨pid, most, 3, 0, m, er⟩ : Rdr).step a b (oneSl pid x) = ((false, none), (⟨pid, most, 4, 0, m, er⟩, oneSl pid m.txn)) := by
  have h := own_one (txn := x) hp
  unfold Rdr.step Rdr.goes publish
  dsimp only
  rw [h]
  rfl
theorem step_same (hc : choose a b = some (mt2 t 2)) (hm : 2 ≤ most) (hx : m.txn = t) : (⟨pid, most, 4, slot, m, er⟩ : Rdr).step a b sl = ((true, none), (⟨pid, most, 0, slot, m, none⟩, sl)) := by
  unfold Rdr.step Rdr.goes Rdr.looks
  dsimp only
  rw [see_at hc hm]
  have : t = m.txn := hx.symm
  simp [mt2, this]
theorem step_done : (⟨pid, most, 0, slot, m, er⟩ : Rdr).step a b sl = ((true, er), (⟨pid, most, 0, slot, m, er⟩, sl)) := by
  unfold Rdr.step
  simp
end
end Sp
/-- A file, a lock, a reader of a law's own. -/
structure LwS (W0 : World) (f m l p : Nat) (v : Value) (V : List Txt) (sl : List Sp.Sl) (r : Sp.Rdr) (W : World) : Prop where
  hb : Below W0.heap.size W0 W
  ff : FileAt W f v m V
  lk : LockAt W l 0 sl
  rd : RdAt W p r
  hf : W0.heap.size ≤ m ∧ W0.heap.size ≤ l ∧ W0.heap.size ≤ p
  hv : ∀ k, v.ownBlock = some k → W0.heap.size ≤ k
theorem LwS.go {W0 W W' : World} {f m l p : Nat} {v : Value} {V : List Txt} {sl : List Sp.Sl} {r : Sp.Rdr} (h : LwS W0 f m l p v V sl r W) (hb : Below W.heap.size W W') : LwS W0 f m l p v V sl r W' :=
  ⟨h.hb.trans (hb.mono h.hb.size), h.ff.go hb, h.lk.go hb, h.rd.go hb, h.hf, h.hv⟩
theorem LwS.step {W0 W W' : World} {f m l p : Nat} {v : Value} {V : List Txt} {sl sl' : List Sp.Sl} {r r' : Sp.Rdr} (h : LwS W0 f m l p v V sl r W) (hr : RdAt W' p r') (hl : LockAt W' l 0 sl') (hk : Chg (fun k => k = p ∨ k = l) W W') : LwS W0 f m l p v V sl' r' W' := by
  obtain ⟨sv, hfb⟩ := h.ff.bf
  refine ⟨h.hb.trans (hk.below h.hb.size (fun k hk e => by have := h.hf; omega)), h.ff.chg hk ?_ ?_ ?_, hl, hr, h.hf, h.hv⟩
  · rintro (e | e)
    · subst e; exact Blk.not_ hfb (by decide) _ h.rd
    · subst e; exact Blk.not_ hfb (by decide) _ h.lk.bl
  · rintro (e | e)
    · subst e; exact h.ff.map.not_blk h.rd
    · subst e; exact h.ff.map.not_blk h.lk.bl
  · intro k hk'
    rintro (e | e)
    · subst e; exact own_not h.ff.own (by decide) _ hk' _ h.rd
    · subst e; exact own_not h.ff.own (by decide) _ hk' _ h.lk.bl
theorem LwS.write {W0 W W' : World} {f m l p : Nat} {v : Value} {V V' : List Txt} {sl : List Sp.Sl} {r : Sp.Rdr} (h : LwS W0 f m l p v V sl r W) (hf : FileAt W' f v m V') (hk : Chg (fun k => k = m ∨ v.ownBlock = some k) W W') : LwS W0 f m l p v V' sl r W' := by
  refine ⟨h.hb.trans (hk.below h.hb.size (fun k hk' e => ?_)), hf, h.lk.chg hk ?_, h.rd.chg hk ?_, h.hf, h.hv⟩
  · rcases e with e | e
    · have := h.hf; omega
    · have := h.hv k e; omega
  · rintro (e | e)
    · subst e; exact h.ff.map.not_blk h.lk.bl
    · exact own_not h.ff.own (by decide) _ e _ h.lk.bl
  · rintro (e | e)
    · subst e; exact h.ff.map.not_blk h.rd
    · exact own_not h.ff.own (by decide) _ e _ h.rd
end Go.Proofs.YtmcpkhknjdiocaaGreatDoor
namespace Go.Proofs.YtmcpkhknjdiocaaGreatDoor
open Go.RowKit
attribute [local go_sem low] mk_extract
attribute [local go_sem] After.cell After.frozen mk_extract_end ByteArray.mk_append_mk
set_option maxRecDepth 100000 in
set_option maxHeartbeats 1600000 in
theorem dNum_any (n : Int) (h0 : 0 ≤ n) (h1 : n < 18446744073709551616) (w : World) :
    Calls Tryz.prog 62 #[.int .u64 n] w fun e w' => e = .returned (.string ⟨(Sp.le8 n).toArray⟩) ∧ Below w.heap.size w w' := by
  have hmk : ∀ w, (Instr.makeSlice 72 (.int .i64 8) (.int .i64 8)).run Tryz.prog w = .ok (.slice (some ⟨w.heap.size, 0, none⟩) 8 8) (w.alloc (.cells #[.int .u8 0, .int .u8 0, .int .u8 0, .int .u8 0, .int .u8 0, .int .u8 0, .int .u8 0, .int .u8 0] 5)) := fun _ => by kernel_rfl
  have hcv := conv8
  go_enter Tryz.func62, Tryz.ntmps62
  go_wp2
  go_rounds 9
  go_ret
  refine ⟨?_, (Below.refl _ _).alloc (Nat.le_refl _) _⟩
  refine congrArg (fun s => Ending.returned (.string s)) ?_
  have h7 : n / 256 / 256 / 256 / 256 / 256 / 256 / 256 % 256 = n / 256 / 256 / 256 / 256 / 256 / 256 / 256 := by omega
  have e2 : n / 65536 = n / 256 / 256 := by omega
  have e3 : n / 16777216 = n / 256 / 256 / 256 := by omega
  have e4 : n / 4294967296 = n / 256 / 256 / 256 / 256 := by omega
  have e5 : n / 1099511627776 = n / 256 / 256 / 256 / 256 / 256 := by omega
  have e6 : n / 281474976710656 = n / 256 / 256 / 256 / 256 / 256 / 256 := by omega
  have e7 : n / 72057594037927936 = n / 256 / 256 / 256 / 256 / 256 / 256 / 256 := by omega
  rw [e2, e3, e4, e5, e6, e7]
  simp [Sp.le8, Sp.leN, h7]
set_option maxRecDepth 100000 in
set_option maxHeartbeats 400000 in
theorem dnum_any (n : Int) (h0 : 0 ≤ n) (h1 : n < 4611686018427387904) (w : World) :
    Calls Tryz.prog 63 #[.int .i64 n] w fun e w' => e = .returned (.string ⟨(Sp.le8 n).toArray⟩) ∧ Below w.heap.size w w' := by
  go_enter Tryz.func63, Tryz.ntmps63
  go_wp2_with (go_at_call 62; refine (dNum_any _ (by omega) (by omega) _).mono ?_; rintro e w' ⟨rfl, hb⟩)
  go_ret
  exact ⟨rfl, hb⟩
theorem conv2d (w : World) (x0 x1 : Int) : (convert 72 9 (.slice (some ⟨w.heap.size, 0, none⟩) 2 2)).run Tryz.prog ((w.alloc (.cells #[.int .u8 x0, .int .u8 x1] 5)).drew) =
    .ok (.string ⟨[UInt8.ofNat x0.toNat, UInt8.ofNat x1.toNat].toArray⟩) ((w.alloc (.cells #[.int .u8 x0, .int .u8 x1] 5)).drew) := conv2 w.drew x0 x1
set_option maxRecDepth 100000 in
set_option maxHeartbeats 400000 in
theorem dText_any (s : Txt) (w : World) :
    Calls Tryz.prog 81 #[.string ⟨s.toArray⟩] w fun e w' => e = .returned (.string ⟨(Sp.text s).toArray⟩) ∧ Below w.heap.size w w' := by
  have hcv := conv2d
  go_enter Tryz.func81, Tryz.ntmps81
  go_wp2
  all_goals go_region
  all_goals
    go_wp2
    go_ret
    refine ⟨?_, ((Below.refl _ _).alloc (Nat.le_refl _) _).drew⟩
    refine congrArg (fun s => Ending.returned (.string s)) ?_
    simp only [Sp.text, Sp.cutText]
    first
      | (rw [List.take_of_length_le (by omega)]; rw [Sp.leN2 _ (by omega)]; simp; done)
      | (rw [List.take_of_length_le (by omega)]; rw [Sp.leN2 _ (by omega)]; rfl)
      | (have hl : (s.take 65535).length = 65535 := by simp; omega
         rw [hl]; rfl)
set_option maxRecDepth 100000 in
set_option maxHeartbeats 400000 in
theorem dSum_any (s : Txt) (w : World) (hs : s.length ≤ 4611686018427387904) :
    Calls Tryz.prog 84 #[.string ⟨s.toArray⟩] w fun e w' => e = .returned (.int .u64 (Sp.sum s)) ∧ w = w' := by
  go_enter Tryz.func84, Tryz.ntmps84
  go_wp2
  go_loop [3, 4] (fun n i => ∃ k : Nat, k ≤ s.length ∧ i = .int .i64 k ∧ n = .int .u64 (Sp.sum (s.take k))) (fun _ i => s.length - (intOf i).toNat)
  case atStart => exact ⟨0, Nat.zero_le _, rfl, rfl⟩
  case round =>
    obtain ⟨k, hk, rfl, rfl⟩ := hrel
    by_cases hlt : k < s.length
    · have hm := Sp.sum_range (s.take k)
      have HS := Lib.hid (Sp.sum_succ s k hlt)
      generalize Sp.sum (s.take k) = m at *
      go_wp2
      refine ⟨⟨k + 1, by omega, by go_num, ?_⟩, by simp [intOf]; omega⟩
      rw [HS.out]
      rfl
    · have hkl : k = s.length := by omega
      go_wp2
      go_ret
      exact ⟨rfl, rfl⟩
set_option maxRecDepth 100000 in
set_option maxHeartbeats 400000 in
theorem dShort_any (s : Txt) (w : World) :
    Calls Tryz.prog 103 #[.string ⟨s.toArray⟩] w fun e w' => e = .returned (.bool (Sp.short s)) ∧ Below w.heap.size w w' := by
  go_enter Tryz.func103, Tryz.ntmps103
  go_wp2
  all_goals
    go_ret
    go_light
    exact ⟨ret_bool (by grind [Sp.short, List.length_pos_iff]), Below.refl _ _⟩
set_option maxRecDepth 100000 in
set_option maxHeartbeats 400000 in
theorem dpage_any (n : Int) (w : World) :
    Calls Tryz.prog 112 #[.int .i64 n] w fun e w' => e = .returned (.bool (Sp.isID n)) ∧ Below w.heap.size w w' := by
  go_enter Tryz.func112, Tryz.ntmps112
  go_wp2
  all_goals
    go_ret
    go_light
    exact ⟨ret_bool (by grind [Sp.isID]), Below.refl _ _⟩
set_option maxRecDepth 100000 in
set_option maxHeartbeats 400000 in
theorem droot_any (r : Sp.Root) (w : World) :
    Calls Tryz.prog 115 #[.agg (rootV r).toArray] w fun e w' => e = .returned (.bool (Sp.isRoot r)) ∧ Below w.heap.size w w' := by
  obtain ⟨p, n, f⟩ := r
  simp only [rootV]
  go_enter Tryz.func115, Tryz.ntmps115
  go_wp2_with (go_at_call 112; refine (dpage_any _ _).mono ?_; rintro e w1 ⟨rfl, hb⟩; obtain ⟨hc, hf⟩ := bcell hb)
  all_goals
    go_ret
    go_light
    first
      | exact ⟨ret_bool (by grind [Sp.isRoot, Sp.noneOr]), ((Below.refl _ _).alloc (Nat.le_refl _) _).trans (hb.mono (by simp))⟩
      | exact ⟨ret_bool (by grind [Sp.isRoot, Sp.noneOr]), (Below.refl _ _).alloc (Nat.le_refl _) _⟩
set_option maxRecDepth 100000 in
set_option maxHeartbeats 400000 in
theorem dPlace_any (n : Int) (h0 : 0 ≤ n) (h1 : n < 18446744073709551616) (w : World) : Calls Tryz.prog 15 #[.int .u64 n] w fun e w' => e = .returned (.int .i64 (n % 2)) ∧ w = w' := by
  have H1 := Lib.hid h1
  clear h1
  go_enter Tryz.func15, Tryz.ntmps15
  go_wp2
  go_ret
  refine ⟨ret_int ?_, rfl⟩
  have := H1.out
  first | rfl | (simp [IntKind.wrap_u64, IntKind.wrap_i64, Int.tmod_eq_emod_of_nonneg h0]; omega) | omega
end Go.Proofs.YtmcpkhknjdiocaaGreatDoor
namespace Go.Proofs.YtmcpkhknjdiocaaGreatDoor
open Go.RowKit
attribute [local go_sem low] mk_extract
attribute [local go_sem] After.cell After.frozen mk_extract_end ByteArray.mk_append_mk
set_option maxRecDepth 100000 in
set_option maxHeartbeats 1600000 in
theorem dvals_any (l : List Txt) (A : Option Addr) (c : Nat) (least most : Int) {M : Nat → Prop} (w : World) (hr : Txts w M A l) :
    Calls Tryz.prog 113 #[.slice A l.length c, .int .i64 least, .int .i64 most] w fun e w' => e = .returned (.bool (Sp.isVals l least most)) ∧ Below w.heap.size w w' := by
  have hlen := hr.len
  have Hr := Lib.hid hr
  clear hr
  go_enter Tryz.func113, Tryz.ntmps113
  go_wp2
  go_loopw [7] (fun i wr => ∃ k : Nat, k ≤ l.length ∧ i = .int .i64 k ∧ Below w.heap.size w wr ∧ Hid (∀ j, j < k → Sp.valAt l j = true)) (fun i _ => l.length - (intOf i).toNat)
  case atStart => exact ⟨0, Nat.zero_le _, rfl, Below.refl _ _, fun j h => absurd h (by omega)⟩
  case round =>
    obtain ⟨k, hk, rfl, hb, hok⟩ := hrel
    by_cases hlt : k < l.length
    · obtain ⟨b, off, rfl, hbl, hc⟩ := Hr.out.at_ hlt
      have hc0 := (hb.cell (p := ⟨b, off + k, none⟩) hbl).trans (hc k hlt)
      have hc1 := fun (h : 0 < k) => (hb.cell (p := ⟨b, off + (k - 1), none⟩) hbl).trans (hc (k - 1) (by omega))
      have hbw : b < wr.heap.size := by have := hb.size; omega
      clear hc
      have HV := Lib.hid (Sp.valAt_def l k)
      generalize l.getD k [] = x at *
      generalize l.getD (k - 1) [] = y at *
      have hno : ∀ w2, Below wr.heap.size wr w2 → Sp.valAt l k = false → Ending.returned (.bool false) = .returned (.bool (Sp.isVals l least most)) ∧ Below w.heap.size w w2 := fun w2 h2 hv => ⟨by rw [Sp.isVals, Sp.allTo_false hlt hv]; rfl, hb.trans (h2.mono hb.size)⟩
      have hyes : Sp.valAt l k = true → ∀ j, j < k + 1 → Sp.valAt l j = true := fun hv j hj => by
        rcases Nat.lt_succ_iff_lt_or_eq.1 hj with h | rfl
        · exact hok.out j h
        · exact hv
      have HNO := Lib.hid hno
      have HYES := Lib.hid hyes
      clear hno hyes hok
      by_cases h1 : x.length < 1
      · have hd1 : decide ((x.length : Int) < 1) = true := decide_eq_true (by omega)
        go_wp2
        refine wp_region_after (by kernel_rfl) (by kernel_rfl) (wr.heap.size) ?_
        repeat (go_big_quiet_step (fail))
        refine wpQuiet_nil ?_
        intro w2 hb2
        go_wp2
        go_ret
        exact HNO.out _ hb2 (by rw [HV.out, decide_eq_false (by omega : ¬ 1 ≤ x.length)]; rfl)
      have hd1 : decide ((x.length : Int) < 1) = false := decide_eq_false (by omega)
      by_cases h2 : 12 < x.length
      · have hd2 : decide ((x.length : Int) > 12) = true := decide_eq_true (by omega)
        go_wp2
        refine wp_region_after (by kernel_rfl) (by kernel_rfl) (wr.heap.size) ?_
        repeat (go_big_quiet_step (fail))
        refine wpQuiet_nil ?_
        intro w2 hb2
        go_wp2
        go_ret
        exact HNO.out _ hb2 (by rw [HV.out, decide_eq_false (by omega : ¬ x.length ≤ 12), Bool.and_false, Bool.false_and])
      have hd2 : decide ((x.length : Int) > 12) = false := decide_eq_false (by omega)
      by_cases h3 : 0 < k
      · have hc1 := hc1 h3
        rcases hl : Op.bytesLess y x with _ | _
        · go_wp2
          refine wp_region_after (by kernel_rfl) (by kernel_rfl) (wr.heap.size) ?_
          repeat (go_big_quiet_step (fail))
          refine wpQuiet_nil ?_
          intro w2 hb2
          go_wp2
          go_ret
          exact HNO.out _ hb2 (by rw [HV.out, decide_eq_false (by omega : ¬ k = 0), Sp.lt, hl]; simp)
        · go_wp2
          refine wp_region_after (by kernel_rfl) (by kernel_rfl) (wr.heap.size) ?_
          repeat (go_big_quiet_step (fail))
          refine wpQuiet_nil ?_
          intro w2 hb2
          go_wp2
          refine ⟨⟨k + 1, by omega, by go_num, hb.trans (hb2.mono hb.size), HYES.out ?_⟩, by simp [intOf]; omega⟩
          rw [HV.out, Sp.lt, hl, decide_eq_true (by omega : 1 ≤ x.length), decide_eq_true (by omega : x.length ≤ 12)]
          simp
      · have h30 : k = 0 := by omega
        subst h30
        rw [Nat.add_zero] at hc0
        go_wp2
        refine wp_region_after (by kernel_rfl) (by kernel_rfl) (wr.heap.size) ?_
        repeat (go_big_quiet_step (fail))
        refine wpQuiet_nil ?_
        intro w2 hb2
        go_wp2
        refine ⟨⟨1, by omega, by go_num, hb.trans (hb2.mono hb.size), HYES.out ?_⟩, by simp [intOf]; omega⟩
        rw [HV.out, decide_eq_true (by omega : 1 ≤ x.length), decide_eq_true (by omega : x.length ≤ 12)]
        simp
    · have hkl : k = l.length := by omega
      go_wp2
      all_goals
        go_ret
        refine ⟨ret_bool ?_, hb⟩
        go_light
        rw [Sp.isVals, Sp.allTo_true fun j hj => hok.out j (by omega)]
        grind
end Go.Proofs.YtmcpkhknjdiocaaGreatDoor
