/- The document's metas: a new file's, its bytes. Readers' steps: the laws' own file, and what they ask ahead of all else. Readers' steps: what the laws ask ahead of all else. More words for a walk: a struct stored inside a row; an append at a step of a region that draws. A region whose order is open, some of whose operations make memory: what only reads is taken first, within a class of worlds in which all its steps stay; the rest is parted by order. The document's lock: who owns a slot, a version published, a slot freed, a slot claimed. Printed by gen_ld.py. The document's reader in memory. -/
import Derived.Test.YtmcpkhknjdiocaaGreatDoorQB00
import Derived.Test.YtmcpkhknjdiocaaGreatDoorQB11
import Derived.Test.YtmcpkhknjdiocaaGreatDoorQB12
import Derived.Test.YtmcpkhknjdiocaaGreatDoorQB13
import Derived.Test.YtmcpkhknjdiocaaGreatDoorQB14
import Derived.Test.YtmcpkhknjdiocaaGreatDoorQB18
import Derived.Laws.CopyRow
import Derived.Laws.AppendOwn
import Derived.Laws.AppendOwnNone
import Derived.Deep.RegionLaw
set_option linter.unusedSimpArgs false
set_option linter.unusedVariables false
namespace Go.Proofs.YtmcpkhknjdiocaaGreatDoor
open Go.RowKit
attribute [local go_sem low] mk_extract
attribute [local go_sem] After.cell After.frozen mk_extract_end ByteArray.mk_append_mk
set_option maxRecDepth 100000 in
set_option maxHeartbeats 400000 in
theorem dFresh_any (i : Int) (w : World) : Calls Tryz.prog 52 #[.int .i64 i] w fun e w' => e = .returned (.agg (mtV (Sp.fresh i)).toArray) ∧ Below w.heap.size w w' := by
  go_enter Tryz.func52, Tryz.ntmps52
  go_wp2_with fail
  all_goals
    first
      | (have e : Sp.fresh i = ⟨0, Sp.root0, 0, 2⟩ := by
           unfold Sp.fresh
           congr 1
           omega
         rw [e])
      | (have e : Sp.fresh i = ⟨i, Sp.root0, 0, 2⟩ := by
           unfold Sp.fresh
           congr 1
           omega
         rw [e])
      | (have e : Sp.fresh i = ⟨1, Sp.root0, 0, 2⟩ := by
           unfold Sp.fresh
           congr 1
           omega
         rw [e])
    refine bodyPost_ret (v := .agg (mtV _).toArray) (by simp [results, Tryz.results52, go_sem, mtV, Sp.root0]) rfl ⟨rfl, by go_grown⟩
set_option maxRecDepth 100000 in
set_option maxHeartbeats 1600000 in
theorem dMetaBytes_any (m : Sp.Mt) (w : World) (hm : 0 ≤ m.txn ∧ m.txn < 18446744073709551616) : Calls Tryz.prog 13 #[.agg (mtV m).toArray] w fun e w' => e = .returned (.string ⟨(Sp.metaB m).toArray⟩) ∧ Below w.heap.size w w' := by
  have hb := Blk.new w 49 (mtV m).toArray
  have HB := Lib.hid hb
  have HM := Lib.hid hm
  clear hb hm
  simp only [mtV] at *
  go_enter Tryz.func13, Tryz.ntmps13
  go_wp2_with (first
    | (refine wpList_row 49 _ rfl w.heap.size rfl rfl 49 #[.int .u64 m.txn, .int .i64 m.main.page, .int .i64 m.main.count, .int .i64 m.main.flags, .int .i64 m.free, .int .i64 m.last] (0, 0) _ HB.out Tryz.underlying49 rfl rfl ?_)
    | (go_at_call 53; refine (dBytes_any (M := NoM) (Sp.pgM m) refs0 _ ⟨Items.nil_, Row.nil_, Row.nil_, Row.nil_, Frees.nil_, HM.out⟩).mono ?_; rintro e w7 ⟨rfl, hb2⟩; have HB2 := Lib.hid hb2; clear hb2))
  go_ret
  exact ⟨rfl, ((Below.refl _ _).alloc (Nat.le_refl _) _).trans (HB2.out.mono (by simp))⟩
end Go.Proofs.YtmcpkhknjdiocaaGreatDoor
namespace Go.Proofs.YtmcpkhknjdiocaaGreatDoor
open Go.RowKit
attribute [local go_sem low] mk_extract
attribute [local go_sem] After.cell After.frozen mk_extract_end ByteArray.mk_append_mk
set_option maxRecDepth 100000 in
set_option maxHeartbeats 1600000 in
theorem empty_any (w : World) : Calls Tryz.prog 8 #[] w fun e w' => ∃ b, e = .returned (.slice (some ⟨b, 0, none⟩) 2 2) ∧ Txts w' NoM (some ⟨b, 0, none⟩) (Sp.filesAt 1) ∧ Below w.heap.size w w' := by
  have hfl : Sp.filesAt 1 = [Sp.metaB (Sp.mt2 0 2), Sp.metaB (Sp.mt2 1 2)] := rfl
  rw [hfl]
  clear hfl
  go_enter Tryz.func8, Tryz.ntmps8
  go_upto_region 1 with fail
  go_cut [0] (fun s0 W => ∃ b, s0 = .slice (some ⟨b, 0, none⟩) 2 2 ∧ Txts W NoM (some ⟨b, 0, none⟩) [Sp.metaB (Sp.mt2 0 2), Sp.metaB (Sp.mt2 1 2)] ∧ Below w.heap.size w W)
  case first =>
    go_wp2_with (first
      | (go_at_call_of 52 (0 : Int); refine (dFresh_any 0 _).mono ?_; rintro e w1 ⟨rfl, hb1⟩; rw [Sp.fresh0]; have HB1 := Lib.hid hb1; clear hb1)
      | (go_at_call 52; refine (dFresh_any 1 _).mono ?_; rintro e w3 ⟨rfl, hb3⟩; rw [Sp.fresh1]; have HB3 := Lib.hid (HB2.out.trans (hb3.mono HB2.out.size)); clear hb3)
      | (go_at_call_of 13 (0 : Int); refine (dMetaBytes_any (Sp.mt2 0 2) _ (by decide)).mono ?_; rintro e w2 ⟨rfl, hb2⟩; have HB2 := Lib.hid (HB1.out.trans (hb2.mono HB1.out.size)); clear hb2)
      | (go_at_call 13; refine (dMetaBytes_any (Sp.mt2 1 2) _ (by decide)).mono ?_; rintro e w4 ⟨rfl, hb4⟩; have HB4 := Lib.hid (HB3.out.trans (hb4.mono HB3.out.size)); clear hb4))
    go_meet
    case rel =>
      refine ⟨w4.heap.size, rfl, ⟨by simp, .inr ⟨w4.heap.size, 0, rfl, by simp, id, fun j u hu => ?_⟩⟩, HB4.out.alloc HB4.out.size _⟩
      rw [Nat.zero_add]
      refine ((Blk.new w4 StrT _).cell j).trans ?_
      rw [← hu]
      exact List.getElem?_toArray ..
  case rest =>
    obtain ⟨b, rfl, ht, hb⟩ := hcut
    obtain ⟨W1, rfl⟩ : ∃ W, W = wc := ⟨_, rfl⟩
    have HT := Lib.hid ht
    have HB := Lib.hid hb
    clear ht hb
    go_wp2_with fail
    go_ret
    exact ⟨b, rfl, HT.out, HB.out⟩
namespace Sp
/-- A reader at a phase, its slots, when version t is the last one. -/
def mvR (pid most : Int) (ph : Nat) (t : Int) : Rdr := ⟨pid, most, (ph : Int), if ph = 1 then -1 else 0, if ph = 1 ∨ ph = 2 then mt0 else mt2 t 2, none⟩
def mvS (pid : Int) (ph : Nat) (t : Int) : List Sl := if ph = 1 then List.replicate 8 sl0 else if ph = 2 then oneSl pid 0 else if ph = 3 then oneSl pid (t - 1) else oneSl pid t
section
variable {pid most t : Int}
theorem mv1 (hp : 0 < pid) (a b : Txt) : (mvR pid most 1 1).step a b (mvS pid 1 1) = ((false, none), (mvR pid most 2 1, mvS pid 2 1)) := step_claims hp
theorem mv2 (hm : 2 ≤ most) : (mvR pid most 2 1).step (atV (filesAt 1) 0) (atV (filesAt 1) 1) (mvS pid 2 1) = ((false, none), (mvR pid most 3 1, mvS pid 3 1)) := step_chooses (filesAt_choose (by decide) (by decide)) hm
theorem mv3 (hp : 0 < pid) (a b : Txt) : (mvR pid most 3 t).step a b (mvS pid 3 t) = ((false, none), (mvR pid most 4 t, mvS pid 4 t)) := step_publishes hp
theorem mv4 (hm : 2 ≤ most) (h0 : 1 ≤ t) (h1 : t < 18446744073709551616) : (mvR pid most 4 t).step (atV (filesAt t) 0) (atV (filesAt t) 1) (mvS pid 4 t) = ((true, none), (mvR pid most 0 t, mvS pid 0 t)) := step_same (filesAt_choose h0 h1) hm rfl
theorem mv0 (a b : Txt) : (mvR pid most 0 t).step a b (mvS pid 0 t) = ((true, none), (mvR pid most 0 t, mvS pid 0 t)) := step_done
end
end Sp
theorem LwS.call {W0 W W' : World} {f m l p : Nat} {v : Value} {V : List Txt} {sl sl' : List Sp.Sl} {r r' : Sp.Rdr} {bo : Bool × Option Int} (h : LwS W0 f m l p v V sl r W) (hs : r.step (Sp.atV V 0) (Sp.atV V 1) sl = (bo, (r', sl'))) (hr : RdAt W' p (r.step (Sp.atV V 0) (Sp.atV V 1) sl).2.1) (hl : LockAt W' l 0 (r.step (Sp.atV V 0) (Sp.atV V 1) sl).2.2) (hk : Chg (fun k => k = p ∨ k = l) W W') : LwS W0 f m l p v V sl' r' W' := by
  rw [hs] at hr hl
  exact h.step hr hl hk
/-- A step of a reader, where what it answers is known. -/
theorem stepAt {W0 W : World} {f m l p : Nat} {v : Value} {V : List Txt} {sl sl' : List Sp.Sl} {r r' : Sp.Rdr} {bo : Bool} {er : Option Int} (h : LwS W0 f m l p v V sl r W) (hs : r.step (Sp.atV V 0) (Sp.atV V 1) sl = ((bo, er), (r', sl'))) (hn : V.length ≤ 400) (hph : 0 ≤ r.phase ∧ r.phase ≤ 5) :
    Calls Tryz.prog 21 #[.pointer (some ⟨p, 0, none⟩), .pointer (some ⟨f, 0, none⟩), .pointer (some ⟨l, 0, none⟩)] W fun e w' => e = .returned (.tuple #[.bool bo, erV er]) ∧ LwS W0 f m l p v V sl' r' w' := by
  refine (rdStep_any p f m l r v V 0 sl W h.rd h.ff h.lk hn hph).mono ?_
  rintro e w' ⟨he, hr, hl, hk⟩
  rw [hs] at he
  exact ⟨he, h.call hs hr hl hk⟩
end Go.Proofs.YtmcpkhknjdiocaaGreatDoor
namespace Go.Proofs.YtmcpkhknjdiocaaGreatDoor
open Go.RowKit
attribute [local go_sem low] mk_extract
attribute [local go_sem] After.cell After.frozen mk_extract_end ByteArray.mk_append_mk
theorem fileNew_at1 (b : Nat) {M : Nat → Prop} (w : World) (hl : Txts w M (some ⟨b, 0, none⟩) (Sp.filesAt 1)) :
    Calls Tryz.prog 7 #[.slice (some ⟨b, 0, none⟩) 2 2] w fun e w' => ∃ f v m, e = .returned (.pointer (some ⟨f, 0, none⟩)) ∧ FileAt w' f v m (Sp.filesAt 1) ∧ w.heap.size ≤ f ∧ w.heap.size ≤ m ∧ (∀ k, v.ownBlock = some k → w.heap.size ≤ k) ∧ Below w.heap.size w w' := by
  have h := fileNew_any (Sp.filesAt 1) b 0 2 w hl (by rw [Sp.filesAt_len]; omega) (by rw [Sp.filesAt_len]; omega) (Sp.filesAt_sz 1)
  rw [Sp.filesAt_len] at h
  exact h
theorem LwS.mk3 {w w1 w2 w3 w4 : World} {f m : Nat} {v : Value} {V : List Txt} {sl : List Sp.Sl} {r : Sp.Rdr} (hb1 : Below w.heap.size w w1) (hf : FileAt w2 f v m V) (h2 : w1.heap.size ≤ m) (h3 : ∀ k, v.ownBlock = some k → w1.heap.size ≤ k) (hb2 : Below w1.heap.size w1 w2)
    (hl : LockAt w3 w2.heap.size 0 sl) (hb3 : Below w2.heap.size w2 w3) (hr : RdAt w4 w3.heap.size r) (hb4 : Below w3.heap.size w3 w4) : LwS w f m w2.heap.size w3.heap.size v V sl r w4 := by
  have z1 := hb1.size
  have z2 := hb2.size
  have z3 := hb3.size
  exact ⟨((hb1.trans (hb2.mono z1)).trans (hb3.mono (by omega))).trans (hb4.mono (by omega)), (hf.go hb3).go hb4, hl.go hb4, hr, ⟨by omega, by omega, by omega⟩, fun k hk => by have := h3 k hk; omega⟩
theorem eqSl71 (W : World) : (Op.equalIn 10000 SlotT (.agg #[.int .i64 7, .int .u64 1]) (.agg #[.int .i64 7, .int .u64 1])).run Tryz.prog W = .ok true W := by kernel_rfl
theorem field0 (a b c d e f : Int) (W : World) : (Instr.field MetaT (.agg #[.int .u64 a, .int .i64 b, .int .i64 c, .int .i64 d, .int .i64 e, .int .i64 f]) 0).run Tryz.prog W = .ok (.int .u64 a) W := by kernel_rfl
theorem own2_at {w : World} {base : Nat} {e : TypeId} {g cap n : Nat} {xs : List Value} (h : w.ownsRow base e 2 (.slice (some ⟨g, 0, none⟩) n cap) n xs) {j : Nat} {u : Value} (hj : xs[j]? = some u) : w.cell? ⟨g, j, none⟩ = some u := by
  rcases h.2 with ⟨h', _⟩ | ⟨g', cap', cur, hv, _, hh, hnc, _, hcs, ht⟩
  · cases h'
  · simp only [Value.slice.injEq, Option.some.injEq, Addr.mk.injEq] at hv
    obtain ⟨⟨rfl, _⟩, _, rfl⟩ := hv
    have hb : Blk w g e cur := hh
    refine (hb.cell j).trans ?_
    rw [← ht, List.getElem?_take] at hj
    split at hj
    · rw [← hj, Array.getElem?_toList]
    · cases hj
set_option maxRecDepth 100000 in
set_option maxHeartbeats 6400000 in
theorem known22_any (w : World) : Calls Tryz.prog 6 #[] w fun e w' => e = .returned (.bool true) ∧ Below w.heap.size w w' := by
  go_enter Tryz.func6, Tryz.ntmps6
  go_upto_region 3 with (first
    | (go_at_call 8; refine (empty_any _).mono ?_; rintro e w1 ⟨b, rfl, ht, hb1⟩; have HT := Lib.hid ht; have HB1 := Lib.hid hb1; clear ht hb1)
    | (go_at_call 7; refine (fileNew_at1 b _ HT.out).mono ?_; rintro e w2 ⟨f, v, m, rfl, hf, h1, h2, h3, hb2⟩; have HF := Lib.hid hf; have H2 := Lib.hid h2; have H3 := Lib.hid h3; have HB2 := Lib.hid hb2; clear hf h1 h2 h3 hb2)
    | (go_at_call 10; refine (lockNew_any _).mono ?_; rintro e w3 ⟨rfl, hl, hb3⟩; have HL := Lib.hid hl; have HB3 := Lib.hid hb3; clear hl hb3)
    | (go_at_call 11; refine (rdNew_any 7 10 _).mono ?_; rintro e w4 ⟨rfl, hr, hb4⟩; have HR := Lib.hid hr; have HB4 := Lib.hid hb4; clear hr hb4))
  have S := Lib.hid (show LwS w f m w2.heap.size w3.heap.size v (Sp.filesAt 1) (Sp.mvS 7 1 1) (Sp.mvR 7 10 1 1) w4 from LwS.mk3 HB1.out HF.out H2.out H3.out HB2.out HL.out HB3.out HR.out HB4.out)
  clear HT HF H2 H3 HL HR HB1 HB2 HB3 HB4
  generalize w2.heap.size = l at *
  generalize w3.heap.size = p at *
  have hl2 := Sp.filesAt_len 1
  go_wp2_with fail
  go_loopw [4] (fun i wr => ∃ k : Nat, k ≤ 3 ∧ i = .int .i64 k ∧ LwS w f m l p v (Sp.filesAt 1) (Sp.mvS 7 (k + 1) 1) (Sp.mvR 7 10 (k + 1) 1) wr) (fun i _ => 3 - (intOf i).toNat)
  case atStart => exact ⟨0, by omega, rfl, S.out⟩
  case round =>
    obtain ⟨k, hk, rfl, hs⟩ := hrel
    replace S := Lib.hid hs
    clear hs
    rcases (by omega : k = 0 ∨ k = 1 ∨ k = 2 ∨ k = 3) with rfl | rfl | rfl | rfl
    · go_wp2_with (first
        | (go_at_call 21; refine (stepAt S.out (Sp.mv1 (by decide) _ _) (by omega) (by decide)).mono ?_; rintro e w5 ⟨rfl, hs⟩; simp only [erV]; replace S := Lib.hid hs; clear hs)
        | (go_at_call 24; refine (rdPhase_any p _ _ S.out.rd).mono ?_; rintro e w6 ⟨rfl, rfl⟩; rw [show (Sp.mvR 7 10 2 1).phase = 2 from rfl]))
      go_roundw
      case rel => exact ⟨1, by omega, by go_num, S.out⟩
      case measure => simp [intOf]
    · go_wp2_with (first
        | (go_at_call 21; refine (stepAt S.out (Sp.mv2 (by decide)) (by omega) (by decide)).mono ?_; rintro e w5 ⟨rfl, hs⟩; simp only [erV]; replace S := Lib.hid hs; clear hs)
        | (go_at_call 24; refine (rdPhase_any p _ _ S.out.rd).mono ?_; rintro e w6 ⟨rfl, rfl⟩; rw [show (Sp.mvR 7 10 3 1).phase = 3 from rfl]))
      go_roundw
      case rel => exact ⟨2, by omega, by go_num, S.out⟩
      case measure => simp [intOf]
    · go_wp2_with (first
        | (go_at_call 21; refine (stepAt S.out (Sp.mv3 (by decide) _ _) (by omega) (by decide)).mono ?_; rintro e w5 ⟨rfl, hs⟩; simp only [erV]; replace S := Lib.hid hs; clear hs)
        | (go_at_call 24; refine (rdPhase_any p _ _ S.out.rd).mono ?_; rintro e w6 ⟨rfl, rfl⟩; rw [show (Sp.mvR 7 10 4 1).phase = 4 from rfl]))
      go_roundw
      case rel => exact ⟨3, by omega, by go_num, S.out⟩
      case measure => simp [intOf]
    · go_upto_region 14 with (first
        | (go_at_call 21; refine (stepAt S.out (Sp.mv4 (by decide) (by decide) (by decide)) (by omega) (by decide)).mono ?_; rintro e w5 ⟨rfl, hs⟩; simp only [erV]; replace S := Lib.hid hs; clear hs)
        | (go_at_call 21; refine (stepAt S.out (Sp.mv0 _ _) (by omega) (by decide)).mono ?_; rintro e w7 ⟨rfl, hs⟩; simp only [erV]; replace S := Lib.hid hs; clear hs)
        | (go_at_call 50; refine (slots_any l 0 _ _ S.out.lk).mono ?_; rintro e w8 ⟨g, cap, rfl, ho, hb⟩; replace S := Lib.hid (S.out.go hb); have HO := Lib.hid ho; clear ho hb))
      have d0 : w8.cell? ⟨g, 0, none⟩ = some (.int .i64 7) := own2_at HO.out rfl
      have d1 : w8.cell? ⟨g, 1, none⟩ = some (.int .u64 1) := own2_at HO.out rfl
      have hq := eqSl71
      have hfd := field0 1 0 0 0 0 2
      have hg := own_lt HO.out g rfl
      go_wp2_with (first
        | (go_at_call 25; refine (rdSlot_any p _ _ S.out.rd).mono ?_; rintro e w9 ⟨rfl, rfl⟩; rw [show (Sp.mvR 7 10 0 1).slot = 0 from rfl])
        | (go_at_call 24; refine (rdPhase_any p _ _ S.out.rd).mono ?_; rintro e w9 ⟨rfl, rfl⟩; rw [show (Sp.mvR 7 10 0 1).phase = 0 from rfl])
        | (go_at_call 26; refine (rdMeta_any p _ _ S.out.rd).mono ?_; rintro e w9 ⟨rfl, hb⟩; rw [show (mtV (Sp.mvR 7 10 0 1).mt).toArray = #[.int .u64 1, .int .i64 0, .int .i64 0, .int .i64 0, .int .i64 0, .int .i64 2] from rfl]; replace S := Lib.hid (S.out.go hb); have d0' := (hb.cell (p := ⟨g, 0, none⟩) hg).trans d0; have d1' := (hb.cell (p := ⟨g, 1, none⟩) hg).trans d1; clear d0 d1 hb))
      go_ret
      exact ⟨rfl, S.out.hb⟩
end Go.Proofs.YtmcpkhknjdiocaaGreatDoor
namespace Go.Proofs.YtmcpkhknjdiocaaGreatDoor
open Go.RowKit
attribute [local go_sem low] mk_extract
attribute [local go_sem] After.cell After.frozen mk_extract_end ByteArray.mk_append_mk
section
variable {P : Program}
end
end Go.Proofs.YtmcpkhknjdiocaaGreatDoor
namespace Go.Proofs.YtmcpkhknjdiocaaGreatDoor
open Go.RowKit
section
variable {P : Program} {ops : Array Oper} {Q : Exit → Act → World → Prop} {md : Region.Mode} {C : World → Prop} {last : Nat}
def wpIn (P : Program) (md : Region.Mode) (ops : Array Oper) (last : Nat) (C : World → Prop) (Q : Exit → Act → World → Prop) : Nat → Array Bool → Act → World → Prop
  | 0, listed, a, w => (listed.getD last false = false → C w) ∧ Region.ready md ops listed = [] ∧ Q .normal a w
  | fuel + 1, listed, a, w => (listed.getD last false = false → C w) ∧ (Region.ready md ops listed = [] → Q .normal a w) ∧ ∀ i ∈ Region.ready md ops listed, wpOp P ops Q i (wpIn P md ops last C Q fuel (listed.setIfInBounds i true)) a w
theorem wpIn.cls : ∀ {fuel : Nat} {listed : Array Bool} {a : Act} {w : World}, wpIn P md ops last C Q fuel listed a w → listed.getD last false = false → C w
  | 0, _, _, _, h => h.1
  | _ + 1, _, _, _, h => h.1
theorem wpIn.any : ∀ (fuel : Nat) (listed : Array Bool) (a : Act) (w : World), wpIn P md ops last C Q fuel listed a w → wpAny P md ops Q fuel listed a w
  | 0, _, _, _, h => h.2
  | fuel + 1, _, _, _, h => ⟨h.2.1, fun i hi => wpOp_mono (fun a w h => wpIn.any fuel _ a w h) (h.2.2 i hi)⟩
/-- In each world of the class it yields v, and leaves the world. -/
def YieldsC (P : Program) (ops : Array Oper) (C : World → Prop) (o : Oper) (v : Value) (a : Act) : Prop :=
  (Region.wanted o (yielded ops a.tmps) = true ∧ ∀ w, C w → (execOp a.eval o).run P w = .ok (.value v) w) ∨ (Region.wanted o (yielded ops a.tmps) = false ∧ v = undef)
theorem YieldsC.wpOp {i : Nat} {o : Oper} {v : Value} {a : Act} (hi : ops[i]? = some o) (hy : YieldsC P ops C o v a) {K : Act → World → Prop} {w : World} (hC : C w) (h : K (a.put o.dst v) w) : wpOp P ops Q i K a w := by
  unfold Go.wpOp
  simp only [hi]
  rcases hy with ⟨hw, hv⟩ | ⟨hw, rfl⟩
  · simp only [hw, if_true, Oper.wp, hv w hC, Oper.upon]; exact .inl h
  · simp only [hw, Bool.false_eq_true, if_false]; exact h
theorem YieldsC.of_same {o : Oper} {v : Value} {a a' : Act} (hy : YieldsC P ops C o v a) (he : execOp a'.eval o = execOp a.eval o) (hw : Region.wanted o (yielded ops a'.tmps) = Region.wanted o (yielded ops a.tmps)) : YieldsC P ops C o v a' := by
  unfold YieldsC at *
  rw [he, hw]
  exact hy
theorem wpOp_putC {j : Nat} {oi oj : Oper} {v : Value} (hj : ops[j]? = some oj) (hap : oi.apart ops oj = true)
    (hsi : ∀ cs b, oi.op ≠ .select cs b) (hsj : ∀ cs b, oj.op ≠ .select cs b)
    (hQ : ∀ c a w, Q (.panic c) (a.put oi.dst v) w → Q (.panic c) a w) {K : Act → World → Prop} {a : Act} {w : World}
    (hy : YieldsC P ops C oi v a) (h : wpOp P ops Q j K (a.put oi.dst v) w) :
    wpOp P ops Q j (fun a' w' => YieldsC P ops C oi v a' ∧ K (a'.put oi.dst v) w') a w := by
  obtain ⟨h1, h2, h3⟩ := Oper.apart_spec hap
  have keep : ∀ (a : Act), YieldsC P ops C oi v a → ∀ u, YieldsC P ops C oi v (a.put oj.dst u) := fun a hy u =>
    hy.of_same (execOp_put oi hsi a oj.dst u h3) (wanted_put oi a oj.dst u h3)
  have keepD : ∀ d, YieldsC P ops C oi v { a with defers := d :: a.defers } := fun d => hy.of_same rfl rfl
  unfold wpOp at *
  simp only [hj] at *
  rw [wanted_put oj a oi.dst v h1] at h
  split
  · rename_i hw
    simp only [hw, if_true] at h
    rcases h with h | ⟨hasks, hlets⟩
    case inr => exact .inr ⟨by unfold Oper.asks at *; rw [execOp_put oj hsj a oi.dst v h1] at hasks; exact hasks, hlets⟩
    refine .inl ?_
    unfold Oper.wp at *
    rw [execOp_put oj hsj a oi.dst v h1] at h
    generalize (execOp a.eval oj).run P w = r at *
    cases r with
    | ok n w' =>
      cases n <;> simp only [Oper.upon] at h ⊢
      case value u => exact ⟨keep a hy u, by rw [← Act.put_comm a v u h2]; exact h⟩
      case skip => exact ⟨keep a hy _, by rw [← Act.put_comm a v undef h2]; exact h⟩
      case defer d =>
        refine ⟨keep _ (keepD d) _, ?_⟩
        rw [← Act.put_comm _ v undef h2, ← Act.put_defers]
        exact h
      case enter f args =>
        refine Calls.mono h fun e w'' he => ?_
        cases e with
        | returned u => exact ⟨keep a hy u, by rw [← Act.put_comm a v u h2]; exact he⟩
        | panicked c => exact hQ _ _ _ he
        | outgrown => exact he
      case row row args => exact Rows.mono h fun u w'' he => ⟨keep a hy u, by rw [← Act.put_comm a v u h2]; exact he⟩
    | halt x w' =>
      cases x <;> simp only [Oper.upon] at h ⊢
      case panic u => exact hQ _ _ _ h
  · rename_i hw
    simp only [hw] at h
    exact ⟨keep a hy _, by rw [← Act.put_comm a v undef h2]; exact h⟩
theorem wpIn_first {i : Nat} {oi ol : Oper} {v : Value} (hi : ops[i]? = some oi) (hsel : ∀ (j : Nat) (o : Oper) cs b, ops[j]? = some o → o.op ≠ .select cs b) (hil : i ≠ last) (hl : ops[last]? = some ol) (hle : ∃ e ∈ ol.after, Region.binds md e = true ∧ e.on = i)
    (hQ : ∀ c a w, Q (.panic c) (a.put oi.dst v) w → Q (.panic c) a w) :
    ∀ (fuel : Nat) (listed : Array Bool) (a : Act) (w : World),
      (∀ j oj, ops[j]? = some oj → j ≠ i → listed.getD j true = false → (∀ e ∈ oj.after, Region.binds md e = true → e.on ≠ i) → oi.apart ops oj = true) →
      i ∈ Region.ready md ops listed → listed.getD last false = false → C w → YieldsC P ops C oi v a →
      wpIn P md ops last C Q fuel (listed.setIfInBounds i true) (a.put oi.dst v) w → wpIn P md ops last C Q (fuel + 1) listed a w := by
  intro fuel
  induction fuel with
  | zero =>
    intro listed a w _ hr hll hC hy H
    refine ⟨fun _ => hC, fun h => (by rw [h] at hr; cases hr), fun j hj => ?_⟩
    by_cases hji : j = i
    · subst hji; exact hy.wpOp hi hC H
    · have := ready_mono hj hji
      rw [H.2.1] at this
      cases this
  | succ fuel ih =>
    intro listed a w hfree hr hll hC hy H
    refine ⟨fun _ => hC, fun h => (by rw [h] at hr; cases hr), fun j hj => ?_⟩
    by_cases hji : j = i
    · subst hji; exact hy.wpOp hi hC H
    · have h1 := H.2.2 j (ready_mono hj hji)
      obtain ⟨hjun, oj, hoj, hall⟩ := mem_ready.1 hj
      have hnot : ∀ e ∈ oj.after, Region.binds md e = true → e.on ≠ i := fun e he hb heq => by
        have h1 := hall e he hb
        have h0 := (mem_ready.1 hr).1
        rw [heq] at h1
        rcases Nat.lt_or_ge i listed.size with h' | h'
        · simp [h'] at h0 h1; rw [h0] at h1; cases h1
        · simp [Array.getElem?_eq_none h'] at h1
      have hjl : j ≠ last := fun e => by
        subst e
        obtain rfl : oj = ol := Option.some.inj (hoj.symm.trans hl)
        obtain ⟨e, he, hb, hon⟩ := hle
        exact hnot e he hb hon
      have hll' : (listed.setIfInBounds j true).getD last false = false := by rw [getD_set_ne false hjl]; exact hll
      have hll2 : ((listed.setIfInBounds i true).setIfInBounds j true).getD last false = false := by rw [getD_set_ne false hjl, getD_set_ne false hil]; exact hll
      have h2 := wpOp_putC hoj (hfree j oj hoj hji hjun hnot) (fun cs b => hsel i oi cs b hi) (fun cs b => hsel j oj cs b hoj) hQ hy h1
      have hfree' : ∀ k ok, ops[k]? = some ok → k ≠ i → (listed.setIfInBounds j true).getD k true = false →
          (∀ e ∈ ok.after, Region.binds md e = true → e.on ≠ i) → oi.apart ops ok = true := fun k ok hk hki hun hno => by
        refine hfree k ok hk hki ?_ hno
        by_cases hjk : j = k
        · subst hjk; exact hjun
        · rw [getD_set_ne true hjk] at hun; exact hun
      refine wpOp_mono (fun a' w' h3 => ih (listed.setIfInBounds j true) a' w' hfree' (ready_mono hr (Ne.symm hji)) hll' (wpIn.cls h3.2 hll2) h3.1 ?_) h2
      rw [Array.setIfInBounds_comm _ _ hji]
      exact h3.2
def waitsB (md : Region.Mode) (ops : Array Oper) (last i : Nat) : Bool := i != last && match ops[last]? with | none => false | some ol => ol.after.any fun e => Region.binds md e && e.on == i
theorem waitsB_spec {last i : Nat} (h : waitsB md ops last i = true) : i ≠ last ∧ ∃ ol, ops[last]? = some ol ∧ ∃ e ∈ ol.after, Region.binds md e = true ∧ e.on = i := by
  unfold waitsB at h
  rw [Bool.and_eq_true] at h
  obtain ⟨h1, h2⟩ := h
  refine ⟨by simpa using h1, ?_⟩
  cases ho : ops[last]? with
  | none => rw [ho] at h2; simp at h2
  | some ol =>
    rw [ho] at h2
    obtain ⟨e, he, h3⟩ := Array.any_eq_true'.1 h2
    rw [Bool.and_eq_true] at h3
    exact ⟨ol, rfl, e, he, h3.1, by simpa using h3.2⟩
/-- One that reads is taken first. -/
theorem wpIn_take (i : Nat) {oi : Oper} (v : Value) {fuel : Nat} {listed : Array Bool} {a : Act} {w : World} (hi : ops[i]? = some oi)
    (hs : Region.noSelect ops = true) (hf : Region.free md ops listed i = true) (hr : (Region.ready md ops listed).contains i = true) (hwt : waitsB md ops last i = true) (hll : listed.getD last false = false)
    (hw : Region.wanted oi (yielded ops a.tmps) = true) (hQ : ∀ c a w, Q (.panic c) (a.put oi.dst v) w → Q (.panic c) a w) (hC : C w) (hy : ∀ w, C w → (execOp a.eval oi).run P w = .ok (.value v) w)
    (h : wpIn P md ops last C Q fuel (listed.setIfInBounds i true) (a.put oi.dst v) w) : wpIn P md ops last C Q (fuel + 1) listed a w := by
  obtain ⟨h1, ol, h2, h3⟩ := waitsB_spec hwt
  exact wpIn_first hi (Region.noSelect_spec hs) h1 h2 h3 hQ fuel listed a w (Region.free_spec hi hf) (by simpa using hr) hll hC (.inl ⟨hw, hy⟩) h
theorem wpIn_done {listed : Array Bool} {a : Act} {w : World} (hr : Region.ready md ops listed = []) (hl : listed.getD last false = true) (h : Q .normal a w) : ∀ fuel, wpIn P md ops last C Q fuel listed a w
  | 0 => ⟨(fun e => by rw [hl] at e; cases e), hr, h⟩
  | _ + 1 => ⟨(fun e => by rw [hl] at e; cases e), fun _ => h, fun i hi => by rw [hr] at hi; cases hi⟩
/-- All that may come up. -/
theorem wpIn_one (i : Nat) {o : Oper} {fuel : Nat} {listed : Array Bool} {a : Act} {w : World} (hi : ops[i]? = some o) (hr : Region.ready md ops listed = [i]) (hC : listed.getD last false = false → C w) (hw : Region.wanted o (yielded ops a.tmps) = true)
    (h : Oper.wp P o a w (wpIn P md ops last C Q fuel (listed.setIfInBounds i true)) Q) : wpIn P md ops last C Q (fuel + 1) listed a w := by
  refine ⟨hC, fun h0 => absurd (hr.symm.trans h0) (by simp), fun j hj => ?_⟩
  rw [hr] at hj
  obtain rfl := List.mem_singleton.1 hj
  exact wpOp_step hi fun K hK => by rw [if_pos hw]; exact Oper.wp_mono hK h
theorem wpIn_two (i j : Nat) {o o' : Oper} {fuel : Nat} {listed : Array Bool} {a : Act} {w : World} (hi : ops[i]? = some o) (hj : ops[j]? = some o') (hr : Region.ready md ops listed = [i, j]) (hC : listed.getD last false = false → C w)
    (hw : Region.wanted o (yielded ops a.tmps) = true) (hw' : Region.wanted o' (yielded ops a.tmps) = true)
    (h : Oper.wp P o a w (wpIn P md ops last C Q fuel (listed.setIfInBounds i true)) Q) (h' : Oper.wp P o' a w (wpIn P md ops last C Q fuel (listed.setIfInBounds j true)) Q) : wpIn P md ops last C Q (fuel + 1) listed a w := by
  refine ⟨hC, fun h0 => absurd (hr.symm.trans h0) (by simp), fun k hk => ?_⟩
  rw [hr] at hk
  rcases List.mem_cons.1 hk with rfl | hk
  · exact wpOp_step hi fun K hK => by rw [if_pos hw]; exact Oper.wp_mono hK h
  · obtain rfl := List.mem_singleton.1 hk
    exact wpOp_step hj fun K hK => by rw [if_pos hw']; exact Oper.wp_mono hK h'
theorem wp_region_in (n last : Nat) {id : Nat} {a : Act} {w : World} (C : World → Prop) (hm : P.follows .mixedOrders = true) (hn : ops.size = n) (h : wpIn P .any ops last C Q n (Array.replicate n false) a w.drew) : (Code.region id ops true).wp P Q a w :=
  wp_region_any hm (wpIn.any _ _ _ _ (by rw [hn]; exact h))
end
end Go.Proofs.YtmcpkhknjdiocaaGreatDoor
namespace Go.Proofs.YtmcpkhknjdiocaaGreatDoor
open Go.RowKit
attribute [local go_sem low] mk_extract
attribute [local go_sem] After.cell After.frozen mk_extract_end ByteArray.mk_append_mk
abbrev DLockT : TypeId := 38
/-- A lock in memory. -/
structure DLockAt (w : World) (l : Nat) (wr : Int) (sl : List Sp.Sl) : Prop where
  bl : Blk w l DLockT (lkV wr sl).toArray
  len : sl.length = 8
theorem DLockAt.chg {S : Nat → Prop} {w w' : World} {l : Nat} {wr : Int} {sl : List Sp.Sl} (h : DLockAt w l wr sl) (hk : Chg S w w') (hS : ¬ S l) : DLockAt w' l wr sl := ⟨h.bl.chg hk hS, h.len⟩
theorem DLockAt.go {w w' : World} {l : Nat} {wr : Int} {sl : List Sp.Sl} (h : DLockAt w l wr sl) (hb : Below w.heap.size w w') : DLockAt w' l wr sl := ⟨h.bl.below hb h.bl.lt, h.len⟩
theorem DLockAt.pid {w : World} {l : Nat} {wr : Int} {sl : List Sp.Sl} (h : DLockAt w l wr sl) {i : Nat} (hi : i < 8) : w.cell? ⟨l, 1 + i * 2, none⟩ = some (.int .i64 (sl.getD i Sp.sl0).pid) := by
  refine (h.bl.cell (1 + i * 2)).trans ?_
  rw [List.getElem?_toArray, lkV, Nat.add_comm 1, List.getElem?_cons_succ]
  exact (slV_at sl i (by have := h.len; omega)).1
theorem DLockAt.txn {w : World} {l : Nat} {wr : Int} {sl : List Sp.Sl} (h : DLockAt w l wr sl) {i : Nat} (hi : i < 8) : w.cell? ⟨l, 1 + i * 2 + 1, none⟩ = some (.int .u64 (sl.getD i Sp.sl0).txn) := by
  refine (h.bl.cell (1 + i * 2 + 1)).trans ?_
  rw [List.getElem?_toArray, lkV, show 1 + i * 2 + 1 = i * 2 + 1 + 1 by omega, List.getElem?_cons_succ]
  exact (slV_at sl i (by have := h.len; omega)).2
theorem DLockAt.put {w : World} {l : Nat} {wr : Int} {sl : List Sp.Sl} (h : DLockAt w l wr sl) (i : Nat) (s : Sp.Sl) : DLockAt ((w.setCell ⟨l, 1 + i * 2, none⟩ (.int .i64 s.pid)).setCell ⟨l, 1 + i * 2 + 1, none⟩ (.int .u64 s.txn)) l wr (sl.set i s) := by
  refine ⟨?_, by rw [List.length_set]; exact h.len⟩
  have := (h.bl.set_ (1 + i * 2) (.int .i64 s.pid)).set_ (1 + i * 2 + 1) (.int .u64 s.txn)
  rw [List.setIfInBounds_toArray, List.setIfInBounds_toArray, lkV, show 1 + i * 2 = i * 2 + 1 by omega, List.set_cons_succ, List.set_cons_succ, slV_set] at this
  rw [show 1 + i * 2 = i * 2 + 1 by omega]
  exact this
theorem DLockAt.put1 {w : World} {l : Nat} {wr : Int} {sl : List Sp.Sl} (h : DLockAt w l wr sl) (i : Nat) (t : Int) (hi : i < 8) : DLockAt (w.setCell ⟨l, 1 + i * 2 + 1, none⟩ (.int .u64 t)) l wr (sl.set i ⟨(sl.getD i Sp.sl0).pid, t⟩) := by
  have h2 := h.put i ⟨(sl.getD i Sp.sl0).pid, t⟩
  have hp := h.pid hi
  refine ⟨?_, h2.len⟩
  have e := h.bl.set_ (1 + i * 2 + 1) (.int .u64 t)
  have hs := slV_set sl i ⟨(sl.getD i Sp.sl0).pid, t⟩
  have ha := (slV_at sl i (by have := h.len; omega)).1
  have hself : (sl.flatMap slV).set (i * 2) (.int .i64 (sl.getD i Sp.sl0).pid) = sl.flatMap slV := by
    apply List.ext_getElem?
    intro k
    rw [List.getElem?_set]
    split
    · rename_i hk
      subst hk
      rw [ha, if_pos (List.getElem?_eq_some_iff.1 ha).1]
    · rfl
  rw [hself] at hs
  rw [List.setIfInBounds_toArray, lkV, show 1 + i * 2 + 1 = i * 2 + 1 + 1 by omega, List.set_cons_succ, hs] at e
  rw [show 1 + i * 2 + 1 = i * 2 + 1 + 1 by omega]
  exact e
set_option maxRecDepth 100000 in
set_option maxHeartbeats 1600000 in
theorem dOwns_any (l : Nat) (wr : Int) (sl : List Sp.Sl) (slot pid : Int) (w : World) (hl : DLockAt w l wr sl) :
    Calls Tryz.prog 56 #[.pointer (some ⟨l, 0, none⟩), .int .i64 slot, .int .i64 pid] w fun e w' => e = .returned (.bool (Sp.owns sl slot pid)) ∧ w = w' := by
  by_cases h0 : 0 ≤ slot
  · obtain ⟨i, rfl⟩ := Int.eq_ofNat_of_zero_le h0
    by_cases h8 : i < 8
    · have h8' : (i : Int) < 8 := by omega
      by_cases hp : 0 < pid
      · have c0 := hl.pid h8
        have HV := Lib.hid (show Sp.owns sl i pid = ((sl.getD i Sp.sl0).pid == pid) by unfold Sp.owns; simp [h8', hp]; rfl)
        rw [HV.out]
        clear hl HV
        go_enter Tryz.func56, Tryz.ntmps56
        go_wp2_with fail
        go_ret
        exact ⟨rfl, rfl⟩
      · have HV := Lib.hid (show Sp.owns sl i pid = false by unfold Sp.owns; simp [hp])
        rw [HV.out]
        clear hl
        go_enter Tryz.func56, Tryz.ntmps56
        go_wp2_with fail
        go_ret
        exact ⟨rfl, rfl⟩
    · have h8' : ¬ (i : Int) < 8 := by omega
      have HV := Lib.hid (show Sp.owns sl i pid = false by unfold Sp.owns; simp [h8'])
      rw [HV.out]
      clear hl
      go_enter Tryz.func56, Tryz.ntmps56
      go_wp2_with fail
      go_ret
      exact ⟨rfl, rfl⟩
  · have HV := Lib.hid (show Sp.owns sl slot pid = false by unfold Sp.owns; simp [h0])
    rw [HV.out]
    clear hl
    go_enter Tryz.func56, Tryz.ntmps56
    go_wp2_with fail
    go_ret
    exact ⟨rfl, rfl⟩
set_option maxRecDepth 100000 in
set_option maxHeartbeats 1600000 in
theorem dPublish_any (l : Nat) (wr : Int) (sl : List Sp.Sl) (slot pid txn : Int) (w : World) (hl : DLockAt w l wr sl) :
    Calls Tryz.prog 59 #[.pointer (some ⟨l, 0, none⟩), .int .i64 slot, .int .i64 pid, .int .u64 txn] w fun e w' => e = .returned (.int .i64 (if Sp.owns sl slot pid then 0 else 18)) ∧ DLockAt w' l wr (Sp.publish sl slot pid txn) ∧ Chg (OneM l) w w' := by
  rcases hb : Sp.owns sl slot pid with _ | _
  · have HV := Lib.hid (show Sp.publish sl slot pid txn = sl by unfold Sp.publish; rw [hb]; rfl)
    have HB := Lib.hid hb
    have HL := Lib.hid hl
    clear hb hl
    go_enter Tryz.func59, Tryz.ntmps59
    go_wp2_with (go_at_call 56; refine (dOwns_any l wr sl slot pid _ HL.out).mono ?_; rintro e w2 ⟨rfl, rfl⟩; rw [HB.out])
    go_ret
    exact ⟨rfl, by rw [HV.out]; exact HL.out, Chg.refl _ _⟩
  · obtain ⟨i, rfl, hi, hp, he⟩ := Sp.owns_lt hb
    have HV := Lib.hid (show Sp.publish sl i pid txn = sl.set i ⟨(sl.getD i Sp.sl0).pid, txn⟩ by unfold Sp.publish; rw [hb]; rfl)
    have HB := Lib.hid hb
    have HL := Lib.hid hl
    have c1 := hl.txn hi
    have f1 := hl.bl.frozen (1 + i * 2 + 1)
    have hi' : (i : Int) < 8 := by omega
    clear hb hl
    go_enter Tryz.func59, Tryz.ntmps59
    go_wp2_with (go_at_call 56; refine (dOwns_any l wr sl i pid _ HL.out).mono ?_; rintro e w2 ⟨rfl, rfl⟩; rw [HB.out])
    go_ret
    exact ⟨rfl, by rw [HV.out]; exact HL.out.put1 i txn hi, Chg.set1 _ _ _ _⟩
set_option maxRecDepth 100000 in
set_option maxHeartbeats 1600000 in
theorem dFreeSl_any (l : Nat) (wr : Int) (sl : List Sp.Sl) (slot pid : Int) (w : World) (hl : DLockAt w l wr sl) :
    Calls Tryz.prog 20 #[.pointer (some ⟨l, 0, none⟩), .int .i64 slot, .int .i64 pid] w fun e w' => e = .returned (.int .i64 (if Sp.owns sl slot pid then 0 else 18)) ∧ DLockAt w' l wr (Sp.freeSl sl slot pid) ∧ Chg (OneM l) w w' := by
  rcases hb : Sp.owns sl slot pid with _ | _
  · have HV := Lib.hid (show Sp.freeSl sl slot pid = sl by unfold Sp.freeSl; rw [hb]; rfl)
    have HB := Lib.hid hb
    have HL := Lib.hid hl
    clear hb hl
    go_enter Tryz.func20, Tryz.ntmps20
    go_wp2_with (go_at_call 56; refine (dOwns_any l wr sl slot pid _ HL.out).mono ?_; rintro e w2 ⟨rfl, rfl⟩; rw [HB.out])
    go_ret
    exact ⟨rfl, by rw [HV.out]; exact HL.out, Chg.refl _ _⟩
  · obtain ⟨i, rfl, hi, hp, he⟩ := Sp.owns_lt hb
    have HV := Lib.hid (show Sp.freeSl sl i pid = sl.set i Sp.sl0 by unfold Sp.freeSl; rw [hb]; rfl)
    have HB := Lib.hid hb
    have HL := Lib.hid hl
    have c0 := hl.pid hi
    have f0 := hl.bl.frozen (1 + i * 2)
    have c1 := hl.txn hi
    have f1 := hl.bl.frozen (1 + i * 2 + 1)
    have hi' : (i : Int) < 8 := by omega
    clear hb hl
    go_enter Tryz.func20, Tryz.ntmps20
    go_wp2_with (go_at_call 56; refine (dOwns_any l wr sl i pid _ HL.out).mono ?_; rintro e w2 ⟨rfl, rfl⟩; rw [HB.out])
    go_ret
    exact ⟨rfl, by rw [HV.out]; exact HL.out.put i Sp.sl0, (Chg.set1 _ _ _ _).trans (Chg.set1 _ _ _ _)⟩
/-- What Claim tells: a slot and 0, or -1 and 15. -/
def dClV (o : Option Nat) : Value := match o with | some i => .tuple #[.int .i64 (i : Int), .int .i64 0] | none => .tuple #[.int .i64 (-1), .int .i64 15]
theorem frees_hit {sl : List Sp.Sl} {pid : Int} {k : Nat} (h : Sp.frees sl pid k = []) (hp : 0 < pid) (he : (sl.getD k Sp.sl0).pid = 0) : ∀ n, k < n → (Sp.frees sl pid n).head? = some k := by
  intro n hn
  obtain ⟨m, rfl⟩ : ∃ m, n = k + 1 + m := ⟨n - (k + 1), by omega⟩
  clear hn
  induction m with
  | zero => rw [Nat.add_zero, Sp.frees_succ, h, if_pos ⟨he, hp⟩]; rfl
  | succ m ih =>
    rw [show k + 1 + (m + 1) = k + 1 + m + 1 by omega, Sp.frees_succ, List.head?_append, ih]
    rfl
set_option maxRecDepth 100000 in
set_option maxHeartbeats 1600000 in
theorem dClaim_any (l : Nat) (wr : Int) (sl : List Sp.Sl) (pid : Int) (w : World) (hl : DLockAt w l wr sl) :
    Calls Tryz.prog 18 #[.pointer (some ⟨l, 0, none⟩), .int .i64 pid] w fun e w' => e = .returned (dClV (Sp.claim sl pid)) ∧ DLockAt w' l wr (Sp.claimed sl pid) ∧ Chg (OneM l) w w' := by
  have HL := Lib.hid hl
  clear hl
  by_cases hp : 0 < pid
  · go_enter Tryz.func18, Tryz.ntmps18
    go_upto_region 2 with fail
    go_loopw [6] (fun iv wr => ∃ k : Nat, k ≤ 8 ∧ iv = .int .i64 (k : Int) ∧ wr = w ∧ Hid (Sp.frees sl pid k = [])) (fun iv _ => 8 - (intOf iv).toNat)
    case atStart => exact ⟨0, by omega, rfl, rfl, Lib.hid rfl⟩
    case round =>
      obtain ⟨k, hk, rfl, rfl, HF⟩ := hrel
      by_cases hlt : k < 8
      · have hlt' : (k : Int) < 8 := by omega
        have c0 := HL.out.pid hlt
        have f0 := HL.out.bl.frozen (1 + k * 2)
        have c1 := HL.out.txn hlt
        have f1 := HL.out.bl.frozen (1 + k * 2 + 1)
        by_cases he : (sl.getD k Sp.sl0).pid = 0
        · have HC := Lib.hid (show Sp.claim sl pid = some k from frees_hit HF.out hp he 8 hlt)
          have HD := Lib.hid (show Sp.claimed sl pid = sl.set k ⟨pid, 0⟩ by unfold Sp.claimed; rw [HC.out])
          rw [he] at c0
          clear HF
          go_wp2_with fail
          refine bodyPost_ret (v := .tuple #[.int .i64 (k : Int), .int .i64 0]) (by simp [results, Tryz.results18, go_sem]) rfl ?_
          rw [HC.out, HD.out]
          exact ⟨rfl, HL.out.put k ⟨pid, 0⟩, (Chg.set1 _ _ _ _).trans (Chg.set1 _ _ _ _)⟩
        · have HN := Lib.hid (show Sp.frees sl pid (k + 1) = [] by rw [Sp.frees_succ, HF.out, if_neg (by intro h; exact he h.1)]; rfl)
          clear HF
          have he2 : ((sl.getD k Sp.sl0).pid == 0) = false := by simpa using he
          generalize (sl.getD k Sp.sl0).pid = pk at *
          go_wp2_with fail
          refine ⟨⟨k + 1, by omega, by go_num, by trivial, HN⟩, by simp [intOf]; omega⟩
      · obtain rfl : k = 8 := by omega
        have HC := Lib.hid (show Sp.claim sl pid = none by unfold Sp.claim; rw [HF.out]; rfl)
        have HD := Lib.hid (show Sp.claimed sl pid = sl by unfold Sp.claimed; rw [HC.out])
        clear HF
        go_wp2_with fail
        refine bodyPost_ret (v := .tuple #[.int .i64 (-1), .int .i64 15]) (by simp [results, Tryz.results18, go_sem]) rfl ?_
        rw [HC.out, HD.out]
        exact ⟨rfl, HL.out, Chg.refl _ _⟩
  · have HC := Lib.hid (show Sp.claim sl pid = none by unfold Sp.claim Sp.frees; simp [hp])
    have HD := Lib.hid (show Sp.claimed sl pid = sl by unfold Sp.claimed; rw [HC.out])
    go_enter Tryz.func18, Tryz.ntmps18
    go_upto_region 2 with fail
    go_loopw [6] (fun iv wr => iv = .int .i64 0 ∧ wr = w) (fun _ _ => 0)
    case atStart => exact ⟨rfl, rfl⟩
    case round =>
      obtain ⟨rfl, rfl⟩ := hrel
      go_wp2_with fail
      refine bodyPost_ret (v := .tuple #[.int .i64 (-1), .int .i64 15]) (by simp [results, Tryz.results18, go_sem]) rfl ?_
      rw [HC.out, HD.out]
      exact ⟨rfl, HL.out, Chg.refl _ _⟩
end Go.Proofs.YtmcpkhknjdiocaaGreatDoor
namespace Go.Proofs.YtmcpkhknjdiocaaGreatDoor
open Go.RowKit
attribute [local go_sem low] mk_extract
attribute [local go_sem] After.cell After.frozen mk_extract_end ByteArray.mk_append_mk
abbrev DReaderT : TypeId := 68
/-- An error's number; 0: none. -/
def erN (o : Option Int) : Int := o.getD 0
def drdV (r : Sp.Rdr) : List Value := [.int .i64 r.pid, .int .i64 r.most, .int .i64 r.phase, .int .i64 r.slot, .int .u64 r.mt.txn, .int .i64 r.mt.main.page, .int .i64 r.mt.main.count, .int .i64 r.mt.main.flags, .int .i64 r.mt.free, .int .i64 r.mt.last, .int .i64 (erN r.err)]
def DRdAt (w : World) (p : Nat) (r : Sp.Rdr) : Prop := Blk w p DReaderT (drdV r).toArray
theorem DRdAt.chg {S : Nat → Prop} {w w' : World} {p : Nat} {r : Sp.Rdr} (h : DRdAt w p r) (hk : Chg S w w') (hS : ¬ S p) : DRdAt w' p r := Blk.chg h hk hS
theorem DRdAt.go {w w' : World} {p : Nat} {r : Sp.Rdr} (h : DRdAt w p r) (hb : Below w.heap.size w w') : DRdAt w' p r := Blk.below h hb (Blk.lt h)
set_option maxRecDepth 100000 in
set_option maxHeartbeats 1600000 in
theorem dRdNew_any (pid most : Int) (w : World) : Calls Tryz.prog 12 #[.int .i64 pid, .int .i64 most] w fun e w' => e = .returned (.pointer (some ⟨w.heap.size, 0, none⟩)) ∧ DRdAt w' w.heap.size ⟨pid, most, 1, -1, Sp.mt0, none⟩ ∧ Below w.heap.size w w' := by
  go_enter Tryz.func12, Tryz.ntmps12
  go_wp2_with fail
  go_ret
  exact ⟨rfl, Blk.new w _ _, (Below.refl _ _).alloc (Nat.le_refl _) _⟩
end Go.Proofs.YtmcpkhknjdiocaaGreatDoor
