/- The document's metas: which of two counts. The document's reader: a step that publishes. The document's reader: a step that frees. A lock as bytes; what stays true of a reader and of slots. Locks as bytes: the package's, the document's. -/
import Derived.Test.YtmcpkhknjdiocaaGreatDoorQB06
import Derived.Test.YtmcpkhknjdiocaaGreatDoorQB12
import Derived.Test.YtmcpkhknjdiocaaGreatDoorQB14
import Derived.Test.YtmcpkhknjdiocaaGreatDoorQB19
import Derived.Test.YtmcpkhknjdiocaaGreatDoorQB20
import Derived.Test.YtmcpkhknjdiocaaGreatDoorQB24
import Derived.BigQuiet
set_option linter.unusedSimpArgs false
set_option linter.unusedVariables false
namespace Go.Proofs.YtmcpkhknjdiocaaGreatDoor
open Go.RowKit
attribute [local go_sem low] mk_extract
attribute [local go_sem] After.cell After.frozen mk_extract_end ByteArray.mk_append_mk
/-- The result's block, the best so far, the two texts. -/
structure CzS (w : World) (a b : Txt) (out : Option Sp.Mt) (W : World) : Prop where
  hb : Below w.heap.size w W
  br : Blk W w.heap.size MetaT #[.int .u64 0, .int .i64 0, .int .i64 0, .int .i64 0, .int .i64 0, .int .i64 0]
  bo : Blk W (w.heap.size + 1) MetaT (mtV (out.getD Sp.mt0)).toArray
  bs : Blk W (w.heap.size + 2) 204 #[.string ⟨a.toArray⟩, .string ⟨b.toArray⟩]
theorem CzS.go {w W W' : World} {a b : Txt} {out : Option Sp.Mt} (h : CzS w a b out W) (hb : Below W.heap.size W W') : CzS w a b out W' :=
  ⟨h.hb.trans (hb.mono h.hb.size), h.br.below hb h.br.lt, h.bo.below hb h.bo.lt, h.bs.below hb h.bs.lt⟩
theorem CzS.put {w W : World} {a b : Txt} {out : Option Sp.Mt} (h : CzS w a b out W) (m : Sp.Mt) : CzS w a b (some m) (W.setRow (w.heap.size + 1) (mtV m).toArray) := by
  have h1 := h.br
  have h2 := h.bs
  unfold Blk at h1 h2
  exact ⟨below_setRow h.hb (Nat.le_succ _) _, (setRow_other W (w.heap.size + 1) w.heap.size _ (by omega)).trans h1, h.bo.row, (setRow_other W (w.heap.size + 1) (w.heap.size + 2) _ (by omega)).trans h2⟩
theorem CzS.start {a b : Txt} (w : World) : CzS w a b none (((w.alloc (.cells #[.int .u64 0, .int .i64 0, .int .i64 0, .int .i64 0, .int .i64 0, .int .i64 0] MetaT)).alloc (.cells #[.int .u64 0, .int .i64 0, .int .i64 0, .int .i64 0, .int .i64 0, .int .i64 0] MetaT)).alloc (.cells #[.string ⟨a.toArray⟩, .string ⟨b.toArray⟩] 204)) := by
  refine ⟨((((Below.refl _ _).alloc (Nat.le_refl _) _).alloc (by simp) _).alloc (by simp only [World.size_alloc]; omega) _), ((Blk.new w _ _).alloc _).alloc _, (blk_second w _ _ _).alloc _, ?_⟩
  have := blk_second (w.alloc (.cells #[.int .u64 0, .int .i64 0, .int .i64 0, .int .i64 0, .int .i64 0, .int .i64 0] MetaT)) (.cells #[.int .u64 0, .int .i64 0, .int .i64 0, .int .i64 0, .int .i64 0, .int .i64 0] MetaT) 204 #[.string ⟨a.toArray⟩, .string ⟨b.toArray⟩]
  simpa using this
/-- What copyholdref1.Choose gives. -/
def dchooseV : Option Sp.Mt → Value
  | some m => .tuple #[.agg (mtV m).toArray, .int .i64 0]
  | none => .tuple #[.agg (mtV Sp.mt0).toArray, .int .i64 12]
set_option maxRecDepth 100000 in
set_option maxHeartbeats 6400000 in
theorem dChoose_any (a b : Txt) (w : World) (ha : a.length ≤ 4611686018427387904) (hb : b.length ≤ 4611686018427387904) :
    Calls Tryz.prog 88 #[.string ⟨a.toArray⟩, .string ⟨b.toArray⟩] w fun e w' => e = .returned (dchooseV (Sp.choose a b)) ∧ Below w.heap.size w w' := by
  have HLEN := Lib.hid (And.intro ha hb)
  have R := Lib.hid (CzS.start (a := a) (b := b) w)
  clear ha hb
  go_enter Tryz.func88, Tryz.ntmps88
  go_upto_region 4 with fail
  go_loopw [7, 9] (fun f i wr => ∃ (k : Nat) (out : Option Sp.Mt), k ≤ 2 ∧ i = .int .i64 k ∧ f = .bool (Option.isSome out) ∧ Hid (out = (Sp.rights a b k).foldl Sp.later none) ∧ CzS w a b out wr) (fun _ i _ => 2 - (intOf i).toNat)
  case atStart => exact ⟨0, none, by omega, rfl, rfl, Lib.hid rfl, R.out⟩
  case round =>
    obtain ⟨k, out, hk, rfl, rfl, ho, hs⟩ := hrel
    replace R := Lib.hid hs
    have HO := Lib.hid ho.out
    clear hs ho
    rcases (by omega : k = 0 ∨ k = 1 ∨ k = 2) with rfl | rfl | rfl
    · clear hk
      have c8 := R.out.bs.cell 0
      simp at c8
      go_upto_region 6 with fail
      rcases hok : Sp.readOk a with _ | _
      · have HOK := Lib.hid hok
        have HNO := Lib.hid (Sp.rights_no0 (a := a) (b := b) (show Sp.right a 0 = none by unfold Sp.right; rw [hok]; simp))
        clear hok
        go_cut [10, 11] (fun s10 s11 W => (∃ g, s10 = .pointer (some ⟨g, 0, none⟩)) ∧ s11 = .int .i64 12 ∧ CzS w a b out W)
        case first =>
          go_wp2_with (first
            | (go_at_call 117; refine (dRead_any a _ HLEN.out.1).mono ?_; rintro e w7 ⟨x, rfl, hx, hb2⟩; rw [HOK.out]; dsimp only; replace R := Lib.hid (R.out.go hb2); clear hb2 hx)
            | (refine wpList_new PageT _ _ rfl rfl rfl rfl rfl rfl _ rfl (of_decide_eq_true (by kernel_rfl)) (by kernel_rfl) (by kernel_rfl) (by kernel_rfl) ?_))
          go_meet
          case rel => exact ⟨⟨_, rfl⟩, rfl, R.out.go ((Below.refl _ _).alloc (Nat.le_refl _) _)⟩
        case rest =>
          obtain ⟨⟨g, rfl⟩, rfl, hs⟩ := hcut
          obtain ⟨w2, rfl⟩ : ∃ W, W = wc := ⟨_, rfl⟩
          replace R := Lib.hid hs
          clear hs c8
          go_wp2_with fail
          go_roundw
          case rel => exact ⟨1, out, by omega, by go_num, rfl, by rw [HNO.out]; exact HO.out, R.out⟩
          case measure => simp [intOf]
      · have HOK := Lib.hid hok
        go_cut [10, 11] (fun s10 s11 W => ∃ g x, s10 = .pointer (some ⟨g, 0, none⟩) ∧ s11 = .int .i64 0 ∧ CzS w a b out W ∧ Blk W g PageT (pageV (Sp.parse a) x).toArray ∧ w.heap.size + 2 < g)
        case first =>
          go_wp2_with (first
            | (go_at_call 117; refine (dRead_any a _ HLEN.out.1).mono ?_; rintro e w7 ⟨x, rfl, hx, hb2⟩; rw [HOK.out]; dsimp only; replace R := Lib.hid (R.out.go hb2); clear hb2 hx)
            | (refine wpList_new PageT _ _ rfl rfl rfl rfl rfl rfl _ rfl (of_decide_eq_true (by kernel_rfl)) (by kernel_rfl) (by kernel_rfl) (by kernel_rfl) ?_))
          go_meet
          case rel => exact ⟨_, x, rfl, rfl, R.out.go ((Below.refl _ _).alloc (Nat.le_refl _) _), Blk.new _ _ _, R.out.bs.lt⟩
        case rest =>
          obtain ⟨g, x, rfl, rfl, hs, hbg, hgg⟩ := hcut
          obtain ⟨w2, rfl⟩ : ∃ W, W = wc := ⟨_, rfl⟩
          replace R := Lib.hid hs
          have HG := Lib.hid hbg
          have c0 : w2.cell? ⟨g, 0, none⟩ = some (.int .i64 (Sp.parse a).kind) := hbg.cell 0
          have c8 : w2.cell? ⟨g, 8, none⟩ = some (.int .u64 (Sp.parse a).mt.txn) := hbg.cell 8
          have hrg := (Sp.parse_rng a).2
          have HRG := Lib.hid hrg
          clear hs hbg hrg
          by_cases hkd : (Sp.parse a).kind = 6
          · by_cases htx : (Sp.parse a).mt.txn % 2 = 0
            · have HYS := Lib.hid (Sp.rights_yes0 (a := a) (b := b) (show Sp.right a 0 = some (Sp.parse a).mt by unfold Sp.right; rw [if_pos ⟨hok, hkd, htx⟩]))
              have b1 : ((Sp.parse a).kind == 6) = true := beq_iff_eq.2 hkd
              have b2 : ((Sp.parse a).mt.txn % 2 == 0) = true := beq_iff_eq.2 htx
              have HMT := Lib.hid (pg_mt HG.out)
              clear hkd htx hok HG
              generalize (Sp.parse a).mt = m at *
              rcases out with _ | o1
              · have hfo : (Sp.rights a b 1).foldl Sp.later none = some m := by rw [HYS.out, List.foldl_append, ← HO.out]; rfl
                have HFO := Lib.hid hfo
                clear hfo
                go_wp2_with (first
                  | (go_at_call 15; refine (dPlace_any _ HRG.out.1 HRG.out.2 _).mono ?_; rintro e w7 ⟨rfl, rfl⟩)
                  | (refine wpList_at MetaT _ rfl g 8 rfl rfl (mtV m).toArray _ HMT.out Tryz.underlying49 rfl rfl ?_)
                  | (refine wpList_store_row rfl MetaT _ _ rfl (w.heap.size + 1) _ rfl rfl MetaT (mtV Sp.mt0).toArray R.out.bo (by kernel_rfl) rfl (by kernel_rfl) ?_))
                go_roundw
                case rel => exact ⟨1, some m, by omega, by go_num, rfl, HFO.out.symm, R.out.put m⟩
                case measure => simp [intOf]
              · exact absurd HO.out (by simp [Sp.rights])
            · have HNO := Lib.hid (Sp.rights_no0 (a := a) (b := b) (show Sp.right a 0 = none by unfold Sp.right; rw [if_neg (fun h => htx h.2.2)]))
              have b1 : ((Sp.parse a).kind == 6) = true := beq_iff_eq.2 hkd
              have b2 : ((Sp.parse a).mt.txn % 2 == 0) = false := beq_eq_false_iff_ne.2 htx
              clear hkd htx hok HG
              go_wp2_with (go_at_call 15; refine (dPlace_any _ HRG.out.1 HRG.out.2 _).mono ?_; rintro e w7 ⟨rfl, rfl⟩)
              go_roundw
              case rel => exact ⟨1, out, by omega, by go_num, rfl, by rw [HNO.out]; exact HO.out, R.out⟩
              case measure => simp [intOf]
          · have HNO := Lib.hid (Sp.rights_no0 (a := a) (b := b) (show Sp.right a 0 = none by unfold Sp.right; rw [if_neg (fun h => hkd h.2.1)]))
            have b1 : ((Sp.parse a).kind == 6) = false := beq_eq_false_iff_ne.2 hkd
            clear hkd hok HG
            go_wp2_with fail
            go_roundw
            case rel => exact ⟨1, out, by omega, by go_num, rfl, by rw [HNO.out]; exact HO.out, R.out⟩
            case measure => simp [intOf]
    · clear hk
      have c8 := R.out.bs.cell 1
      simp at c8
      go_upto_region 6 with fail
      rcases hok : Sp.readOk b with _ | _
      · have HOK := Lib.hid hok
        have HNO := Lib.hid (Sp.rights_no1 (a := a) (b := b) (show Sp.right b 1 = none by unfold Sp.right; rw [hok]; simp))
        clear hok
        go_cut [10, 11] (fun s10 s11 W => (∃ g, s10 = .pointer (some ⟨g, 0, none⟩)) ∧ s11 = .int .i64 12 ∧ CzS w a b out W)
        case first =>
          go_wp2_with (first
            | (go_at_call 117; refine (dRead_any b _ HLEN.out.2).mono ?_; rintro e w7 ⟨x, rfl, hx, hb2⟩; rw [HOK.out]; dsimp only; replace R := Lib.hid (R.out.go hb2); clear hb2 hx)
            | (refine wpList_new PageT _ _ rfl rfl rfl rfl rfl rfl _ rfl (of_decide_eq_true (by kernel_rfl)) (by kernel_rfl) (by kernel_rfl) (by kernel_rfl) ?_))
          go_meet
          case rel => exact ⟨⟨_, rfl⟩, rfl, R.out.go ((Below.refl _ _).alloc (Nat.le_refl _) _)⟩
        case rest =>
          obtain ⟨⟨g, rfl⟩, rfl, hs⟩ := hcut
          obtain ⟨w2, rfl⟩ : ∃ W, W = wc := ⟨_, rfl⟩
          replace R := Lib.hid hs
          clear hs c8
          go_wp2_with fail
          go_roundw
          case rel => exact ⟨2, out, by omega, by go_num, rfl, by rw [HNO.out]; exact HO.out, R.out⟩
          case measure => simp [intOf]
      · have HOK := Lib.hid hok
        go_cut [10, 11] (fun s10 s11 W => ∃ g x, s10 = .pointer (some ⟨g, 0, none⟩) ∧ s11 = .int .i64 0 ∧ CzS w a b out W ∧ Blk W g PageT (pageV (Sp.parse b) x).toArray ∧ w.heap.size + 2 < g)
        case first =>
          go_wp2_with (first
            | (go_at_call 117; refine (dRead_any b _ HLEN.out.2).mono ?_; rintro e w7 ⟨x, rfl, hx, hb2⟩; rw [HOK.out]; dsimp only; replace R := Lib.hid (R.out.go hb2); clear hb2 hx)
            | (refine wpList_new PageT _ _ rfl rfl rfl rfl rfl rfl _ rfl (of_decide_eq_true (by kernel_rfl)) (by kernel_rfl) (by kernel_rfl) (by kernel_rfl) ?_))
          go_meet
          case rel => exact ⟨_, x, rfl, rfl, R.out.go ((Below.refl _ _).alloc (Nat.le_refl _) _), Blk.new _ _ _, R.out.bs.lt⟩
        case rest =>
          obtain ⟨g, x, rfl, rfl, hs, hbg, hgg⟩ := hcut
          obtain ⟨w2, rfl⟩ : ∃ W, W = wc := ⟨_, rfl⟩
          replace R := Lib.hid hs
          have HG := Lib.hid hbg
          have c0 : w2.cell? ⟨g, 0, none⟩ = some (.int .i64 (Sp.parse b).kind) := hbg.cell 0
          have c8 : w2.cell? ⟨g, 8, none⟩ = some (.int .u64 (Sp.parse b).mt.txn) := hbg.cell 8
          have hrg := (Sp.parse_rng b).2
          have HRG := Lib.hid hrg
          clear hs hbg hrg
          by_cases hkd : (Sp.parse b).kind = 6
          · by_cases htx : (Sp.parse b).mt.txn % 2 = 1
            · have HYS := Lib.hid (Sp.rights_yes1 (a := a) (b := b) (show Sp.right b 1 = some (Sp.parse b).mt by unfold Sp.right; rw [if_pos ⟨hok, hkd, htx⟩]))
              have b1 : ((Sp.parse b).kind == 6) = true := beq_iff_eq.2 hkd
              have b2 : ((Sp.parse b).mt.txn % 2 == 1) = true := beq_iff_eq.2 htx
              have HMT := Lib.hid (pg_mt HG.out)
              clear hkd htx hok HG
              generalize (Sp.parse b).mt = m at *
              rcases out with _ | o1
              · have hfo : (Sp.rights a b 2).foldl Sp.later none = some m := by rw [HYS.out, List.foldl_append, ← HO.out]; rfl
                have HFO := Lib.hid hfo
                clear hfo
                go_wp2_with (first
                  | (go_at_call 15; refine (dPlace_any _ HRG.out.1 HRG.out.2 _).mono ?_; rintro e w7 ⟨rfl, rfl⟩)
                  | (refine wpList_at MetaT _ rfl g 8 rfl rfl (mtV m).toArray _ HMT.out Tryz.underlying49 rfl rfl ?_)
                  | (refine wpList_store_row rfl MetaT _ _ rfl (w.heap.size + 1) _ rfl rfl MetaT (mtV Sp.mt0).toArray R.out.bo (by kernel_rfl) rfl (by kernel_rfl) ?_))
                go_roundw
                case rel => exact ⟨2, some m, by omega, by go_num, rfl, HFO.out.symm, R.out.put m⟩
                case measure => simp [intOf]
              · have o0 : w2.cell? ⟨w.heap.size + 1, 0, none⟩ = some (.int .u64 o1.txn) := R.out.bo.cell 0
                by_cases hlt : o1.txn < m.txn
                · have hfo : (Sp.rights a b 2).foldl Sp.later none = some m := by rw [HYS.out, List.foldl_append, ← HO.out]; simp [Sp.later, hlt]
                  have HFO := Lib.hid hfo
                  clear hfo
                  go_wp2_with (first
                    | (go_at_call 15; refine (dPlace_any _ HRG.out.1 HRG.out.2 _).mono ?_; rintro e w7 ⟨rfl, rfl⟩)
                    | (refine wpList_at MetaT _ rfl g 8 rfl rfl (mtV m).toArray _ HMT.out Tryz.underlying49 rfl rfl ?_)
                    | (refine wpList_store_row rfl MetaT _ _ rfl (w.heap.size + 1) _ rfl rfl MetaT (mtV o1).toArray R.out.bo (by kernel_rfl) rfl (by kernel_rfl) ?_))
                  go_roundw
                  case rel => exact ⟨2, some m, by omega, by go_num, rfl, HFO.out.symm, R.out.put m⟩
                  case measure => simp [intOf]
                · have hfo : (Sp.rights a b 2).foldl Sp.later none = some o1 := by rw [HYS.out, List.foldl_append, ← HO.out]; simp [Sp.later, hlt]
                  have HFO := Lib.hid hfo
                  clear hfo
                  go_wp2_with (go_at_call 15; refine (dPlace_any _ HRG.out.1 HRG.out.2 _).mono ?_; rintro e w7 ⟨rfl, rfl⟩)
                  go_roundw
                  case rel => exact ⟨2, some o1, by omega, by go_num, rfl, HFO.out.symm, R.out⟩
                  case measure => simp [intOf]
            · have HNO := Lib.hid (Sp.rights_no1 (a := a) (b := b) (show Sp.right b 1 = none by unfold Sp.right; rw [if_neg (fun h => htx h.2.2)]))
              have b1 : ((Sp.parse b).kind == 6) = true := beq_iff_eq.2 hkd
              have b2 : ((Sp.parse b).mt.txn % 2 == 1) = false := beq_eq_false_iff_ne.2 htx
              clear hkd htx hok HG
              go_wp2_with (go_at_call 15; refine (dPlace_any _ HRG.out.1 HRG.out.2 _).mono ?_; rintro e w7 ⟨rfl, rfl⟩)
              go_roundw
              case rel => exact ⟨2, out, by omega, by go_num, rfl, by rw [HNO.out]; exact HO.out, R.out⟩
              case measure => simp [intOf]
          · have HNO := Lib.hid (Sp.rights_no1 (a := a) (b := b) (show Sp.right b 1 = none by unfold Sp.right; rw [if_neg (fun h => hkd h.2.1)]))
            have b1 : ((Sp.parse b).kind == 6) = false := beq_eq_false_iff_ne.2 hkd
            clear hkd hok HG
            go_wp2_with fail
            go_roundw
            case rel => exact ⟨2, out, by omega, by go_num, rfl, by rw [HNO.out]; exact HO.out, R.out⟩
            case measure => simp [intOf]
    · clear hk
      rcases out with _ | m
      · go_wp2_with (first
          | (refine wpList_built rfl MetaT _ rfl #[.int .u64 0, .int .i64 0, .int .i64 0, .int .i64 0, .int .i64 0, .int .i64 0] (by kernel_rfl) ?_)
          | (refine wpList_store_row rfl MetaT _ _ rfl w.heap.size _ rfl rfl MetaT _ R.out.br (by kernel_rfl) rfl (by kernel_rfl) ?_))
        obtain ⟨z0, z1, z2, z3, z4, z5⟩ := (R.out.br.row (ds := #[.int .u64 0, .int .i64 0, .int .i64 0, .int .i64 0, .int .i64 0, .int .i64 0])).at6
        refine bodyPost_ret (v := dchooseV none) (by simp [results, Tryz.results88, go_sem, dchooseV, mtV, Sp.mt0, Sp.root0, z0, z1, z2, z3, z4, z5]) rfl ⟨by rw [show Sp.choose a b = none from HO.out.symm], below_setRow R.out.hb (Nat.le_refl _) _⟩
      · go_wp2_with (first
          | (refine wpList_row MetaT _ rfl (w.heap.size + 1) rfl rfl MetaT _ (0, 0) _ R.out.bo Tryz.underlying49 rfl rfl ?_)
          | (refine wpList_store_row rfl MetaT _ _ rfl w.heap.size _ rfl rfl MetaT _ R.out.br (by kernel_rfl) rfl (by kernel_rfl) ?_))
        obtain ⟨z0, z1, z2, z3, z4, z5⟩ := (R.out.br.row (ds := #[.int .u64 m.txn, .int .i64 m.main.page, .int .i64 m.main.count, .int .i64 m.main.flags, .int .i64 m.free, .int .i64 m.last])).at6
        refine bodyPost_ret (v := dchooseV (some m)) (by simp [results, Tryz.results88, go_sem, dchooseV, mtV, Sp.mt0, Sp.root0, z0, z1, z2, z3, z4, z5]) rfl ⟨by rw [show Sp.choose a b = some m from HO.out.symm], below_setRow R.out.hb (Nat.le_refl _) _⟩
end Go.Proofs.YtmcpkhknjdiocaaGreatDoor
namespace Go.Proofs.YtmcpkhknjdiocaaGreatDoor
open Go.RowKit
attribute [local go_sem low] mk_extract
attribute [local go_sem] After.cell After.frozen mk_extract_end ByteArray.mk_append_mk
set_option maxRecDepth 100000 in
set_option maxHeartbeats 1600000 in
theorem dStep3y_any (p l f : Nat) (r : Sp.Rdr) (wn : Int) (sl : List Sp.Sl) (w : World) (hr : DRdAt w p r) (hl : DLockAt w l wn sl) (hne : p ≠ l) (h1 : r.phase = 3) (hc : Sp.owns sl r.slot r.pid = true) :
    Calls Tryz.prog 22 #[.pointer (some ⟨p, 0, none⟩), .pointer (some ⟨f, 0, none⟩), .pointer (some ⟨l, 0, none⟩)] w fun e w' => e = .returned (.tuple #[.bool false, .int .i64 0]) ∧ DRdAt w' p { r with phase := 4, err := none } ∧ DLockAt w' l wn (Sp.publish sl r.slot r.pid r.mt.txn) ∧ Chg (fun k => k = p ∨ k = l) w w' := by
  have c2 : w.cell? ⟨p, 2, none⟩ = some (.int .i64 3) := by rw [← h1]; exact Blk.cell hr 2
  have c0 : w.cell? ⟨p, 0, none⟩ = some (.int .i64 r.pid) := Blk.cell hr 0
  have c3 : w.cell? ⟨p, 3, none⟩ = some (.int .i64 r.slot) := Blk.cell hr 3
  have c4 : w.cell? ⟨p, 4, none⟩ = some (.int .u64 r.mt.txn) := Blk.cell hr 4
  have S := Lib.hid (DsS.start hr hl)
  have HC := Lib.hid hc
  clear hr hl hc
  go_enter Tryz.func22, Tryz.ntmps22
  go_upto_region 14 with fail
  go_region_law (go_simp; go_at_call 59; refine (dPublish_any l wn sl r.slot r.pid r.mt.txn _ (S.out.drew).lk).mono ?_; rintro e w2 ⟨rfl, hl2, hk2⟩; rw [HC.out]; simp only [if_true]; have S2 := Lib.hid (S.out.drew.lock hne hl2 hk2); clear hl2 hk2; have d2 : w2.cell? ⟨p, 2, none⟩ = some (.int .i64 r.phase) := Blk.cell S2.out.rd 2; have d10 : w2.cell? ⟨p, 10, none⟩ = some (.int .i64 (erN r.err)) := Blk.cell S2.out.rd 10; have f2 := Blk.frozen S2.out.rd 2; have f10 := Blk.frozen S2.out.rd 10)
  all_goals
    clear c0 c2 c3 c4 S
    go_wp2_with fail
    have S5 := Lib.hid ((S2.out.put (r' := { r with err := none }) hne 10 (.int .i64 0) rfl).put (r' := { r with phase := 4, err := none }) hne 2 (.int .i64 4) rfl)
    refine bodyPost_ret (v := .tuple #[.bool false, .int .i64 0]) (by simp [results, Tryz.results22, go_sem]) rfl ⟨rfl, S5.out.rd, S5.out.lk, S5.out.ck⟩
set_option maxRecDepth 100000 in
set_option maxHeartbeats 1600000 in
theorem dStep3n_any (p l f : Nat) (r : Sp.Rdr) (wn : Int) (sl : List Sp.Sl) (w : World) (hr : DRdAt w p r) (hl : DLockAt w l wn sl) (hne : p ≠ l) (h1 : r.phase = 3) (hc : Sp.owns sl r.slot r.pid = false) :
    Calls Tryz.prog 22 #[.pointer (some ⟨p, 0, none⟩), .pointer (some ⟨f, 0, none⟩), .pointer (some ⟨l, 0, none⟩)] w fun e w' => e = .returned (.tuple #[.bool true, .int .i64 18]) ∧ DRdAt w' p { r with phase := 0, err := some 18 } ∧ DLockAt w' l wn (Sp.publish sl r.slot r.pid r.mt.txn) ∧ Chg (fun k => k = p ∨ k = l) w w' := by
  have c2 : w.cell? ⟨p, 2, none⟩ = some (.int .i64 3) := by rw [← h1]; exact Blk.cell hr 2
  have c0 : w.cell? ⟨p, 0, none⟩ = some (.int .i64 r.pid) := Blk.cell hr 0
  have c3 : w.cell? ⟨p, 3, none⟩ = some (.int .i64 r.slot) := Blk.cell hr 3
  have c4 : w.cell? ⟨p, 4, none⟩ = some (.int .u64 r.mt.txn) := Blk.cell hr 4
  have S := Lib.hid (DsS.start hr hl)
  have HC := Lib.hid hc
  clear hr hl hc
  go_enter Tryz.func22, Tryz.ntmps22
  go_upto_region 14 with fail
  go_region_law (go_simp; go_at_call 59; refine (dPublish_any l wn sl r.slot r.pid r.mt.txn _ (S.out.drew).lk).mono ?_; rintro e w2 ⟨rfl, hl2, hk2⟩; rw [HC.out]; simp only [Bool.false_eq_true, if_false]; have S2 := Lib.hid (S.out.drew.lock hne hl2 hk2); clear hl2 hk2; have d2 : w2.cell? ⟨p, 2, none⟩ = some (.int .i64 r.phase) := Blk.cell S2.out.rd 2; have d10 : w2.cell? ⟨p, 10, none⟩ = some (.int .i64 (erN r.err)) := Blk.cell S2.out.rd 10; have f2 := Blk.frozen S2.out.rd 2; have f10 := Blk.frozen S2.out.rd 10)
  all_goals
    clear c0 c2 c3 c4 S
    go_upto_region 16 with fail
    refine wp_gen (fun W => DsS w p l wn { r with phase := 4, err := some 18 } (Sp.publish sl r.slot r.pid r.mt.txn) W) ((S2.out.put (r' := { r with err := some 18 }) hne 10 (.int .i64 18) rfl).put (r' := { r with phase := 4, err := some 18 }) hne 2 (.int .i64 4) rfl) ?_
    clear S2 d2 d10 f2 f10
    intro w6 hs8
    have S := Lib.hid hs8
    have d2 : w6.cell? ⟨p, 2, none⟩ = some (.int .i64 ({ r with phase := 4, err := some 18 } : Sp.Rdr).phase) := Blk.cell hs8.rd 2
    have f2 := Blk.frozen hs8.rd 2
    clear hs8
    dsimp only at d2
    go_upto_region 31 with fail
    refine wp_gen (fun W => DsS w p l wn { r with phase := 0, err := some 18 } (Sp.publish sl r.slot r.pid r.mt.txn) W) (S.out.put (r' := { r with phase := 0, err := some 18 }) hne 2 (.int .i64 0) rfl) ?_
    clear S d2 f2
    intro w8 hs8
    have S8 := Lib.hid hs8
    have z10 : w8.cell? ⟨p, 10, none⟩ = some (.int .i64 18) := by first | exact Blk.cell hs8.rd 10 | (rw [← hen]; exact Blk.cell hs8.rd 10)
    have hp := Blk.lt hs8.rd
    clear hs8
    refine wp_region_row (by kernel_rfl) (by kernel_rfl) ?_
    repeat (first | go_big_quiet_skip | go_big_quiet_step (fail))
    refine wpQuiet_nil ?_
    intro w9 hb9
    replace S8 := Lib.hid (S8.out.go hb9)
    clear hb9 z10
    go_wp2_with fail
    all_goals refine bodyPost_ret (v := .tuple #[.bool true, .int .i64 18]) (by simp [results, Tryz.results22, go_sem]) rfl ⟨rfl, S8.out.rd, S8.out.lk, S8.out.ck⟩
end Go.Proofs.YtmcpkhknjdiocaaGreatDoor
namespace Go.Proofs.YtmcpkhknjdiocaaGreatDoor
open Go.RowKit
attribute [local go_sem low] mk_extract
attribute [local go_sem] After.cell After.frozen mk_extract_end ByteArray.mk_append_mk
set_option maxRecDepth 100000 in
set_option maxHeartbeats 1600000 in
theorem dStep5_any (p l f : Nat) (r : Sp.Rdr) (wn : Int) (sl : List Sp.Sl) (w : World) (hr : DRdAt w p r) (hl : DLockAt w l wn sl) (hne : p ≠ l) (h1 : r.phase = 5) :
    Calls Tryz.prog 22 #[.pointer (some ⟨p, 0, none⟩), .pointer (some ⟨f, 0, none⟩), .pointer (some ⟨l, 0, none⟩)] w fun e w' => e = .returned (.tuple #[.bool true, .int .i64 (erN r.err)]) ∧ DRdAt w' p { r with slot := -1, phase := 0 } ∧ DLockAt w' l wn (Sp.freeSl sl r.slot r.pid) ∧ Chg (fun k => k = p ∨ k = l) w w' := by
  obtain ⟨en, hen⟩ : ∃ en, erN r.err = en := ⟨_, rfl⟩
  rw [hen]
  have c2 : w.cell? ⟨p, 2, none⟩ = some (.int .i64 5) := by rw [← h1]; exact Blk.cell hr 2
  have c0 : w.cell? ⟨p, 0, none⟩ = some (.int .i64 r.pid) := Blk.cell hr 0
  have c3 : w.cell? ⟨p, 3, none⟩ = some (.int .i64 r.slot) := Blk.cell hr 3
  have S := Lib.hid (DsS.start hr hl)
  clear hr hl
  go_enter Tryz.func22, Tryz.ntmps22
  go_upto_region 27 with fail
  go_region_law (go_simp; go_at_call 20; refine (dFreeSl_any l wn sl r.slot r.pid _ (S.out.drew).lk).mono ?_; rintro e w2 ⟨rfl, hl2, hk2⟩; have S2 := Lib.hid (S.out.drew.lock hne hl2 hk2); clear hl2 hk2)
  all_goals
    have d2 : w2.cell? ⟨p, 2, none⟩ = some (.int .i64 r.phase) := Blk.cell S2.out.rd 2
    have d3 : w2.cell? ⟨p, 3, none⟩ = some (.int .i64 r.slot) := Blk.cell S2.out.rd 3
    have f2 := Blk.frozen S2.out.rd 2
    have f3 := Blk.frozen S2.out.rd 3
    clear c0 c2 c3
    go_upto_region 31 with fail
    refine wp_gen (fun W => DsS w p l wn { r with slot := -1, phase := 0 } (Sp.freeSl sl r.slot r.pid) W) ((S2.out.put (r' := { r with slot := -1 }) hne 3 (.int .i64 (-1)) rfl).put hne 2 (.int .i64 0) rfl) ?_
    clear S S2 d2 d3 f2 f3
    intro w8 hs8
    have S8 := Lib.hid hs8
    have z10 : w8.cell? ⟨p, 10, none⟩ = some (.int .i64 en) := by first | exact Blk.cell hs8.rd 10 | (rw [← hen]; exact Blk.cell hs8.rd 10)
    have hp := Blk.lt hs8.rd
    clear hs8
    refine wp_region_row (by kernel_rfl) (by kernel_rfl) ?_
    repeat (first | go_big_quiet_skip | go_big_quiet_step (fail))
    refine wpQuiet_nil ?_
    intro w9 hb9
    replace S8 := Lib.hid (S8.out.go hb9)
    clear hb9 z10
    go_wp2_with fail
    all_goals refine bodyPost_ret (v := .tuple #[.bool true, .int .i64 en]) (by simp [results, Tryz.results22, go_sem]) rfl ⟨rfl, S8.out.rd, S8.out.lk, S8.out.ck⟩
end Go.Proofs.YtmcpkhknjdiocaaGreatDoor
namespace Go.Proofs.YtmcpkhknjdiocaaGreatDoor
open Go.RowKit
attribute [local go_sem low] mk_extract
attribute [local go_sem] After.cell After.frozen mk_extract_end ByteArray.mk_append_mk
namespace Sp
def slB (s : Sl) : Txt := le8 s.pid ++ le8 s.txn
def slsB (l : List Sl) : Txt := (l.map slB).flatten
def lockB (wr : Int) (l : List Sl) : Txt := le8 4242 ++ le8 1 ++ le8 wr ++ slsB l
theorem slsB_succ (l : List Sl) (k : Nat) (h : k < l.length) : slsB (l.take (k + 1)) = slsB (l.take k) ++ slB (l.getD k sl0) := by
  unfold slsB
  rw [List.take_succ_eq_append_getElem h, List.map_append, List.flatten_append]
  simp [List.getD, h]
theorem slB_len (s : Sl) : (slB s).length = 16 := by
  unfold slB
  rw [List.length_append, le8_length, le8_length]
theorem slsB_len : ∀ l : List Sl, (slsB l).length = 16 * l.length
  | [] => rfl
  | s :: l => by
    have h := slsB_len l
    unfold slsB at *
    rw [List.map_cons, List.flatten_cons, List.length_append, slB_len, h, List.length_cons]
    omega
def SlOk (s : Sl) : Prop := 0 ≤ s.pid ∧ s.pid < 4611686018427387904 ∧ 0 ≤ s.txn ∧ s.txn < 18446744073709551616
def SlsOk (l : List Sl) : Prop := ∀ s ∈ l, SlOk s
theorem sl0_ok : SlOk sl0 := by unfold SlOk sl0; decide
theorem SlsOk.at_ {l : List Sl} (h : SlsOk l) (k : Nat) : SlOk (l.getD k sl0) := by
  rcases Nat.lt_or_ge k l.length with hk | hk
  · rw [List.getD_eq_getElem?_getD, List.getElem?_eq_getElem hk]
    exact h _ (List.getElem_mem hk)
  · rw [List.getD_eq_getElem?_getD, List.getElem?_eq_none hk]
    exact sl0_ok
theorem SlsOk.set_ {l : List Sl} (h : SlsOk l) (i : Nat) {s : Sl} (hs : SlOk s) : SlsOk (l.set i s) := fun x hx => by
  rcases List.mem_or_eq_of_mem_set hx with hx | rfl
  · exact h x hx
  · exact hs
theorem SlsOk.claimed {l : List Sl} (h : SlsOk l) {pid : Int} (hp : 0 ≤ pid ∧ pid < 4611686018427387904) : SlsOk (claimed l pid) := by
  unfold Sp.claimed
  split
  · exact h.set_ _ ⟨hp.1, hp.2, by simp, by simp⟩
  · exact h
theorem SlsOk.publish {l : List Sl} (h : SlsOk l) {slot pid txn : Int} (ht : 0 ≤ txn ∧ txn < 18446744073709551616) : SlsOk (publish l slot pid txn) := by
  unfold Sp.publish
  split
  · exact h.set_ _ ⟨(h.at_ _).1, (h.at_ _).2.1, ht.1, ht.2⟩
  · exact h
theorem SlsOk.freeSl {l : List Sl} (h : SlsOk l) {slot pid : Int} : SlsOk (freeSl l slot pid) := by
  unfold Sp.freeSl
  split
  · exact h.set_ _ sl0_ok
  · exact h
theorem SlsOk.new : SlsOk (List.replicate 8 sl0) := fun s hs => by
  rw [(List.mem_replicate.1 hs).2]
  exact sl0_ok
/-- What stays true of a reader. -/
structure Rdr.Inv (r : Rdr) : Prop where
  ph : 0 ≤ r.phase ∧ r.phase ≤ 5
  er : r.phase ≠ 0 → r.phase ≠ 5 → r.err = none
  sl : r.phase = 1 → r.slot = -1
  pd : 0 ≤ r.pid ∧ r.pid < 4611686018427387904
  tx : 0 ≤ r.mt.txn ∧ r.mt.txn < 18446744073709551616
theorem later_rng {P : Mt → Prop} {o : Option Mt} {m : Mt} (ho : ∀ x, o = some x → P x) (hm : P m) : ∀ x, later o m = some x → P x := by
  intro x hx
  unfold later at hx
  split at hx
  · injection hx with hx; exact hx ▸ hm
  · split at hx
    · injection hx with hx; exact hx ▸ hm
    · injection hx with hx; exact ho x (by rw [hx])
theorem choose_rng {a b : Txt} {m : Mt} (h : choose a b = some m) : 0 ≤ m.txn ∧ m.txn < 18446744073709551616 := by
  have ha : ∀ x ∈ (right a 0).toList ++ (right b 1).toList, 0 ≤ x.txn ∧ x.txn < 18446744073709551616 := fun x hx => by
    rcases List.mem_append.1 hx with hx | hx
    · exact right_rng (Option.mem_toList.1 hx)
    · exact right_rng (Option.mem_toList.1 hx)
  unfold choose at h
  generalize (right a 0).toList ++ (right b 1).toList = l at *
  have : ∀ (l : List Mt) (o : Option Mt), (∀ x ∈ l, 0 ≤ x.txn ∧ x.txn < 18446744073709551616) → (∀ x, o = some x → 0 ≤ x.txn ∧ x.txn < 18446744073709551616) → ∀ x, l.foldl later o = some x → 0 ≤ x.txn ∧ x.txn < 18446744073709551616 := by
    intro l
    induction l with
    | nil => intro o _ ho x hx; exact ho x hx
    | cons y l ih => intro o hl ho x hx; exact ih _ (fun z hz => hl z (List.mem_cons_of_mem _ hz)) (later_rng ho (hl y List.mem_cons_self)) x hx
  exact this l none ha (by simp) m h
theorem see_rng (most : Int) (a b : Txt) : 0 ≤ (see most a b).1.txn ∧ (see most a b).1.txn < 18446744073709551616 := by
  unfold see
  split
  · decide
  · exact choose_rng (by assumption)
theorem Rdr.Inv.looks {r : Rdr} (h : r.Inv) (h2 : r.phase = 2 ∨ r.phase = 4) (a b : Txt) : (r.looks a b).Inv := by
  have hr := see_rng r.most a b
  unfold Rdr.looks
  split
  · exact ⟨by simp, fun _ h => absurd rfl h, fun h => absurd h (by simp), h.pd, h.tx⟩
  · split
    · exact ⟨by simp, fun h => absurd rfl h, fun h => absurd h (by simp), h.pd, h.tx⟩
    · exact ⟨by simp, fun _ _ => h.er (by omega) (by omega), fun h => absurd h (by simp), h.pd, hr⟩
theorem Rdr.Inv.goes {r : Rdr} (h : r.Inv) (a b : Txt) {l : List Sl} (hl : SlsOk l) : (r.goes a b l).1.Inv ∧ SlsOk (r.goes a b l).2 := by
  unfold Rdr.goes
  split
  · refine ⟨?_, hl.claimed h.pd⟩
    dsimp only
    split
    · exact ⟨by simp, fun _ _ => h.er (by omega) (by omega), fun h => absurd h (by simp), h.pd, h.tx⟩
    · exact ⟨by simp, fun h => absurd rfl h, fun h => absurd h (by simp), h.pd, h.tx⟩
  · split
    · exact ⟨h.looks (by assumption) a b, hl⟩
    · split
      · refine ⟨?_, hl.publish h.tx⟩
        dsimp only
        split
        · exact ⟨by simp, fun _ _ => h.er (by omega) (by omega), fun h => absurd h (by simp), h.pd, h.tx⟩
        · exact ⟨by simp, fun h => absurd rfl h, fun h => absurd h (by simp), h.pd, h.tx⟩
      · split
        · exact ⟨⟨by simp, fun h => absurd rfl h, fun h => absurd h (by simp), h.pd, h.tx⟩, hl.freeSl⟩
        · exact ⟨h, hl⟩
theorem Rdr.Inv.step {r : Rdr} (h : r.Inv) (a b : Txt) {l : List Sl} (hl : SlsOk l) : (r.step a b l).2.1.Inv ∧ SlsOk (r.step a b l).2.2 := by
  unfold Rdr.step
  split
  · exact ⟨h, hl⟩
  · split
    · exact h.goes a b hl
    · exact h.goes a b hl
end Sp
end Go.Proofs.YtmcpkhknjdiocaaGreatDoor
namespace Go.Proofs.YtmcpkhknjdiocaaGreatDoor
open Go.RowKit
attribute [local go_sem low] mk_extract
attribute [local go_sem] After.cell After.frozen mk_extract_end ByteArray.mk_append_mk
attribute [local go_sem] Sp.le8_length
theorem lockB_start (wr : Int) : (Sp.le8 4242 ++ Sp.le8 1 ++ Sp.le8 wr).length = 24 := by
  rw [List.length_append, List.length_append, Sp.le8_length, Sp.le8_length, Sp.le8_length]
set_option maxRecDepth 100000 in
set_option maxHeartbeats 3200000 in
theorem lkBytes_any (l : Nat) (wn : Int) (sl : List Sp.Sl) (w : World) (hl : LockAt w l wn sl) (hw : 0 ≤ wn ∧ wn < 4611686018427387904) (hs : Sp.SlsOk sl) :
    Calls Tryz.prog 27 #[.pointer (some ⟨l, 0, none⟩)] w fun e w' => e = .returned (.string ⟨(Sp.lockB wn sl).toArray⟩) ∧ Below w.heap.size w w' := by
  have hlw := hl.bl.lt
  have hll := hl.len
  have c0 : w.cell? ⟨l, 0, none⟩ = some (.int .i64 wn) := by
    refine (hl.bl.cell 0).trans ?_
    rw [List.getElem?_toArray, lkV]; rfl
  have hcl : ∀ W, Below w.heap.size w W → ∀ j v, (sl.flatMap slV).toArray[j]? = some v → W.cell? ⟨l, 1 + j, none⟩ = some v := fun W hb j v hv => by
    refine ((hl.go hb).bl.cell (1 + j)).trans ?_
    rw [List.getElem?_toArray, lkV, Nat.add_comm 1, List.getElem?_cons_succ, ← List.getElem?_toArray]
    exact hv
  have HCL := Lib.hid hcl
  have hsz16 : (sl.flatMap slV).toArray.size = 16 := by rw [List.size_toArray, slV_len, hll]
  have HSZ := Lib.hid hsz16
  have HIX := Lib.hid (fun k hk W => idx8 sl hll k hk W)
  have HOK := Lib.hid (fun k => hs.at_ k)
  have HLL := Lib.hid hll
  have HLS := Lib.hid (lockB_start wn)
  clear hl hcl hll hsz16 hs
  go_enter Tryz.func27, Tryz.ntmps27
  go_upto_region 1 with fail
  refine wp_region_after (by kernel_rfl) (by kernel_rfl) (w.heap.size) ?_
  repeat (go_big_quiet_step ((go_at_call 61; exact after_call (Nat.le_refl _) (packNum_any _ (by omega) (by omega) _))))
  refine wpQuiet_nil ?_
  intro w1 hb1
  have HC1 := Lib.hid (HCL.out w1 hb1)
  clear c0 HCL
  have hz1 := hb1.size
  have hl1 : l < w1.heap.size := by omega
  go_upto_region 3 with (refine wpList_at 36 _ rfl l 1 rfl rfl (sl.flatMap slV).toArray _ HC1.out Tryz.underlying36 rfl (by rw [HSZ.out]; kernel_rfl) ?_)
  clear HC1 HSZ
  go_loopw [3, 20] (fun o i wr => ∃ k : Nat, k ≤ 8 ∧ i = .int .i64 k ∧ o = .string ⟨(Sp.le8 4242 ++ Sp.le8 1 ++ Sp.le8 wn ++ Sp.slsB (sl.take k)).toArray⟩ ∧ Below w.heap.size w wr) (fun _ i _ => 8 - (intOf i).toNat)
  case atStart => exact ⟨0, by omega, rfl, by simp [Sp.slsB], hb1⟩
  case round =>
    obtain ⟨k, hk, rfl, rfl, hb⟩ := hrel
    have HB := Lib.hid hb
    have hz := hb.size
    clear hb hb1
    by_cases hk8 : k < 8
    · have hix := HIX.out k hk8
      have HT := Lib.hid (Sp.slsB_succ sl k (by rw [HLL.out]; exact hk8))
      have htl : (Sp.slsB (sl.take k)).length ≤ 128 := by
        rw [Sp.slsB_len, List.length_take]; omega
      obtain ⟨q0, q1, q2, q3⟩ := HOK.out k
      have HG := Lib.hid HLS.out
      generalize Sp.le8 4242 ++ Sp.le8 1 ++ Sp.le8 wn = hd at *
      have hhl : hd.length = 24 := HG.out
      generalize sl.getD k Sp.sl0 = x at *
      obtain ⟨xp, xt⟩ := x
      dsimp only at hix q0 q1 q2 q3
      have HX := Lib.hid (show Sp.slB ⟨xp, xt⟩ = Sp.le8 xp ++ Sp.le8 xt from rfl)
      generalize Sp.slsB (sl.take k) = t at *
      have h8 : (k : Int) < 8 := by omega
      go_upto_region 5 with fail
      have d0 : (wr.alloc (.cells #[.int .i64 xp, .int .u64 xt] SlotT)).cell? ⟨wr.heap.size, 0, none⟩ = some (.int .i64 xp) := (Blk.new wr SlotT #[.int .i64 xp, .int .u64 xt]).cell 0
      have d1 : (wr.alloc (.cells #[.int .i64 xp, .int .u64 xt] SlotT)).cell? ⟨wr.heap.size, 1, none⟩ = some (.int .u64 xt) := (Blk.new wr SlotT #[.int .i64 xp, .int .u64 xt]).cell 1
      have HBA := Lib.hid (HB.out.alloc hz (.cells #[.int .i64 xp, .int .u64 xt] SlotT))
      have hsa : (wr.alloc (.cells #[.int .i64 xp, .int .u64 xt] SlotT)).heap.size = wr.heap.size + 1 := by simp
      clear hix
      generalize wr.alloc (.cells #[.int .i64 xp, .int .u64 xt] SlotT) = W at *
      refine wp_region_after (by kernel_rfl) (by kernel_rfl) (W.heap.size) ?_
      repeat (go_big_quiet_step ((go_at_call 61; exact after_call (Nat.le_refl _) (packNum_any _ (by omega) (by omega) _))))
      refine wpQuiet_nil ?_
      intro w5 hb5
      go_wp2_with fail
      go_roundw
      case rel => exact ⟨k + 1, by omega, by go_num, by rw [HT.out, HX.out] <;> simp, HBA.out.trans (hb5.mono (by omega))⟩
      case measure => simp [intOf]; omega
    · obtain rfl : k = 8 := by omega
      have HT := Lib.hid (show Sp.lockB wn sl = Sp.le8 4242 ++ Sp.le8 1 ++ Sp.le8 wn ++ Sp.slsB (sl.take 8) by rw [List.take_of_length_le (by rw [HLL.out]; exact Nat.le_refl _)]; rfl)
      go_wp2_with fail
      go_ret
      rw [HT.out]
      exact ⟨rfl, HB.out⟩
set_option maxRecDepth 100000 in
set_option maxHeartbeats 3200000 in
theorem dLkBytes_any (l : Nat) (wn : Int) (sl : List Sp.Sl) (w : World) (hl : DLockAt w l wn sl) (hw : 0 ≤ wn ∧ wn < 4611686018427387904) (hs : Sp.SlsOk sl) :
    Calls Tryz.prog 28 #[.pointer (some ⟨l, 0, none⟩)] w fun e w' => e = .returned (.string ⟨(Sp.lockB wn sl).toArray⟩) ∧ Below w.heap.size w w' := by
  have hlw := hl.bl.lt
  have hll := hl.len
  have c0 : w.cell? ⟨l, 0, none⟩ = some (.int .i64 wn) := by
    refine (hl.bl.cell 0).trans ?_
    rw [List.getElem?_toArray, lkV]; rfl
  have HL := Lib.hid hl
  have HOK := Lib.hid (fun k => hs.at_ k)
  have HLL := Lib.hid hll
  have HLS := Lib.hid (lockB_start wn)
  clear hl hll hs
  go_enter Tryz.func28, Tryz.ntmps28
  go_upto_region 1 with fail
  refine wp_region_after (by kernel_rfl) (by kernel_rfl) (w.heap.size) ?_
  repeat (go_big_quiet_step (first | (go_at_call 62; exact after_call (Nat.le_refl _) (dNum_any _ (by omega) (by omega) _)) | (go_at_call 63; exact after_call (Nat.le_refl _) (dnum_any _ (by omega) (by omega) _))))
  refine wpQuiet_nil ?_
  intro w1 hb1
  clear c0
  go_upto_region 3 with fail
  go_loopw [3, 4] (fun o i wr => ∃ k : Nat, k ≤ 8 ∧ i = .int .i64 k ∧ o = .string ⟨(Sp.le8 4242 ++ Sp.le8 1 ++ Sp.le8 wn ++ Sp.slsB (sl.take k)).toArray⟩ ∧ Below w.heap.size w wr) (fun _ i _ => 8 - (intOf i).toNat)
  case atStart => exact ⟨0, by omega, rfl, by simp [Sp.slsB], hb1⟩
  case round =>
    obtain ⟨k, hk, rfl, rfl, hb⟩ := hrel
    have HB := Lib.hid hb
    have hz := hb.size
    by_cases hk8 : k < 8
    · have HT := Lib.hid (Sp.slsB_succ sl k (by rw [HLL.out]; exact hk8))
      have htl : (Sp.slsB (sl.take k)).length ≤ 128 := by
        rw [Sp.slsB_len, List.length_take]; omega
      obtain ⟨q0, q1, q2, q3⟩ := HOK.out k
      have d0 := (HL.out.go hb).pid hk8
      have d1 := (HL.out.go hb).txn hk8
      have HG := Lib.hid HLS.out
      clear hb hb1
      generalize Sp.le8 4242 ++ Sp.le8 1 ++ Sp.le8 wn = hd at *
      have hhl : hd.length = 24 := HG.out
      generalize sl.getD k Sp.sl0 = x at *
      obtain ⟨xp, xt⟩ := x
      dsimp only at d0 d1 q0 q1 q2 q3
      have HX := Lib.hid (show Sp.slB ⟨xp, xt⟩ = Sp.le8 xp ++ Sp.le8 xt from rfl)
      generalize Sp.slsB (sl.take k) = t at *
      have h8 : (k : Int) < 8 := by omega
      have hlr : l < wr.heap.size := by omega
      go_upto_region 5 with fail
      refine wp_region_after (by kernel_rfl) (by kernel_rfl) (wr.heap.size) ?_
      repeat (go_big_quiet_step (first | (go_at_call 62; exact after_call (Nat.le_refl _) (dNum_any _ (by omega) (by omega) _)) | (go_at_call 63; exact after_call (Nat.le_refl _) (dnum_any _ (by omega) (by omega) _))))
      refine wpQuiet_nil ?_
      intro w5 hb5
      go_wp2_with fail
      go_roundw
      case rel => exact ⟨k + 1, by omega, by go_num, by rw [HT.out, HX.out] <;> simp, HB.out.trans (hb5.mono (by omega))⟩
      case measure => simp [intOf]; omega
    · obtain rfl : k = 8 := by omega
      have HT := Lib.hid (show Sp.lockB wn sl = Sp.le8 4242 ++ Sp.le8 1 ++ Sp.le8 wn ++ Sp.slsB (sl.take 8) by rw [List.take_of_length_le (by rw [HLL.out]; exact Nat.le_refl _)]; rfl)
      go_wp2_with fail
      go_ret
      rw [HT.out]
      exact ⟨rfl, HB.out⟩
end Go.Proofs.YtmcpkhknjdiocaaGreatDoor
