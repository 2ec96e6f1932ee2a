/- MetaTells: of every meta its bytes and its place, of every two texts which counts: the walk. MetaTells: whatever the input: true; the input reads as it did. -/
import Derived.Test.YtienlhckcpfknaaQMTells00
import Derived.SizedLaws
set_option linter.unusedSimpArgs false
set_option linter.unusedVariables false
namespace Go.Proofs.Ytienlhckcpfknaa
open Go.RowKit
attribute [local go_sem low] mk_extract
attribute [local go_sem] After.cell After.frozen mk_extract_end ByteArray.mk_append_mk
attribute [local go_sem] beq_self_eq_true eq_self decide_true
def errW (b : Bool) : Value := if b then .nilIface else .iface ErrT (.int .i64 12)
def errM (b : Bool) : Value := if b then .int .i64 0 else .int .i64 12
theorem chooseV_eq (o : Option Sp.Mt) : chooseV o = .tuple #[.agg (mtV (o.getD Sp.mt0)).toArray, errW o.isSome] := by
  cases o <;> rfl
theorem dchooseV_eq (o : Option Sp.Mt) : dchooseV o = .tuple #[.agg (mtV (o.getD Sp.mt0)).toArray, errM o.isSome] := by
  cases o <;> rfl
/-- The meta, and the one that counts, twice. -/
structure MxS (W0 : World) (m : Sp.Mt) (w : World) : Prop where
  hb : Below W0.heap.size W0 w
  bm : Blk w W0.heap.size MetaT (mtV m).toArray
theorem MxS.go {W0 : World} {m : Sp.Mt} {w w' : World} (k : MxS W0 m w) (hb : Below w.heap.size w w') : MxS W0 m w' :=
  ⟨k.hb.trans (hb.mono k.hb.size), k.bm.below hb k.bm.lt⟩
theorem MxS.start (m : Sp.Mt) (w : World) : MxS w m (w.alloc (.cells (mtV m).toArray MetaT)) :=
  ⟨(Below.refl _ _).alloc (Nat.le_refl _) _, Blk.new w _ _⟩
set_option maxRecDepth 100000 in
set_option maxHeartbeats 6400000 in
theorem mtells_walk (m : Sp.Mt) (i : Int) (a b : Txt) (hm : 0 ≤ m.txn ∧ m.txn < 18446744073709551616) (ha : a.length ≤ 4611686018427387904) (hb : b.length ≤ 4611686018427387904) (w : World) :
    Calls Try.prog 9 #[.agg (mtV m).toArray, .int .i64 i, .string ⟨a.toArray⟩, .string ⟨b.toArray⟩] w fun e w' => e = .returned (.bool true) ∧ Below w.heap.size w w' := by
  have S := Lib.hid (MxS.start m w)
  have HM := Lib.hid hm
  have HL := Lib.hid (And.intro ha hb)
  clear hm ha hb
  simp only [mtV] at *
  go_enter Try.func9, Try.ntmps9
  go_upto_region 3 with (go_at_call 25; refine (known3_any _).mono ?_; rintro e w1 ⟨rfl, hb1⟩; replace S := Lib.hid (S.out.go hb1); clear hb1)
  go_cut [22] (fun s22 W => ∃ c, s22 = .bool c ∧ MxS w m W)
  case first =>
    rcases h1 : decide ((1000 : Int) < (a.length : Int)) with _ | _
    · go_wp2_with fail
      go_meet
      case rel => exact ⟨_, rfl, S.out⟩
    · go_wp2_with fail
      go_meet
      case rel => exact ⟨_, rfl, S.out⟩
  case rest =>
    obtain ⟨c, rfl, hs⟩ := hcut
    replace S := Lib.hid hs
    clear hs
    obtain ⟨W1, rfl⟩ : ∃ W, W = wc := ⟨_, rfl⟩
    rcases c with _ | _
    · go_upto_region 5 with fail
      go_cut [9, 10] (fun s9 s10 W => ∃ k, s9 = .pointer (some ⟨k, 0, none⟩) ∧ s10 = errW (Sp.choose a b).isSome ∧ MxS w m W ∧ Blk W k MetaT (mtV ((Sp.choose a b).getD Sp.mt0)).toArray)
      case first =>
        go_wp2_with (first
          | (go_at_call 26; refine (choose_any a b _ HL.out.1 HL.out.2).mono ?_; rintro e w7 ⟨rfl, hb2⟩; rw [chooseV_eq]; replace S := Lib.hid (S.out.go hb2); clear hb2)
          | (refine wpList_new MetaT _ _ rfl rfl rfl rfl rfl rfl _ rfl (of_decide_eq_true (by kernel_rfl)) (by kernel_rfl) (by kernel_rfl) (by kernel_rfl) ?_))
        go_meet
        case rel => exact ⟨_, rfl, rfl, S.out.go ((Below.refl _ _).alloc (Nat.le_refl _) _), Blk.new _ _ _⟩
      case rest =>
        obtain ⟨k, rfl, rfl, hs, hbx⟩ := hcut
        replace S := Lib.hid hs
        have BX := Lib.hid hbx
        clear hs hbx
        obtain ⟨W2, rfl⟩ : ∃ W, W = wc := ⟨_, rfl⟩
        go_upto_region 6 with fail
        go_cut [11, 12] (fun s11 s12 W => ∃ l, s11 = .pointer (some ⟨l, 0, none⟩) ∧ s12 = errM (Sp.choose a b).isSome ∧ MxS w m W ∧ Blk W k MetaT (mtV ((Sp.choose a b).getD Sp.mt0)).toArray ∧ Blk W l MetaT (mtV ((Sp.choose a b).getD Sp.mt0)).toArray)
        case first =>
          go_wp2_with (first
            | (go_at_call 27; refine (dChoose_any a b _ HL.out.1 HL.out.2).mono ?_; rintro e w7 ⟨rfl, hb2⟩; rw [dchooseV_eq]; replace S := Lib.hid (S.out.go hb2); replace BX := Lib.hid (BX.out.below hb2 BX.out.lt); clear hb2)
            | (refine wpList_new MetaT _ _ rfl rfl rfl rfl rfl rfl _ rfl (of_decide_eq_true (by kernel_rfl)) (by kernel_rfl) (by kernel_rfl) (by kernel_rfl) ?_))
          go_meet
          case rel => exact ⟨_, rfl, rfl, S.out.go ((Below.refl _ _).alloc (Nat.le_refl _) _), BX.out.alloc _, Blk.new _ _ _⟩
        case rest =>
          obtain ⟨l, rfl, rfl, hs, hbx, hbl⟩ := hcut
          replace S := Lib.hid hs
          replace BX := Lib.hid hbx
          have BL := Lib.hid hbl
          clear hs hbx hbl
          obtain ⟨W3, rfl⟩ : ∃ W, W = wc := ⟨_, rfl⟩
          rcases (Sp.choose a b).isSome with _ | _
          all_goals
            simp only [errW, errM, if_true, if_false, Bool.false_eq_true]
            go_upto_region 7 with fail
            go_cut [8] (fun s8 W => s8 = .bool true ∧ Below w.heap.size w W)
            case first =>
              have C2 := Lib.hid (fun (w' : World) => show Calls Try.prog 22 #[.iface ErrT (.int .i64 12), .iface ErrT (.int .i64 12)] w' (fun e w2 => e = .returned (.bool true) ∧ Below w'.heap.size w' w2) from (errIs_same 12 w').mono (by rintro e w2 ⟨rfl, rfl⟩; exact ⟨rfl, Below.refl _ _⟩))
              have D1 := Lib.hid (fun (w' : World) => metaBytes_any m w' HM.out)
              have D2 := Lib.hid (fun (w' : World) => dMetaBytes_any m w' HM.out)
              have D3 := Lib.hid (fun (w' : World) => show Calls Try.prog 30 #[.int .u64 m.txn] w' (fun e w2 => e = .returned (.int .i64 (m.txn % 2)) ∧ Below w'.heap.size w' w2) from (place_any m.txn HM.out.1 HM.out.2 w').mono (by rintro e w2 ⟨rfl, rfl⟩; exact ⟨rfl, Below.refl _ _⟩))
              have D4 := Lib.hid (fun (w' : World) => show Calls Try.prog 31 #[.int .u64 m.txn] w' (fun e w2 => e = .returned (.int .i64 (m.txn % 2)) ∧ Below w'.heap.size w' w2) from (dPlace_any m.txn HM.out.1 HM.out.2 w').mono (by rintro e w2 ⟨rfl, rfl⟩; exact ⟨rfl, Below.refl _ _⟩))
              have D5 := Lib.hid (fun (w' : World) => fresh_any i w')
              have D6 := Lib.hid (fun (w' : World) => dFresh_any i w')
              have c0 := S.out.bm.cell 0
              replace c0 := c0.trans (show _ = some (Value.int .u64 m.txn) from rfl)
              have hszm := S.out.bm.lt
              generalize Sp.metaB m = u1 at *
              generalize m.txn % 2 = u2 at *
              generalize Sp.fresh i = u3 at *
              generalize (Sp.choose a b).getD Sp.mt0 = z at *
              have hq := fun W => (eqMt u3 u3 W).trans (by rw [decide_eq_true rfl])
              have hz := fun W => (eqMt z z W).trans (by rw [decide_eq_true rfl])
              refine wp_region_row (by kernel_rfl) (by kernel_rfl) ?_
              repeat (first | go_big_quiet_skip | (refine wpQuiet_row MetaT _ rfl k rfl rfl MetaT _ (0, 0) _ (blk_after BX.out) Try.underlying30 rfl rfl ?_; simp only [Act.put, List.setIfInBounds_toArray, List.set_cons_succ, List.set_cons_zero]) | (refine wpQuiet_row MetaT _ rfl l rfl rfl MetaT _ (0, 0) _ (blk_after BL.out) Try.underlying30 rfl rfl ?_; simp only [Act.put, List.setIfInBounds_toArray, List.set_cons_succ, List.set_cons_zero]) | (refine wpQuiet_row MetaT _ rfl w.heap.size rfl rfl MetaT _ (0, 0) _ (blk_after S.out.bm) Try.underlying30 rfl rfl ?_; simp only [Act.put, List.setIfInBounds_toArray, List.set_cons_succ, List.set_cons_zero]) | (go_big_quiet_step (first | (go_at_call 22; exact after_call (Nat.le_refl _) (C2.out _)) | (go_at_call 28; exact after_call (Nat.le_refl _) (D1.out _)) | (go_at_call 29; exact after_call (Nat.le_refl _) (D2.out _)) | (go_at_call 30; exact after_call (Nat.le_refl _) (D3.out _)) | (go_at_call 31; exact after_call (Nat.le_refl _) (D4.out _)) | (go_at_call 32; exact after_call (Nat.le_refl _) (D5.out _)) | (go_at_call 33; exact after_call (Nat.le_refl _) (D6.out _)))))
              refine wpQuiet_nil ?_
              intro w2 hb2
              go_wp2_with fail
              go_meet
              case rel => exact ⟨rfl, S.out.hb.trans (hb2.mono S.out.hb.size)⟩
            case rest =>
              obtain ⟨rfl, hb⟩ := hcut
              obtain ⟨w2, rfl⟩ : ∃ W, W = wc := ⟨_, rfl⟩
              have HB := Lib.hid hb
              clear hb S BX BL
              go_wp2_with fail
              go_ret
              exact ⟨rfl, HB.out⟩
    · go_wp2_with fail
      go_ret
      exact ⟨rfl, S.out.hb⟩
end Go.Proofs.Ytienlhckcpfknaa
namespace Go.Proofs.Ytienlhckcpfknaa.metaTells
open Go.ChangeShapes Go.WideShapes Go.ChangeAt Go.RowKit
set_option maxRecDepth 100000 in
theorem lifted (os : Os) (started : os.Started) (H : Type) (enc : TypeId × Value → H) :
    ReturnsInHanded {} Try.checked os 9 .any (Rows.metaTellsSpec.pre6 enc Try.prog Try.f9 Rows.metaTellsRow.domain false) (Rows.metaTellsSpec.post enc Try.prog Try.f9 false true false false) := by
  refine returnsInHanded_of_change_sized (C := Try.checked) ownKn started (by kernel_rfl) Try.func9
    (ChangeSpec.witness6 (enc := enc) (C := Try.checked) false ⟨#[], #[.agg #[.int .u64 0, .int .i64 0, .int .i64 0, .int .i64 0, .int .i64 0, .int .i64 0], .int .i64 0, .string ⟨#[]⟩, .string ⟨#[]⟩], []⟩ 8 (by kernel_rfl) (by kernel_rfl) (by kernel_rfl) (by kernel_rfl)) ?_
  intro W base args ds gs before hval0 hW hcnd hsz0 _
  have hval : ∀ (j : Nat) t v, Try.f9.params[j]? = some t → args[j]? = some v → Value.okWide Try.prog W .any base t v := hval0
  have hW' := hW
  obtain ⟨p, q, hA0, hV, rfl, hfz, hnd⟩ := hW
  have hA : DataW.TrodAll enc Try.prog W 0 (fun _ => true) true Try.f9.params.toList args.toList ds p := hA0
  have hsz : (DataW.weightsEach Try.prog (Try.f9.params.toList ++ Rows.metaTellsSpec.plain.varTypes Try.prog) (ds ++ gs)).all (· ≤ reachBytes) = true := hsz0
  rw [Try.params9] at hA hval hsz
  obtain ⟨v0, vs0, d0, ds0, p0, q0, hargs, rfl, rfl, h0, rr0⟩ := trodAll_cons hA
  obtain ⟨v1, vs1, d1, ds1, p1, q1, rfl, rfl, rfl, h1, rr1⟩ := trodAll_cons rr0
  obtain ⟨v2, vs2, d2, ds2, p2, q2, rfl, rfl, rfl, h2, rr2⟩ := trodAll_cons rr1
  obtain ⟨v3, vs3, d3, ds3, p3, q3, rfl, rfl, rfl, h3, rr3⟩ := trodAll_cons rr2
  obtain ⟨rfl, rfl, rfl⟩ := trodAll_nil rr3
  obtain rfl : args = #[v0, v1, v2, v3] := by cases args; simp_all
  obtain ⟨rfl, rfl⟩ := trodVars_none hV
  have k0 := h0
  obtain ⟨a0, hv0, b0⟩ := open_meta (hval 0 30 v0 rfl rfl) h0
  obtain ⟨a1, rfl, rfl, rfl, w1⟩ := open_int Try.underlying3 (hval 1 3 v1 rfl rfl) h1
  have k2 := h2
  obtain ⟨a2, hv2, b2⟩ := open_txts (hval 2 9 v2 rfl rfl) h2 (fun n hn => by have h := List.all_eq_true.1 hsz n (DataW.weights_mem_each (j := 2) (t := 9) rfl rfl n hn); simpa using h)
  have k3 := h3
  obtain ⟨a3, hv3, b3⟩ := open_txts (hval 3 9 v3 rfl rfl) h3 (fun n hn => by have h := List.all_eq_true.1 hsz n (DataW.weights_mem_each (j := 3) (t := 9) rfl rfl n hn); simpa using h)
  clear hA0 hval0
  simp only [List.append_nil] at hW'
  rw [hv0, hv2, hv3]
  refine (mtells_walk a0 a1 a2 a3 b0 (by omega) (by omega) W).mono fun e W' ⟨he, hg⟩ => ?_
  subst he
  rw [← hv0, ← hv2, ← hv3]
  exact ⟨_, rfl, post_of_below (pa := (p0 ++ ([] ++ (p2 ++ (p3 ++ []))))) (pv := []) hW' (fun _ _ _ => (trodAll_cons_mk (shut_bool Try.underlying4 _) trodAll_mk0)) (fun sp hsp => (trodAll_cons_mk (WideElems.Trod_stays laidKn (by kernel_rfl) (of_decide_eq_true (by kernel_rfl)) k0 (fun x hx => hg.same (hW'.lt x (by simp [hx]))) (fun x hx => hsp x (by simp [hx]))) (trodAll_cons_mk (shut_int Try.underlying3 w1) (trodAll_cons_mk (WideElems.Trod_stays laidKn (by kernel_rfl) (of_decide_eq_true (by kernel_rfl)) k2 (fun x hx => hg.same (hW'.lt x (by simp [hx]))) (fun x hx => hsp x (by simp [hx]))) (trodAll_cons_mk (WideElems.Trod_stays laidKn (by kernel_rfl) (of_decide_eq_true (by kernel_rfl)) k3 (fun x hx => hg.same (hW'.lt x (by simp [hx]))) (fun x hx => hsp x (by simp [hx]))) trodAll_mk0))))) (fun _ _ => rfl) (by simp)
    hg (ok_one (by kernel_rfl) rfl (okWide_bool_mk Try.underlying4 _))⟩
theorem over : Rows.metaTellsRow.holds Try.pinned (OpenSpec.ofChange Rows.metaTellsSpec) :=
  OpenClaim.holds_of_wide 9 Try.f9 rfl rfl rfl rfl rfl rfl rfl ⟨rfl, rfl, rfl, rfl, rfl⟩ rfl rfl rfl rfl rfl (by kernel_rfl) Try.func9 (by kernel_rfl)
    (of_decide_eq_true (by kernel_rfl)) (by unfold Func.isWrapper; first | (rw [if_pos (by decide +kernel)]; kernel_rfl) | (rw [if_neg (by decide +kernel)]; exact ⟨rfl, rfl⟩))
    (fun os started H enc _ => lifted os started H enc)
theorem proved : Rows.MetaTellsSaid :=
  over
#print axioms proved
end Go.Proofs.Ytienlhckcpfknaa.metaTells
