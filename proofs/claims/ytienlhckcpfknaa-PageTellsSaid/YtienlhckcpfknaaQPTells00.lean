/- PageTells: of every two pages and of every bytes the program answers as the document's reader does: the walk. PageTells: whatever the input: true; the input reads as it did. -/
import Derived.Test.YtienlhckcpfknaaQB17
import Derived.SizedLaws
set_option linter.unusedSimpArgs false
set_option linter.unusedVariables false
namespace Go.Proofs.Ytienlhckcpfknaa
open Go.RowKit
attribute [local go_sem low] mk_extract
attribute [local go_sem] After.cell After.frozen mk_extract_end ByteArray.mk_append_mk
attribute [local go_sem] beq_self_eq_true eq_self decide_true
def errT (b : Bool) : Value := if b then .nilIface else .iface ErrT (.int .i64 12)
def errU (b : Bool) : Value := if b then .int .i64 0 else .int .i64 12
theorem readV_eq (t : Txt) (r : Refs) : readV t r = .tuple #[.agg (pageV (readPg t) r).toArray, errT (Sp.readOk t)] := by
  unfold readV readPg errT
  rcases Sp.readOk t with _ | _ <;> rfl
theorem dRead_eq (t : Txt) (w : World) (ht : t.length ≤ 4611686018427387904) : Calls Try.prog 15 #[.string ⟨t.toArray⟩] w fun e w' => ∃ r, e = .returned (.tuple #[.agg (pageV (readPg t) r).toArray, errU (Sp.readOk t)]) ∧ PageRd w' NoM (readPg t) r ∧ Below w.heap.size w w' := by
  refine (dRead_any t w ht).mono ?_
  rintro e w' ⟨r, he, hr, hb⟩
  refine ⟨r, he.trans ?_, hr NoM (fun _ _ h => h), hb⟩
  unfold readPg errU
  rcases Sp.readOk t with _ | _ <;> rfl
/-- The two pages, and the page that was read, twice. -/
structure PtS (W0 : World) (M N : Nat → Prop) (p q z : Sp.Page) (r s x y : Refs) (g h k l : Nat) (w : World) : Prop where
  s : BkS W0 M N p q r s g h w
  bx : Blk w k PageT (pageV z x).toArray
  rx : PageRd w NoM z x
  bl : Blk w l PageT (pageV z y).toArray
  rl : PageRd w NoM z y
set_option maxRecDepth 100000 in
set_option maxHeartbeats 1600000 in
theorem tells_any (p q : Sp.Page) (r s : Refs) {M N : Nat → Prop} (w : World) (hp : PageRd w M p r) (hq : PageRd w N q s) (t : Txt) (ht : t.length ≤ 4611686018427387904) :
    Calls Try.prog 3 #[.agg (pageV p r).toArray, .agg (pageV q s).toArray, .string ⟨t.toArray⟩] w fun e w' => e = .returned (.bool true) ∧ Below w.heap.size w w' := by
  have S := Lib.hid (BkS.start hp hq)
  have HT := Lib.hid ht
  clear hp hq ht
  simp only [pageV] at *
  go_enter Try.func3, Try.ntmps3
  go_upto_region 3 with (go_at_call 13; refine (known_any _).mono ?_; rintro e w1 ⟨rfl, hb1⟩; replace S := Lib.hid (S.out.go hb1); clear hb1)
  go_cut [45] (fun s45 W => ∃ b, s45 = .bool b ∧ BkS w M N p q r s w.heap.size (w.heap.size + 1) W)
  case first =>
    have q1 := (S.out.bp.cell 1).trans (show _ = some (Value.slice r.I p.items.length r.i) from rfl)
    have q3 := (S.out.bp.cell 3).trans (show _ = some (Value.slice r.D p.kids.length r.d) from rfl)
    have q4 := (S.out.bp.cell 4).trans (show _ = some (Value.string ⟨p.text.toArray⟩) from rfl)
    have q5 := (S.out.bp.cell 5).trans (show _ = some (Value.slice r.V p.vals.length r.v) from rfl)
    have q6 := (S.out.bp.cell 6).trans (show _ = some (Value.slice r.F p.free.length r.f) from rfl)
    rcases h1 : decide ((2000 : Int) < (t.length : Int)) with _ | _
    · rcases h2 : decide ((20 : Int) < (p.items.length : Int)) with _ | _
      · rcases h3 : decide ((20 : Int) < (p.kids.length : Int)) with _ | _
        · rcases h4 : decide ((40 : Int) < (p.vals.length : Int)) with _ | _
          · rcases h5 : decide ((40 : Int) < (p.free.length : Int)) with _ | _
            · go_wp2_with fail
              go_meet
              case rel => exact ⟨_, rfl, S.out⟩
            · go_wp2_with fail
              go_meet
              case rel => exact ⟨_, rfl, S.out⟩
          · go_wp2_with fail
            go_meet
            case rel => exact ⟨_, rfl, S.out⟩
        · go_wp2_with fail
          go_meet
          case rel => exact ⟨_, rfl, S.out⟩
      · go_wp2_with fail
        go_meet
        case rel => exact ⟨_, rfl, S.out⟩
    · go_wp2_with fail
      go_meet
      case rel => exact ⟨_, rfl, S.out⟩
  case rest =>
    obtain ⟨b, rfl, hm⟩ := hcut
    replace S := Lib.hid hm
    clear hm
    obtain ⟨W1, rfl⟩ : ∃ W, W = wc := ⟨_, rfl⟩
    rcases b with _ | _
    · go_upto_region 5 with fail
      go_cut [7, 8] (fun s7 s8 W => ∃ k x, s7 = .pointer (some ⟨k, 0, none⟩) ∧ s8 = errT (Sp.readOk t) ∧ BkS w M N p q r s w.heap.size (w.heap.size + 1) W ∧ Blk W k PageT (pageV (readPg t) x).toArray ∧ PageRd W NoM (readPg t) x)
      case first =>
        go_wp2_with (first
          | (go_at_call 14; refine (read_any t _ HT.out).mono ?_; rintro e w7 ⟨x, rfl, hx, hb2⟩; rw [readV_eq]; replace S := Lib.hid (S.out.go hb2); have X := Lib.hid (hx NoM (fun _ _ h => h)); clear hb2 hx)
          | (refine wpList_new PageT _ _ rfl rfl rfl rfl rfl rfl _ rfl (of_decide_eq_true (by kernel_rfl)) (by kernel_rfl) (by kernel_rfl) (by kernel_rfl) ?_))
        go_meet
        case rel =>
          have hal : Below w7.heap.size w7 (w7.alloc (.cells (pageV (readPg t) x).toArray PageT)) := (Below.refl _ _).alloc (Nat.le_refl _) _
          exact ⟨w7.heap.size, x, rfl, rfl, S.out.go hal, Blk.new w7 _ _, X.out.go hal⟩
      case rest =>
        obtain ⟨k, x, rfl, rfl, hs, hbx, hrx⟩ := hcut
        obtain ⟨W2, rfl⟩ : ∃ W, W = wc := ⟨_, rfl⟩
        replace S := Lib.hid hs
        have BX := Lib.hid hbx
        have RX := Lib.hid hrx
        clear hs hbx hrx
        go_upto_region 6 with fail
        go_cut [9, 10] (fun s9 s10 W => ∃ l y, s9 = .pointer (some ⟨l, 0, none⟩) ∧ s10 = errU (Sp.readOk t) ∧ PtS w M N p q (readPg t) r s x y w.heap.size (w.heap.size + 1) k l W)
        case first =>
          go_wp2_with (first
            | (go_at_call 15; refine (dRead_eq t _ HT.out).mono ?_; rintro e w7 ⟨y, rfl, hy, hb2⟩; replace S := Lib.hid (S.out.go hb2); replace BX := Lib.hid (BX.out.below hb2 BX.out.lt); replace RX := Lib.hid (RX.out.go hb2); have Y := Lib.hid hy; clear hb2 hy)
            | (refine wpList_new PageT _ _ rfl rfl rfl rfl rfl rfl _ rfl (of_decide_eq_true (by kernel_rfl)) (by kernel_rfl) (by kernel_rfl) (by kernel_rfl) ?_))
          go_meet
          case rel =>
            have hal : Below w7.heap.size w7 (w7.alloc (.cells (pageV (readPg t) y).toArray PageT)) := (Below.refl _ _).alloc (Nat.le_refl _) _
            exact ⟨w7.heap.size, y, rfl, rfl, S.out.go hal, BX.out.below hal BX.out.lt, RX.out.go hal, Blk.new w7 _ _, Y.out.go hal⟩
        case rest =>
          obtain ⟨l, y, rfl, rfl, hm⟩ := hcut
          obtain ⟨W3, rfl⟩ : ∃ W, W = wc := ⟨_, rfl⟩
          have T := Lib.hid hm
          clear hm S BX RX
          generalize readPg t = z at *
          rcases Sp.readOk t with _ | _
          all_goals
            simp only [errT, errU, if_true, if_false, Bool.false_eq_true]
            go_upto_region 7 with fail
            go_cut [6] (fun s6 W => s6 = .bool true ∧ Below w.heap.size w W)
            case first =>
              have hzz : Sp.samePage z z = true := decide_eq_true rfl
              have C1 := Lib.hid (fun (w' : World) (h1 : PageRd w' NoM z x) (h2 : PageRd w' NoM z y) => show Calls Try.prog 19 #[.agg (pageV z x).toArray, .agg (pageV z y).toArray] w' (fun e w2 => e = .returned (.bool true) ∧ Below w'.heap.size w' w2) from by have h := dSame_any z z x y w' h1 h2; rw [hzz] at h; exact h)
              have C2 := Lib.hid (fun (w' : World) => show Calls Try.prog 22 #[.iface ErrT (.int .i64 12), .iface ErrT (.int .i64 12)] w' (fun e w2 => e = .returned (.bool true) ∧ Below w'.heap.size w' w2) from (errIs_same 12 w').mono (by rintro e w2 ⟨rfl, rfl⟩; exact ⟨rfl, Below.refl _ _⟩))
              have D1 := Lib.hid (fun (w' : World) (h1 : PageRd w' M p r) => isPage_any p r w' h1)
              have D2 := Lib.hid (fun (w' : World) (h1 : PageRd w' M p r) => dIs_any p r w' h1)
              have D3 := Lib.hid (fun (w' : World) (h1 : PageRd w' M p r) (h2 : PageRd w' N q s) => samePage_any p q r s w' h1 h2)
              have D4 := Lib.hid (fun (w' : World) (h1 : PageRd w' M p r) (h2 : PageRd w' N q s) => dSame_any p q r s w' h1 h2)
              have D5 := Lib.hid (fun (w' : World) => short_any t w')
              have D6 := Lib.hid (fun (w' : World) => dShort_any t w')
              have D7 := Lib.hid (fun (w' : World) (h1 : PageRd w' M p r) => bytes_any p r w' h1)
              have D8 := Lib.hid (fun (w' : World) (h1 : PageRd w' M p r) => dBytes_any p r w' h1)
              clear hzz
              generalize Sp.isPage p = u1 at *
              generalize Sp.samePage p q = u2 at *
              generalize Sp.short t = u3 at *
              generalize Sp.bytes p = u4 at *
              refine wp_region_row (by kernel_rfl) (by kernel_rfl) ?_
              repeat (first | go_big_quiet_skip | (refine wpQuiet_row PageT _ rfl k rfl rfl PageT _ (0, 0) _ (blk_after T.out.bx) Try.underlying32 rfl rfl ?_; simp only [Act.put, List.setIfInBounds_toArray, List.set_cons_succ, List.set_cons_zero]) | (refine wpQuiet_row PageT _ rfl l rfl rfl PageT _ (0, 0) _ (blk_after T.out.bl) Try.underlying32 rfl rfl ?_; simp only [Act.put, List.setIfInBounds_toArray, List.set_cons_succ, List.set_cons_zero]) | (refine wpQuiet_row PageT _ rfl w.heap.size rfl rfl PageT _ (0, 0) _ (blk_after T.out.s.bp) Try.underlying32 rfl rfl ?_; simp only [Act.put, List.setIfInBounds_toArray, List.set_cons_succ, List.set_cons_zero]) | (refine wpQuiet_row PageT _ rfl (w.heap.size + 1) rfl rfl PageT _ (0, 0) _ (blk_after T.out.s.bq) Try.underlying32 rfl rfl ?_; simp only [Act.put, List.setIfInBounds_toArray, List.set_cons_succ, List.set_cons_zero]) | (go_big_quiet_step (first | (go_at_call_of 19 x; exact after_call (Nat.le_refl _) (C1.out _ (T.out.rx.go (After.h _)) (T.out.rl.go (After.h _)))) | (go_at_call 22; exact after_call (Nat.le_refl _) (C2.out _)) | (go_at_call 16; exact after_call (Nat.le_refl _) (D1.out _ (T.out.s.rp.go (After.h _)))) | (go_at_call 17; exact after_call (Nat.le_refl _) (D2.out _ (T.out.s.rp.go (After.h _)))) | (go_at_call 18; exact after_call (Nat.le_refl _) (D3.out _ (T.out.s.rp.go (After.h _)) (T.out.s.rq.go (After.h _)))) | (go_at_call_of 19 s; exact after_call (Nat.le_refl _) (D4.out _ (T.out.s.rp.go (After.h _)) (T.out.s.rq.go (After.h _)))) | (go_at_call 23; exact after_call (Nat.le_refl _) (D5.out _)) | (go_at_call 24; exact after_call (Nat.le_refl _) (D6.out _)) | (go_at_call 20; exact after_call (Nat.le_refl _) (D7.out _ (T.out.s.rp.go (After.h _)))) | (go_at_call 21; exact after_call (Nat.le_refl _) (D8.out _ (T.out.s.rp.go (After.h _)))))))
              refine wpQuiet_nil ?_
              intro w2 hb2
              go_wp2_with fail
              go_meet
              case rel => exact ⟨rfl, T.out.s.hb.trans (hb2.mono T.out.s.hb.size)⟩
            case rest =>
              obtain ⟨rfl, hb⟩ := hcut
              obtain ⟨w2, rfl⟩ : ∃ W, W = wc := ⟨_, rfl⟩
              have HB := Lib.hid hb
              clear hb T
              go_wp2_with fail
              go_ret
              exact ⟨rfl, HB.out⟩
    · go_wp2_with fail
      go_ret
      exact ⟨rfl, S.out.hb⟩
end Go.Proofs.Ytienlhckcpfknaa
namespace Go.Proofs.Ytienlhckcpfknaa.pageTells
open Go.ChangeShapes Go.WideShapes Go.ChangeAt Go.RowKit
set_option maxRecDepth 100000 in
theorem lifted (os : Os) (started : os.Started) (H : Type) (enc : TypeId × Value → H) :
    ReturnsInHanded {} Try.checked os 3 .any (Rows.pageTellsSpec.pre6 enc Try.prog Try.f3 Rows.pageTellsRow.domain false) (Rows.pageTellsSpec.post enc Try.prog Try.f3 false true false false) := by
  refine returnsInHanded_of_change_sized (C := Try.checked) ownKn started (by kernel_rfl) Try.func3
    (ChangeSpec.witness6 (enc := enc) (C := Try.checked) false ⟨#[], #[.agg #[.int .i64 0, .slice none 0 0, .slice none 0 0, .slice none 0 0, .string ⟨#[]⟩, .slice none 0 0, .slice none 0 0, .int .i64 0, .int .u64 0, .int .i64 0, .int .i64 0, .int .i64 0, .int .i64 0, .int .i64 0], .agg #[.int .i64 0, .slice none 0 0, .slice none 0 0, .slice none 0 0, .string ⟨#[]⟩, .slice none 0 0, .slice none 0 0, .int .i64 0, .int .u64 0, .int .i64 0, .int .i64 0, .int .i64 0, .int .i64 0, .int .i64 0], .string ⟨#[]⟩], []⟩ 8 (by kernel_rfl) (by kernel_rfl) (by kernel_rfl) (by kernel_rfl)) ?_
  intro W base args ds gs before hval0 hW hcnd hsz0 _
  have hval : ∀ (j : Nat) t v, Try.f3.params[j]? = some t → args[j]? = some v → Value.okWide Try.prog W .any base t v := hval0
  have hW' := hW
  obtain ⟨p, q, hA0, hV, rfl, hfz, hnd⟩ := hW
  have hA : DataW.TrodAll enc Try.prog W 0 (fun _ => true) true Try.f3.params.toList args.toList ds p := hA0
  have hsz : (DataW.weightsEach Try.prog (Try.f3.params.toList ++ Rows.pageTellsSpec.plain.varTypes Try.prog) (ds ++ gs)).all (· ≤ reachBytes) = true := hsz0
  rw [Try.params3] at hA hval hsz
  obtain ⟨v0, vs0, d0, ds0, p0, q0, hargs, rfl, rfl, h0, rr0⟩ := trodAll_cons hA
  obtain ⟨v1, vs1, d1, ds1, p1, q1, rfl, rfl, rfl, h1, rr1⟩ := trodAll_cons rr0
  obtain ⟨v2, vs2, d2, ds2, p2, q2, rfl, rfl, rfl, h2, rr2⟩ := trodAll_cons rr1
  obtain ⟨rfl, rfl, rfl⟩ := trodAll_nil rr2
  obtain rfl : args = #[v0, v1, v2] := by cases args; simp_all
  obtain ⟨rfl, rfl⟩ := trodVars_none hV
  have k0 := h0
  obtain ⟨a0, r0, hv0, b0⟩ := open_page (hval 0 32 v0 rfl rfl) h0 (fun n hn => by have h := List.all_eq_true.1 hsz n (DataW.weights_mem_each (j := 0) (t := 32) rfl rfl n hn); simpa using h)
  have k1 := h1
  obtain ⟨a1, r1, hv1, b1⟩ := open_page (hval 1 32 v1 rfl rfl) h1 (fun n hn => by have h := List.all_eq_true.1 hsz n (DataW.weights_mem_each (j := 1) (t := 32) rfl rfl n hn); simpa using h)
  have k2 := h2
  obtain ⟨a2, hv2, b2⟩ := open_txts (hval 2 9 v2 rfl rfl) h2 (fun n hn => by have h := List.all_eq_true.1 hsz n (DataW.weights_mem_each (j := 2) (t := 9) rfl rfl n hn); simpa using h)
  clear hA0 hval0
  simp only [List.append_nil] at hW'
  rw [hv0, hv1, hv2]
  refine (tells_any a0 a1 r0 r1 W b0 b1 a2 (by omega)).mono fun e W' ⟨he, hg⟩ => ?_
  subst he
  rw [← hv0, ← hv1, ← hv2]
  exact ⟨_, rfl, post_of_below (pa := (p0 ++ (p1 ++ (p2 ++ [])))) (pv := []) hW' (fun _ _ _ => (trodAll_cons_mk (shut_bool Try.underlying4 _) trodAll_mk0)) (fun sp hsp => (trodAll_cons_mk (WideElems.Trod_stays laidKn (by kernel_rfl) (of_decide_eq_true (by kernel_rfl)) k0 (fun x hx => hg.same (hW'.lt x (by simp [hx]))) (fun x hx => hsp x (by simp [hx]))) (trodAll_cons_mk (WideElems.Trod_stays laidKn (by kernel_rfl) (of_decide_eq_true (by kernel_rfl)) k1 (fun x hx => hg.same (hW'.lt x (by simp [hx]))) (fun x hx => hsp x (by simp [hx]))) (trodAll_cons_mk (WideElems.Trod_stays laidKn (by kernel_rfl) (of_decide_eq_true (by kernel_rfl)) k2 (fun x hx => hg.same (hW'.lt x (by simp [hx]))) (fun x hx => hsp x (by simp [hx]))) trodAll_mk0)))) (fun _ _ => rfl) (by simp)
    hg (ok_one (by kernel_rfl) rfl (okWide_bool_mk Try.underlying4 _))⟩
theorem over : Rows.pageTellsRow.holds Try.pinned (OpenSpec.ofChange Rows.pageTellsSpec) :=
  OpenClaim.holds_of_wide 3 Try.f3 rfl rfl rfl rfl rfl rfl rfl ⟨rfl, rfl, rfl, rfl, rfl⟩ rfl rfl rfl rfl rfl (by kernel_rfl) Try.func3 (by kernel_rfl)
    (of_decide_eq_true (by kernel_rfl)) (by unfold Func.isWrapper; first | (rw [if_pos (by decide +kernel)]; kernel_rfl) | (rw [if_neg (by decide +kernel)]; exact ⟨rfl, rfl⟩))
    (fun os started H enc _ => lifted os started H enc)
theorem proved : Rows.PageTellsSaid :=
  over
#print axioms proved
end Go.Proofs.Ytienlhckcpfknaa.pageTells
