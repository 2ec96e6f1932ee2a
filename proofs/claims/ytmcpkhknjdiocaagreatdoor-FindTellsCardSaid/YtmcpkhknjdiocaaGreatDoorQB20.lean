/- The document's Read: the walk. The store over a file: a new one; a page of its file is read. A page that comes in: what can be read as data lies in memory as a page does. A row of bytes' numbers that comes in. More words for a region whose order is open: what only reads is taken first, though the last operation waits for it by way of others. errors.Is where the target is an Errno. -/
import Derived.Test.YtmcpkhknjdiocaaGreatDoorQB00
import Derived.Test.YtmcpkhknjdiocaaGreatDoorQB03
import Derived.Test.YtmcpkhknjdiocaaGreatDoorQB07
import Derived.Test.YtmcpkhknjdiocaaGreatDoorQB11
import Derived.Test.YtmcpkhknjdiocaaGreatDoorQB12
import Derived.Test.YtmcpkhknjdiocaaGreatDoorQB14
import Derived.Test.YtmcpkhknjdiocaaGreatDoorQB16
import Derived.Test.YtmcpkhknjdiocaaGreatDoorQB18
import Derived.Test.YtmcpkhknjdiocaaGreatDoorQB19
import Derived.SizedLaws
import Derived.SliceStrings
import Derived.ChangeSlices
import Derived.Deep.Slices
import Derived.Lib.IfaceEq
import Derived.LaidEql
import Derived.Stop.Asserts
import Derived.RowKitTokens
set_option linter.unusedSimpArgs false
set_option linter.unusedVariables false
namespace Go.Proofs.YtmcpkhknjdiocaaGreatDoor
open Go.RowKit
attribute [local go_sem low] mk_extract
attribute [local go_sem] After.cell After.frozen mk_extract_end ByteArray.mk_append_mk
namespace Sp
theorem Cut.dpage_len (c : Cut) : c.dpage.2.s.length ≤ c.s.length := by
  have h6 := Cut.int_len 6 c
  have hi : ∀ d : Cut, d.ditems.2.s.length ≤ d.s.length := fun d => Nat.le_trans (eachN_len (f := ditemStep) (fun _ c => c.ditem_len) _ _) (Cut.int_len 4 d)
  have hk : ∀ d : Cut, d.dkeys.2.s.length ≤ d.s.length := fun d => Nat.le_trans (eachN_len (f := dkeyStep) (fun _ c => Nat.le_trans (Cut.int_len 400 _) c.text_len) _ _) (Cut.int_len 4 d)
  have hm : ∀ d : Cut, d.dmt.2.s.length ≤ d.s.length := fun d => Nat.le_trans (Cut.int_len 400 _) (Nat.le_trans (Cut.int_len 400 _) (Nat.le_trans (Cut.droot_len _) d.u64_len))
  have ht : ∀ d : Cut, d.text.2.s.length ≤ d.s.length := fun d => d.text_len
  have hv : ∀ d : Cut, (Cut.dtexts 12 d).2.s.length ≤ d.s.length := fun d => Cut.dtexts_len 12 d
  have hf : ∀ d : Cut, (Cut.int 400 d.dfrees.2).2.s.length ≤ d.s.length := fun d => Nat.le_trans (Cut.int_len 400 _) d.dfrees_len
  unfold Cut.dpage
  generalize Cut.int 6 c = kc at *
  by_cases h1 : kc.1 = 1
  · rw [if_pos h1]; exact Nat.le_trans (hi _) h6
  rw [if_neg h1]
  by_cases h2 : kc.1 = 2
  · rw [if_pos h2]; exact Nat.le_trans (hk _) h6
  rw [if_neg h2]
  by_cases h3 : kc.1 = 3
  · rw [if_pos h3]; exact Nat.le_trans (ht _) h6
  rw [if_neg h3]
  by_cases h4 : kc.1 = 4
  · rw [if_pos h4]; exact Nat.le_trans (hv _) h6
  rw [if_neg h4]
  by_cases h5 : kc.1 = 5
  · rw [if_pos h5]; exact Nat.le_trans (hf _) h6
  rw [if_neg h5]
  by_cases h6' : kc.1 = 6
  · rw [if_pos h6']; exact Nat.le_trans (hm _) h6
  rw [if_neg h6']
  exact h6
end Sp
/-- The result's block, and a cut behind it. -/
structure RdS (w : World) (c : Sp.Cut) (W : World) : Prop where
  dc : DCut W (w.heap.size + 1) c.s c.bad
  hb : Below w.heap.size w W
  z2 : Blk W w.heap.size PageT #[.int .i64 0, .slice none 0 0, .slice none 0 0, .slice none 0 0, .string ⟨#[]⟩, .slice none 0 0, .slice none 0 0, .int .i64 0, .int .u64 0, .int .i64 0, .int .i64 0, .int .i64 0, .int .i64 0, .int .i64 0]
  hl : c.s.length ≤ 4611686018427387904
theorem RdS.start {s : Txt} (w : World) (hs : s.length ≤ 4611686018427387904) : RdS w ⟨s, false⟩ ((w.alloc (.cells #[.int .i64 0, .slice none 0 0, .slice none 0 0, .slice none 0 0, .string ⟨#[]⟩, .slice none 0 0, .slice none 0 0, .int .i64 0, .int .u64 0, .int .i64 0, .int .i64 0, .int .i64 0, .int .i64 0, .int .i64 0] PageT)).alloc (.cells #[.string ⟨s.toArray⟩, .bool false] 248)) :=
  ⟨blk_second w _ _ _, ((Below.refl _ _).alloc (Nat.le_refl _) _).alloc (by simp) _, (Blk.new w _ _).alloc _, hs⟩
theorem RdS.call {w W W' : World} {c c' : Sp.Cut} (h : RdS w c W) (hc : DCut W' (w.heap.size + 1) c'.s c'.bad) (hk : Chg (OneM (w.heap.size + 1)) W W') (hl : c'.s.length ≤ c.s.length) : RdS w c' W' :=
  ⟨hc, h.hb.trans (Chg.below hk h.hb.size (fun k hk e => by unfold OneM at e; omega)), h.z2.chg hk (by unfold OneM; omega), Nat.le_trans hl h.hl⟩
theorem RdS.go {w W W' : World} {c : Sp.Cut} (h : RdS w c W) (hb : Below W.heap.size W W') : RdS w c W' :=
  ⟨Blk.below h.dc hb (Blk.lt h.dc), h.hb.trans (hb.mono h.hb.size), h.z2.below hb h.z2.lt, h.hl⟩
/-- The same, and the page that was read. -/
structure RqS (w : World) (c : Sp.Cut) (p : Sp.Page) (r : Refs) (b6 : Nat) (W : World) : Prop where
  s : RdS w c W
  bx : Blk W b6 PageT (pageV p r).toArray
  hne : w.heap.size < b6
  rp : ∀ M : Nat → Prop, (∀ k, w.heap.size < k → ¬ M k) → PageRd W M p r
theorem RqS.go {w W W' : World} {c : Sp.Cut} {p : Sp.Page} {r : Refs} {b6 : Nat} (h : RqS w c p r b6 W) (hb : Below W.heap.size W W') : RqS w c p r b6 W' :=
  ⟨h.s.go hb, h.bx.below hb h.bx.lt, h.hne, fun M hM => (h.rp M hM).go hb⟩
def DReadOut (s : Txt) (w : World) (e : Ending) (w' : World) : Prop :=
  ∃ r, e = .returned (if Sp.readOk s then .tuple #[.agg (pageV (Sp.parse s) r).toArray, .int .i64 0] else .tuple #[.agg (pageV Sp.pg0 r).toArray, .int .i64 12]) ∧ (∀ M : Nat → Prop, (∀ k, w.heap.size ≤ k → ¬ M k) → PageRd w' M (readPg s) r) ∧ Below w.heap.size w w'
theorem DReadOut.no {s : Txt} {w W : World} (h : Sp.dOk s = false) (hb : Below w.heap.size w W) : DReadOut s w (.returned (.tuple #[.agg (pageV Sp.pg0 refs0).toArray, .int .i64 12])) W := by
  have h := Sp.dOk_no h
  unfold DReadOut readPg
  rw [h]
  exact ⟨refs0, rfl, fun M hM => pageRd0 _ _ _, hb⟩
theorem DReadOut.yes {s : Txt} {w W : World} {r : Refs} (h : Sp.dOk s = true) (hr : ∀ M : Nat → Prop, (∀ k, w.heap.size ≤ k → ¬ M k) → PageRd W M (Sp.Cut.u64 ⟨s, false⟩).2.dpage.1 r) (hb : Below w.heap.size w W) : DReadOut s w (.returned (.tuple #[.agg (pageV (Sp.Cut.u64 ⟨s, false⟩).2.dpage.1 r).toArray, .int .i64 0])) W := by
  obtain ⟨h1, h2⟩ := Sp.dOk_iff h
  unfold DReadOut readPg
  rw [h1]
  rw [h2] at hr ⊢
  exact ⟨r, rfl, hr, hb⟩
set_option maxRecDepth 100000 in
set_option maxHeartbeats 1600000 in
theorem dRead_any (s : Txt) (w : World) (hs : s.length ≤ 4611686018427387904) :
    Calls Tryz.prog 117 #[.string ⟨s.toArray⟩] w fun e w' => DReadOut s w e w' := by
  have S := Lib.hid (RdS.start w hs)
  have HNO := Lib.hid (fun (W : World) (h : Sp.dOk s = false) (hb : Below w.heap.size w W) => DReadOut.no h hb)
  have HYES := Lib.hid (fun (W : World) (r : Refs) (h : Sp.dOk s = true) hr (hb : Below w.heap.size w W) => DReadOut.yes (r := r) h hr hb)
  have HSP := Lib.hid (fun u c1 c2 p h1 h2 => Sp.dOk_split s u c1 c2 p h1 h2)
  have HUL := Lib.hid (Sp.Cut.u64_len ⟨s, false⟩)
  have HNU := Lib.hid (fun W hs hc => show Calls Tryz.prog 147 #[.pointer (some ⟨w.heap.size + 1, 0, none⟩)] W (fun e w' => e = .returned (.int .u64 (Sp.Cut.u64 ⟨s, false⟩).1) ∧ DCut w' (w.heap.size + 1) (Sp.Cut.u64 ⟨s, false⟩).2.s (Sp.Cut.u64 ⟨s, false⟩).2.bad ∧ Chg (OneM (w.heap.size + 1)) W w') from dCutNum_any (w.heap.size + 1) s false W hs hc)
  generalize hu : Sp.Cut.u64 ⟨s, false⟩ = uc at *
  obtain ⟨u, c1⟩ := uc
  dsimp only at HUL HNU HYES
  generalize hpd : c1.dpage = pd at *
  obtain ⟨p, c2⟩ := pd
  have hsp := HSP.out u c1 c2 p rfl hpd
  have HPD := Lib.hid hpd
  dsimp only at HYES
  have hpl := Sp.Cut.dpage_len c1
  rw [hpd] at hpl
  dsimp only at hpl
  have HSP := Lib.hid hsp
  have HPL := Lib.hid hpl
  clear hs hsp hu hpd hpl
  rename_i HSPold
  clear HSPold
  go_enter Tryz.func117, Tryz.ntmps117
  go_upto_region 2 with fail
  go_cut [5] (fun s5 W => s5 = .int .u64 u ∧ RdS w c1 W)
  case first =>
    go_wp2_with (go_at_call 147; refine (HNU.out _ S.out.hl S.out.dc).mono ?_; rintro e w1 ⟨rfl, hc1, hk1⟩; replace S := Lib.hid (S.out.call (c' := c1) hc1 hk1 HUL.out); clear hc1 hk1)
    go_meet
    case rel => exact ⟨rfl, S.out⟩
  case rest =>
    obtain ⟨rfl, hm⟩ := hcut
    replace S := Lib.hid hm
    clear hm
    obtain ⟨W1, rfl⟩ : ∃ W, W = wc := ⟨_, rfl⟩
    have q0 := Blk.cell S.out.dc 0
    have q1 := Blk.cell S.out.dc 1
    simp at q0 q1
    go_upto_region 3 with fail
    go_cut [24] (fun s24 W => s24 = .bool (c1.bad || decide (u ≠ Sp.sum c1.s)) ∧ RdS w c1 W)
    case first =>
      rcases hb : c1.bad with _ | _
      · rw [hb] at q1
        have HB := Lib.hid hb
        clear hb
        by_cases he : u = Sp.sum c1.s
        · have he1 : (u != Sp.sum c1.s) = false := by simp [he]
          have HE := Lib.hid he
          clear he
          go_wp2_with (go_at_call 84; refine (dSum_any c1.s _ S.out.hl).mono ?_; rintro e w2 ⟨rfl, rfl⟩)
          go_meet
          case rel => exact ⟨by simp [HE.out, HB.out], S.out⟩
        · have he1 : (u != Sp.sum c1.s) = true := by simp [he]
          have HE := Lib.hid he
          clear he
          go_wp2_with (go_at_call 84; refine (dSum_any c1.s _ S.out.hl).mono ?_; rintro e w2 ⟨rfl, rfl⟩)
          go_meet
          case rel => exact ⟨by simp [HE.out, HB.out], S.out⟩
      · rw [hb] at q1
        have HB := Lib.hid hb
        clear hb
        go_wp2_with fail
        go_meet
        case rel => exact ⟨by simp [HB.out], S.out⟩
    case rest =>
      obtain ⟨rfl, hm⟩ := hcut
      replace S := Lib.hid hm
      clear hm q0 q1
      obtain ⟨W2, rfl⟩ : ∃ W, W = wc := ⟨_, rfl⟩
      generalize (c1.bad || decide (u ≠ Sp.sum c1.s)) = t3 at *
      rcases t3 with _ | _
      · go_upto_region 5 with fail
        go_cut [6] (fun s6 W => ∃ r b6, s6 = .pointer (some ⟨b6, 0, none⟩) ∧ RqS w c2 p r b6 W)
        case first =>
          go_wp2_with (first
            | (go_at_call 148; refine (dPage_any (w.heap.size + 1) c1 _ S.out.hl S.out.dc).mono ?_; rintro e w2 ⟨r, rfl, hr, hc, hk⟩; rw [HPD.out] at *; dsimp only at *; have HR := Lib.hid hr; have hsz := S.out.hb.size; have hz2 := S.out.z2.lt; replace S := Lib.hid (S.out.call (c' := c2) hc hk HPL.out); clear hc hk hr)
            | (refine wpList_new PageT _ _ rfl rfl rfl rfl rfl rfl _ rfl (of_decide_eq_true (by kernel_rfl)) (by kernel_rfl) (by kernel_rfl) (by kernel_rfl) ?_))
          go_meet
          case rel =>
            have hal : Below w2.heap.size w2 (w2.alloc (.cells (pageV p r).toArray PageT)) := (Below.refl _ _).alloc (Nat.le_refl _) _
            exact ⟨r, w2.heap.size, rfl, S.out.go hal, Blk.new w2 _ _, S.out.z2.lt, fun M hM => (HR.out M (fun k hk => hM k (by omega))).go hal⟩
        case rest =>
          obtain ⟨r, b6, rfl, hm⟩ := hcut
          have T := Lib.hid hm
          clear hm S
          obtain ⟨W3, rfl⟩ : ∃ W, W = wc := ⟨_, rfl⟩
          have q0 := Blk.cell T.out.s.dc 0
          have q1 := Blk.cell T.out.s.dc 1
          simp at q0 q1
          go_upto_region 6 with fail
          go_cut [49] (fun s49 W => s49 = .bool (c2.bad || (decide (c2.s ≠ []) || (!Sp.isPage p || decide (Sp.bytes p ≠ s)))) ∧ RqS w c2 p r b6 W)
          case first =>
            rcases hb : c2.bad with _ | _
            · rw [hb] at q1
              have HB := Lib.hid hb
              clear hb
              rcases hc : c2.s with _ | ⟨x0, xs⟩
              · rw [hc] at q0
                have HC := Lib.hid hc
                clear hc
                rcases hp : Sp.isPage p with _ | _
                · have HP := Lib.hid hp
                  clear hp
                  go_wp2_with (first
                    | (go_at_call 79; refine (dIs_any (M := NoM) p r _ (T.out.rp NoM (fun _ _ h => h))).mono ?_; rintro e w3 ⟨rfl, hb3⟩; rw [HP.out]; replace T := Lib.hid (T.out.go hb3); clear hb3 q0 q1)
                    | (refine wpList_row PageT _ rfl b6 rfl rfl PageT _ (0, 0) _ T.out.bx Tryz.underlying119 rfl rfl ?_))
                  go_meet
                  case rel => exact ⟨by simp [HP.out], T.out⟩
                · have HP := Lib.hid hp
                  clear hp
                  by_cases hbs : Sp.bytes p = s
                  · have HBS := Lib.hid hbs
                    clear hbs
                    go_wp2_with (first
                      | (go_at_call 79; refine (dIs_any (M := NoM) p r _ (T.out.rp NoM (fun _ _ h => h))).mono ?_; rintro e w3 ⟨rfl, hb3⟩; rw [HP.out]; replace T := Lib.hid (T.out.go hb3); clear hb3 q0 q1)
                      | (go_at_call 53; refine (dBytes_any (M := NoM) p r _ (T.out.rp NoM (fun _ _ h => h))).mono ?_; rintro e w3 ⟨rfl, hb3⟩; rw [HBS.out]; replace T := Lib.hid (T.out.go hb3); clear hb3)
                      | (refine wpList_row PageT _ rfl b6 rfl rfl PageT _ (0, 0) _ T.out.bx Tryz.underlying119 rfl rfl ?_))
                    go_meet
                    case rel => exact ⟨by simp [HBS.out, HB.out, HC.out, HP.out], T.out⟩
                  · have HBS := Lib.hid hbs
                    have hbq : (Sp.bytes p == s) = false := beq_eq_false_iff_ne.2 hbs
                    clear hbs
                    go_wp2_with (first
                      | (go_at_call 79; refine (dIs_any (M := NoM) p r _ (T.out.rp NoM (fun _ _ h => h))).mono ?_; rintro e w3 ⟨rfl, hb3⟩; rw [HP.out]; replace T := Lib.hid (T.out.go hb3); clear hb3 q0 q1)
                      | (go_at_call 53; refine (dBytes_any (M := NoM) p r _ (T.out.rp NoM (fun _ _ h => h))).mono ?_; rintro e w3 ⟨rfl, hb3⟩; replace T := Lib.hid (T.out.go hb3); clear hb3)
                      | (refine wpList_row PageT _ rfl b6 rfl rfl PageT _ (0, 0) _ T.out.bx Tryz.underlying119 rfl rfl ?_))
                    go_meet
                    case rel => exact ⟨by simp [HBS.out, HB.out, HC.out, HP.out], T.out⟩
              · rw [hc] at q0
                have HC := Lib.hid hc
                clear hc
                go_wp2_with fail
                go_meet
                case rel => exact ⟨by simp [HC.out], T.out⟩
            · rw [hb] at q1
              have HB := Lib.hid hb
              clear hb
              go_wp2_with fail
              go_meet
              case rel => exact ⟨by simp [HB.out], T.out⟩
          case rest =>
            obtain ⟨rfl, hm⟩ := hcut
            replace T := Lib.hid hm
            clear hm q0 q1
            obtain ⟨W4, rfl⟩ : ∃ W, W = wc := ⟨_, rfl⟩
            generalize (c2.bad || (decide (c2.s ≠ []) || (!Sp.isPage p || decide (Sp.bytes p ≠ s)))) = t6 at *
            rcases t6 with _ | _
            · go_wp2_with (first
                | (refine wpList_row PageT _ rfl b6 rfl rfl PageT _ (0, 0) _ T.out.bx Tryz.underlying119 rfl rfl ?_)
                | (refine wpList_store_row rfl PageT _ _ rfl w.heap.size _ rfl rfl PageT _ T.out.s.z2 (by kernel_rfl) rfl (by kernel_rfl) ?_))
              obtain ⟨⟨z0, z1, z2, z3, z4, z5, z6, z7, z8, z9, z10, z11, z12, z13⟩, _⟩ := (T.out.s.z2.row (ds := #[.int .i64 p.kind, .slice r.I p.items.length r.i, .slice r.K p.keys.length r.k, .slice r.D p.kids.length r.d, .string ⟨p.text.toArray⟩, .slice r.V p.vals.length r.v, .slice r.F p.free.length r.f, .int .i64 p.next, .int .u64 p.mt.txn, .int .i64 p.mt.main.page, .int .i64 p.mt.main.count, .int .i64 p.mt.main.flags, .int .i64 p.mt.free, .int .i64 p.mt.last])).at14
              have hne := T.out.hne
              refine bodyPost_ret (v := .tuple #[.agg (pageV p r).toArray, .int .i64 0]) (by simp [results, Tryz.results117, go_sem, pageV, mtV, z0, z1, z2, z3, z4, z5, z6, z7, z8, z9, z10, z11, z12, z13]) rfl (HYES.out _ r (HSP.out.trans rfl) (fun M hM => ?_) (below_setRow T.out.s.hb (Nat.le_refl _) _))
              refine PageRd.anti (M := fun k => M k ∨ k = w.heap.size) (PageRd.chg (T.out.rp _ (fun k hk h => ?_)) ?_) (fun k h => .inl h)
              · rcases h with h | h
                · exact hM k (by omega) h
                · omega
              · refine (chg_setRow1 _ _ _).mono (fun k _ h => .inr h)
            · go_wp2_with (first
                | (refine wpList_built rfl PageT _ rfl #[.int .i64 0, .slice none 0 0, .slice none 0 0, .slice none 0 0, .string ⟨#[]⟩, .slice none 0 0, .slice none 0 0, .int .i64 0, .int .u64 0, .int .i64 0, .int .i64 0, .int .i64 0, .int .i64 0, .int .i64 0] (by kernel_rfl) ?_)
                | (refine wpList_store_row rfl PageT _ _ rfl w.heap.size _ rfl rfl PageT _ T.out.s.z2 (by kernel_rfl) rfl (by kernel_rfl) ?_))
              obtain ⟨⟨z0, z1, z2, z3, z4, z5, z6, z7, z8, z9, z10, z11, z12, z13⟩, _⟩ := (T.out.s.z2.row (ds := #[.int .i64 0, .slice none 0 0, .slice none 0 0, .slice none 0 0, .string ⟨#[]⟩, .slice none 0 0, .slice none 0 0, .int .i64 0, .int .u64 0, .int .i64 0, .int .i64 0, .int .i64 0, .int .i64 0, .int .i64 0])).at14
              refine bodyPost_ret (v := .tuple #[.agg (pageV Sp.pg0 refs0).toArray, .int .i64 12]) (by simp [results, Tryz.results117, go_sem, pageV, mtV, Sp.pg0, Sp.mt0, Sp.root0, refs0, z0, z1, z2, z3, z4, z5, z6, z7, z8, z9, z10, z11, z12, z13]) rfl (HNO.out _ (HSP.out.trans rfl) (below_setRow T.out.s.hb (Nat.le_refl _) _))
      · go_wp2_with (first
          | (refine wpList_built rfl PageT _ rfl #[.int .i64 0, .slice none 0 0, .slice none 0 0, .slice none 0 0, .string ⟨#[]⟩, .slice none 0 0, .slice none 0 0, .int .i64 0, .int .u64 0, .int .i64 0, .int .i64 0, .int .i64 0, .int .i64 0, .int .i64 0] (by kernel_rfl) ?_)
          | (refine wpList_store_row rfl PageT _ _ rfl w.heap.size _ rfl rfl PageT _ S.out.z2 (by kernel_rfl) rfl (by kernel_rfl) ?_))
        obtain ⟨⟨z0, z1, z2, z3, z4, z5, z6, z7, z8, z9, z10, z11, z12, z13⟩, _⟩ := (S.out.z2.row (ds := #[.int .i64 0, .slice none 0 0, .slice none 0 0, .slice none 0 0, .string ⟨#[]⟩, .slice none 0 0, .slice none 0 0, .int .i64 0, .int .u64 0, .int .i64 0, .int .i64 0, .int .i64 0, .int .i64 0, .int .i64 0])).at14
        refine bodyPost_ret (v := .tuple #[.agg (pageV Sp.pg0 refs0).toArray, .int .i64 12]) (by simp [results, Tryz.results117, go_sem, pageV, mtV, Sp.pg0, Sp.mt0, Sp.root0, refs0, z0, z1, z2, z3, z4, z5, z6, z7, z8, z9, z10, z11, z12, z13]) rfl (HNO.out _ (HSP.out.trans rfl) (below_setRow S.out.hb (Nat.le_refl _) _))
end Go.Proofs.YtmcpkhknjdiocaaGreatDoor
namespace Go.Proofs.YtmcpkhknjdiocaaGreatDoor
open Go.RowKit
attribute [local go_sem low] mk_extract
attribute [local go_sem] After.cell After.frozen mk_extract_end ByteArray.mk_append_mk
abbrev StT : TypeId := 139
abbrev PMapT : TypeId := 137
def pgZ0 : Array Value := #[.int .i64 0, .slice none 0 0, .slice none 0 0, .slice none 0 0, .string ⟨#[]⟩, .slice none 0 0, .slice none 0 0, .int .i64 0, .int .u64 0, .int .i64 0, .int .i64 0, .int .i64 0, .int .i64 0, .int .i64 0]
theorem zeroPage (W : World) : (zeroValue 119).run Tryz.prog W = .ok (.agg pgZ0) W := by kernel_rfl
theorem run_lookup_empty (W : World) (m c : Nat) (h : W.heap[m]? = some (.map #[] c)) (i : Int) : (Instr.lookup PMapT (.map (some m)) (.int .i64 i) true).run Tryz.prog W = .ok (.tuple #[.agg pgZ0, .bool false]) W := by
  have hk : MapKept.IsKey (.int .i64) (.int .i64 i) := rfl
  have hd := Tryz.underlying3
  have ht := Tryz.underlying137
  have hf : Instr.findNow (.int .i64) (.int .i64 i) (#[] : Array MapEntry).toList 0 = some none := rfl
  simp [Instr.lookup, run_underlying ht, MapKept.run_getObj_map h, MapKept.run_checkKey hd hk, MapKept.run_findKey hd hf, zeroPage, Result.andThen, pgZ0]
/-- A store that has made nothing. -/
structure St0 (w : World) (t f m d : Nat) (last : Int) (v : Value) (V : List Txt) : Prop where
  bt : Blk w t StT #[.pointer (some ⟨f, 0, none⟩), .map (some d), .slice none 0 0, .slice none 0 0, .int .i64 last, .int .i64 400]
  dm : ∃ c, w.heap[d]? = some (.map #[] c)
  fa : FileAt w f v m V
theorem St0.go {w w' : World} {t f m d : Nat} {last : Int} {v : Value} {V : List Txt} (h : St0 w t f m d last v V) (hb : Below w.heap.size w w') : St0 w' t f m d last v V := by
  obtain ⟨c, hd⟩ := h.dm
  exact ⟨h.bt.below hb h.bt.lt, ⟨c, (hb.block d (Array.getElem?_eq_some_iff.1 hd).1).trans hd⟩, h.fa.go hb⟩
set_option maxRecDepth 100000 in
set_option maxHeartbeats 1600000 in
theorem storeNew_any (f m : Nat) (last : Int) (v : Value) (V : List Txt) (w : World) (hf : FileAt w f v m V) (h2 : 2 ≤ last) (h4 : last ≤ 400) :
    Calls Tryz.prog 31 #[.pointer (some ⟨f, 0, none⟩), .int .i64 last, .int .i64 400, .slice none 0 0] w fun e w' => ∃ t d, e = .returned (.pointer (some ⟨t, 0, none⟩)) ∧ St0 w' t f m d last v V ∧ Below w.heap.size w w' := by
  have HF := Lib.hid hf
  have hmx : max last 2 = last := by omega
  have hmn : min last 400 = last := by omega
  have hmm := @run_makeMap Tryz.prog
  clear hf
  go_enter Tryz.func31, Tryz.ntmps31
  go_upto_region 2 with fail
  refine wp_gen (fun W => St0 W (w.heap.size + 1) f m w.heap.size last v V ∧ Below w.heap.size w W) ?_ ?_
  · have hb : Below w.heap.size w ((w.alloc (.map #[] 0)).alloc (.cells #[.pointer (some ⟨f, 0, none⟩), .map (some w.heap.size), .slice none 0 0, .slice none 0 0, .int .i64 last, .int .i64 400] StT)) := ((Below.refl _ _).alloc (Nat.le_refl _) _).alloc (by simp) _
    refine ⟨⟨blk_second w _ _ _, ⟨0, ?_⟩, HF.out.go hb⟩, hb⟩
    have := heap_alloc_new w (.map #[] 0)
    exact (((Below.refl _ _).alloc (Nat.le_refl _) _ : Below (w.alloc (.map #[] 0)).heap.size (w.alloc (.map #[] 0)) _).block _ (by rw [World.size_alloc]; omega)).trans this
  rintro w1 ⟨hs, hb⟩
  have HS := Lib.hid hs
  have HB := Lib.hid hb
  clear hs hb HF
  go_wp2_with fail
  go_loopw [24] (fun i wr => i = .int .i64 0 ∧ wr = w1) (fun _ _ => 0)
  case atStart => exact ⟨rfl, rfl⟩
  case round =>
    obtain ⟨rfl, rfl⟩ := hrel
    go_wp2_with fail
    go_ret
    exact ⟨_, _, rfl, HS.out, HB.out⟩
theorem pageV_all0 (p : Sp.Page) (r : Refs) : (pageV p r).toArray.all (·.oneCell') = true := by
  rw [Array.all_eq_true_iff_forall_mem]
  intro u hu
  have hu : u ∈ pageV p r := by simpa using hu
  simp only [pageV, mtV, List.mem_append, List.mem_cons, List.not_mem_nil, or_false] at hu
  rcases hu with rfl | rfl | rfl | rfl | rfl | rfl | rfl | rfl | rfl | rfl | rfl | rfl | rfl | rfl <;> rfl
theorem chg_setRow0 (w : World) (k : Nat) (cs : Array Value) : Chg (OneM k) w (w.setRow k cs) :=
  ⟨rfl, rfl, rfl, by simp, fun i _ hs => setRow_other w k i cs (fun e => hs e)⟩
def readE (s : Txt) : Value := if Sp.readOk s then .nilIface else .iface 120 (.int .i64 12)
theorem readV_is (s : Txt) (r : Refs) : readV s r = .tuple #[.agg (pageV (readPg s) r).toArray, readE s] := by
  unfold readV readPg readE
  split <;> rfl
theorem atV_sz (V : List Txt) (i : Int) (h : ∀ s ∈ V, s.length ≤ 4611686018427387904) : (Sp.atV V i).length ≤ 4611686018427387904 := by
  unfold Sp.atV
  split
  · simp
  · rw [List.getD_eq_getElem?_getD]
    cases hq : V[i.toNat]? with
    | none => simp
    | some s => exact h s (List.mem_of_getElem? hq)
set_option maxRecDepth 100000 in
set_option maxHeartbeats 1600000 in
theorem storeRead_any (t f m d : Nat) (last : Int) (v : Value) (V : List Txt) (i : Int) (w : World) (hs : St0 w t f m d last v V) (hn : V.length ≤ 400) (h2 : 2 ≤ i) (h4 : i < 400) :
    Calls Tryz.prog 133 #[.pointer (some ⟨t, 0, none⟩), .int .i64 i] w fun e w' => ∃ r, e = .returned (readV (Sp.atV V i) r) ∧ (∀ M : Nat → Prop, (∀ k, w.heap.size ≤ k → ¬ M k) → PageRd w' M (readPg (Sp.atV V i)) r) ∧ Below w.heap.size w w' := by
  have hal : Below w.heap.size w (w.alloc (.cells pgZ0 PageT)) := (Below.refl _ _).alloc (Nat.le_refl _) _
  have HS := Lib.hid (hs.go hal)
  have c0 := HS.out.bt.cell 0
  have c1 := HS.out.bt.cell 1
  have c5 := HS.out.bt.cell 5
  simp at c0 c1 c5
  obtain ⟨ck, hdm⟩ := HS.out.dm
  have HD := Lib.hid hdm
  have HZ := Lib.hid (Blk.new w PageT pgZ0)
  have HSZ := Lib.hid (atV_sz V i hs.fa.sz)
  have HAL := Lib.hid hal
  have hlt2 : ¬ (i < 2) := by omega
  have h400 : ¬ (400 ≤ i) := by omega
  have hd1 : d < (w.alloc (.cells pgZ0 PageT)).heap.size := (Array.getElem?_eq_some_iff.1 hdm).1
  have hlk := run_lookup_empty _ _ _ hdm i
  clear hs hal hdm
  simp only [pgZ0] at *
  go_enter Tryz.func133, Tryz.ntmps133
  go_upto_region 5 with (refine wpList_new PageT _ _ rfl rfl rfl rfl rfl rfl _ rfl (of_decide_eq_true (by kernel_rfl)) (by kernel_rfl) (by kernel_rfl) (by kernel_rfl) ?_)
  have hal2 : Below (w.alloc (.cells pgZ0 PageT)).heap.size (w.alloc (.cells pgZ0 PageT)) ((w.alloc (.cells pgZ0 PageT)).alloc (.cells pgZ0 PageT)) := (Below.refl _ _).alloc (Nat.le_refl _) _
  have HS2 := Lib.hid (HS.out.go hal2)
  have HZ2 := Lib.hid (HZ.out.below hal2 HZ.out.lt)
  have HAL2 := Lib.hid (HAL.out.trans (hal2.mono HAL.out.size))
  have e0 := HS2.out.bt.cell 0
  simp at e0
  clear c0 c1 c5 hlk HS HZ HAL hal2 HD hd1
  simp only [pgZ0] at *
  generalize ((w.alloc (.cells _ PageT)).alloc (.cells _ PageT)) = W2 at *
  go_wp2_with (first
    | (go_at_call 146; refine (fileRead_any f m v V i _ HS2.out.fa (by omega)).mono ?_; rintro e w2 ⟨rfl, rfl⟩)
    | (go_at_call 152; refine (read_any (Sp.atV V i) _ HSZ.out).mono ?_; rintro e w3 ⟨r, rfl, hr, hb3⟩; rw [readV_is])
    | (refine wpList_store_row rfl PageT _ _ rfl w.heap.size _ rfl rfl PageT _ (HZ2.out.below hb3 HZ2.out.lt) (by kernel_rfl) rfl (pageV_all0 (readPg (Sp.atV V i)) r) ?_))
  obtain ⟨⟨z0, z1, z2, z3, z4, z5, z6, z7, z8, z9, z10, z11, z12, z13⟩, _⟩ := ((HZ2.out.below hb3 HZ2.out.lt).row (ds := #[.int .i64 (readPg (Sp.atV V i)).kind, .slice r.I (readPg (Sp.atV V i)).items.length r.i, .slice r.K (readPg (Sp.atV V i)).keys.length r.k, .slice r.D (readPg (Sp.atV V i)).kids.length r.d, .string ⟨(readPg (Sp.atV V i)).text.toArray⟩, .slice r.V (readPg (Sp.atV V i)).vals.length r.v, .slice r.F (readPg (Sp.atV V i)).free.length r.f, .int .i64 (readPg (Sp.atV V i)).next, .int .u64 (readPg (Sp.atV V i)).mt.txn, .int .i64 (readPg (Sp.atV V i)).mt.main.page, .int .i64 (readPg (Sp.atV V i)).mt.main.count, .int .i64 (readPg (Sp.atV V i)).mt.main.flags, .int .i64 (readPg (Sp.atV V i)).mt.free, .int .i64 (readPg (Sp.atV V i)).mt.last])).at14
  have hge : w.heap.size ≤ W2.heap.size := HAL2.out.size
  have hb4 : Below w.heap.size w (w3.setRow w.heap.size (pageV (readPg (Sp.atV V i)) r).toArray) := below_setRow (HAL2.out.trans (hb3.mono hge)) (Nat.le_refl _) _
  refine bodyPost_ret (v := .tuple #[.agg (pageV (readPg (Sp.atV V i)) r).toArray, readE (Sp.atV V i)]) (by simp [results, Tryz.results133, go_sem, pageV, mtV, z0, z1, z2, z3, z4, z5, z6, z7, z8, z9, z10, z11, z12, z13]) rfl ⟨r, by rw [readV_is], fun M hM => ?_, hb4⟩
  have hz2 : w.heap.size < W2.heap.size := HZ2.out.lt
  have h1 := hr (fun k => M k ∨ k = w.heap.size) (fun k hk => by
    rintro (h | h)
    · exact hM k (by omega) h
    · omega)
  exact (h1.chg ((chg_setRow0 w3 w.heap.size _).mono (fun k _ h => .inr h))).anti (fun k h => .inl h)
end Go.Proofs.YtmcpkhknjdiocaaGreatDoor
namespace Go.Proofs.YtmcpkhknjdiocaaGreatDoor
open Go.RowKit Go.WideShapes Go.ChangeShapes Go.Deep
theorem addr_of {w : World} {a : Addr} {u : Value} (h : w.cell? (a.add 0) = some u) : ∃ b off, a = ⟨b, off, none⟩ ∧ b < w.heap.size := by
  obtain ⟨b, off, spot⟩ := a
  have hspot : spot = none := by simpa [Addr.add] using World.cell?_spot h
  subst hspot
  refine ⟨b, off, rfl, ?_⟩
  have := block_lt_of_cell h
  simpa [Go.WideShapes.add_plain] using this
section
variable {H : Type} {enc : TypeId × Value → H} {w : World} {base : Nat} {spare : Nat → Bool} {held : Bool}
end
end Go.Proofs.YtmcpkhknjdiocaaGreatDoor
namespace Go.Proofs.YtmcpkhknjdiocaaGreatDoor
open Go.RowKit Go.WideShapes Go.ChangeShapes Go.Deep
def u8v (n : Nat) : Value := .int .u8 (n : Int)
/-- A slice that reads as numbers of a byte. -/
abbrev U8s (w : World) (A : Option Addr) (l : List Nat) : Prop := Row w NoM A (l.map u8v)
theorem U8s.at_ {w : World} {A : Option Addr} {l : List Nat} (h : U8s w A l) {j : Nat} (hj : j < l.length) : ∃ b off, A = some ⟨b, off, none⟩ ∧ b < w.heap.size ∧ ∀ j, j < l.length → w.cell? ⟨b, off + j, none⟩ = some (.int .u8 ((l.getD j 0 : Nat) : Int)) := by
  obtain ⟨b, off, e, hb, _, hc⟩ := Row.open_ h (by rw [List.length_map]; omega)
  refine ⟨b, off, e, hb, fun i hi => hc i _ ?_⟩
  rw [List.getElem?_map, List.getElem?_eq_getElem hi]
  simp [u8v, List.getD, hi]
section
variable {H : Type} {enc : TypeId × Value → H} {w : World} {base : Nat} {held : Bool}
set_option maxRecDepth 100000 in
theorem open_u8s {r : Reach} {b0 : Nat} {v : Value} {d : DataW H} {ps : List MemPlace} (hv : Value.okWide Tryz.prog w r b0 72 v) (h : DataW.Trod enc Tryz.prog w base (fun _ => true) held 72 v d ps) :
    ∃ (l : List Nat) (A : Option Addr) (c : Nat), v = .slice A l.length c ∧ U8s w A l ∧ ∀ k ∈ l, k < 256 := by
  obtain ⟨a, n, c, rfl⟩ := okWide_slice Tryz.underlying72 hv
  obtain ⟨fuel, hf⟩ := h
  rcases open_ints Tryz.underlying72 Tryz.underlying5 (by kernel_rfl) hf with ⟨hc, _⟩ | ⟨a', len, cap, zs, hc, _, hl, hm, hz, _, hcell, hwf⟩
  · simp only [Value.cells, List.cons.injEq, and_true] at hc
    exact ⟨[], none, 0, hc, Row.nil_, by simp⟩
  · simp only [Value.cells, List.cons.injEq, and_true] at hc
    unfold maxLen at hm
    simp only [if_true] at hz
    have hb : ∀ n ∈ zs, 0 ≤ n ∧ n < 256 := fun n hn => by have := bounds_u8 (hwf n hn); omega
    have hll : ((zs.take len).map Int.toNat).length = len := by simp; omega
    refine ⟨(zs.take len).map Int.toNat, some a', cap, by rw [hc, hll], ⟨by rw [List.length_map, hll]; omega, ?_⟩, fun k hk => ?_⟩
    · rcases Nat.eq_zero_or_pos len with h0 | h0
      · left; rw [h0]; rfl
      · right
        obtain ⟨b, off, rfl, hbl⟩ := addr_of (hcell 0 (by omega))
        refine ⟨b, off, rfl, hbl, id, fun j u hu => ?_⟩
        have hj : j < len := by
          have := (List.getElem?_eq_some_iff.1 hu).1
          rw [List.length_map, hll] at this
          exact this
        have h1 := hcell j (by omega)
        rw [Go.WideShapes.add_plain] at h1
        rw [h1]
        have hjz : j < zs.length := by omega
        have hz0 := hb zs[j] (List.getElem_mem hjz)
        have e : ((zs.take len).map Int.toNat)[j]? = some (zs[j].toNat) := by rw [List.getElem?_map, List.getElem?_take, if_pos hj, List.getElem?_eq_getElem hjz]; rfl
        rw [List.getElem?_map, e] at hu
        have hu : u8v zs[j].toNat = u := by simpa using hu
        rw [← hu]
        have e2 : zs.getD j 0 = zs[j] := by simp [List.getD, hjz]
        rw [e2]
        unfold u8v
        rw [Int.toNat_of_nonneg hz0.1]
    · obtain ⟨n, hn, rfl⟩ := List.mem_map.1 hk
      have := hb n (List.mem_of_mem_take hn)
      omega
end
end Go.Proofs.YtmcpkhknjdiocaaGreatDoor
namespace Go.Proofs.YtmcpkhknjdiocaaGreatDoor
open Go.RowKit
section
variable {P : Program} {ops : Array Oper} {Q : Exit → Act → World → Prop} {md : Region.Mode} {C : World → Prop} {last : Nat}
def edgeB (md : Region.Mode) (ops : Array Oper) (i j : Nat) : Bool := match ops[j]? with | none => false | some oj => oj.after.any fun e => Region.binds md e && e.on == i
theorem edgeB_spec {i j : Nat} (h : edgeB md ops i j = true) : ∃ oj, ops[j]? = some oj ∧ ∃ e ∈ oj.after, Region.binds md e = true ∧ e.on = i := by
  unfold edgeB at h
  cases ho : ops[j]? with
  | none => rw [ho] at h; cases h
  | some oj =>
    rw [ho] at h
    obtain ⟨e, he, h3⟩ := Array.any_eq_true'.1 h
    rw [Bool.and_eq_true] at h3
    exact ⟨oj, rfl, e, he, h3.1, by simpa using h3.2⟩
/-- A way from an operation to the last one. -/
def chainB (md : Region.Mode) (ops : Array Oper) (last : Nat) : Nat → List Nat → Bool
  | _, [] => false
  | i, j :: l => edgeB md ops i j && (match l with | [] => j == last | _ :: _ => chainB md ops last j l)
/-- What is listed has all that it waits for listed. -/
def Shut (md : Region.Mode) (ops : Array Oper) (listed : Array Bool) : Prop := ∀ (j : Nat) (oj : Oper), ops[j]? = some oj → listed.getD j false = true → ∀ e ∈ oj.after, Region.binds md e = true → listed.getD e.on false = true
def shutB (md : Region.Mode) (ops : Array Oper) (listed : Array Bool) : Bool := (List.range listed.size).all fun j => !listed.getD j false || (match ops[j]? with | none => true | some oj => oj.after.all fun e => !Region.binds md e || listed.getD e.on false)
theorem shutB_spec {listed : Array Bool} (h : shutB md ops listed = true) : Shut md ops listed := by
  intro j oj hj hl e he hb
  have hjs : j < listed.size := by
    rcases Nat.lt_or_ge j listed.size with h' | h'
    · exact h'
    · simp [Array.getElem?_eq_none h'] at hl
  have h1 := (List.all_eq_true.1 h) j (List.mem_range.2 hjs)
  rw [hl, hj] at h1
  have h2 : (oj.after.all fun e => !Region.binds md e || listed.getD e.on false) = true := by simpa using h1
  have h3 := (Array.all_eq_true_iff_forall_mem.1 h2) e he
  rw [hb] at h3
  simpa using h3
theorem Shut.step {listed : Array Bool} {j : Nat} (h : Shut md ops listed) (hj : j ∈ Region.ready md ops listed) : Shut md ops (listed.setIfInBounds j true) := by
  obtain ⟨hjun, oj, hoj, hall⟩ := mem_ready.1 hj
  intro k ok hk hl e he hb
  by_cases hjk : j = k
  · subst hjk
    obtain rfl : oj = ok := Option.some.inj (hoj.symm.trans hk)
    exact getD_set_true (hall e he hb)
  · rw [getD_set_ne false hjk] at hl
    exact getD_set_true (h k ok hk hl e he hb)
theorem chain_late : ∀ {l : List Nat} {i : Nat} {listed : Array Bool}, chainB md ops last i l = true → Shut md ops listed → listed.getD i false = false → last ∉ Region.ready md ops listed ∧ (listed.getD last false = false)
  | [], _, _, h, _, _ => by cases h
  | j :: [], i, listed, h, hs, hi => by
    unfold chainB at h
    rw [Bool.and_eq_true] at h
    obtain ⟨oj, hoj, e, he, hb, rfl⟩ := edgeB_spec h.1
    have hjl : j = last := by simpa using h.2
    subst hjl
    refine ⟨fun hr => ?_, ?_⟩
    · obtain ⟨_, o', ho', hall⟩ := mem_ready.1 hr
      obtain rfl : oj = o' := Option.some.inj (hoj.symm.trans ho')
      rw [hall e he hb] at hi
      cases hi
    · cases hl : listed.getD j false with
      | false => rfl
      | true =>
        rw [hs j oj hoj hl e he hb] at hi
        cases hi
  | j :: k :: l, i, listed, h, hs, hi => by
    unfold chainB at h
    rw [Bool.and_eq_true] at h
    obtain ⟨oj, hoj, e, he, hb, rfl⟩ := edgeB_spec h.1
    refine chain_late h.2 hs ?_
    cases hl : listed.getD j false with
    | false => rfl
    | true =>
      rw [hs j oj hoj hl e he hb] at hi
      cases hi
theorem wpIn_first2 {i : Nat} {oi : Oper} {v : Value} {l : List Nat} (hi : ops[i]? = some oi) (hsel : ∀ (j : Nat) (o : Oper) cs b, ops[j]? = some o → o.op ≠ .select cs b) (hil : i ≠ last) (hch : chainB md ops last i l = true)
    (hQ : ∀ c a w, Q (.panic c) (a.put oi.dst v) w → Q (.panic c) a w) :
    ∀ (fuel : Nat) (listed : Array Bool) (a : Act) (w : World),
      (∀ j oj, ops[j]? = some oj → j ≠ i → listed.getD j true = false → (∀ e ∈ oj.after, Region.binds md e = true → e.on ≠ i) → oi.apart ops oj = true) → Shut md ops listed →
      i ∈ Region.ready md ops listed → listed.getD last false = false → C w → YieldsC P ops C oi v a →
      wpIn P md ops last C Q fuel (listed.setIfInBounds i true) (a.put oi.dst v) w → wpIn P md ops last C Q (fuel + 1) listed a w := by
  intro fuel
  induction fuel with
  | zero =>
    intro listed a w _ _ hr hll hC hy H
    refine ⟨fun _ => hC, fun h => (by rw [h] at hr; cases hr), fun j hj => ?_⟩
    by_cases hji : j = i
    · subst hji; exact hy.wpOp hi hC H
    · have := ready_mono hj hji
      rw [H.2.1] at this
      cases this
  | succ fuel ih =>
    intro listed a w hfree hsh hr hll hC hy H
    refine ⟨fun _ => hC, fun h => (by rw [h] at hr; cases hr), fun j hj => ?_⟩
    by_cases hji : j = i
    · subst hji; exact hy.wpOp hi hC H
    · have h1 := H.2.2 j (ready_mono hj hji)
      obtain ⟨hjun, oj, hoj, hall⟩ := mem_ready.1 hj
      have h0 := (mem_ready.1 hr).1
      have hif : listed.getD i false = false := by
        rcases Nat.lt_or_ge i listed.size with h' | h'
        · simp [h'] at h0 ⊢; exact h0
        · simp [Array.getElem?_eq_none h'] at h0
      have hnot : ∀ e ∈ oj.after, Region.binds md e = true → e.on ≠ i := fun e he hb heq => by
        have h1 := hall e he hb
        rw [heq, hif] at h1
        cases h1
      have hjl : j ≠ last := fun e => by
        subst e
        exact (chain_late hch hsh hif).1 hj
      have hll' : (listed.setIfInBounds j true).getD last false = false := by rw [getD_set_ne false hjl]; exact hll
      have hll2 : ((listed.setIfInBounds i true).setIfInBounds j true).getD last false = false := by rw [getD_set_ne false hjl, getD_set_ne false hil]; exact hll
      have h2 := wpOp_putC hoj (hfree j oj hoj hji hjun hnot) (fun cs b => hsel i oi cs b hi) (fun cs b => hsel j oj cs b hoj) hQ hy h1
      have hfree' : ∀ k ok, ops[k]? = some ok → k ≠ i → (listed.setIfInBounds j true).getD k true = false →
          (∀ e ∈ ok.after, Region.binds md e = true → e.on ≠ i) → oi.apart ops ok = true := fun k ok hk hki hun hno => by
        refine hfree k ok hk hki ?_ hno
        by_cases hjk : j = k
        · subst hjk; exact hjun
        · rw [getD_set_ne true hjk] at hun; exact hun
      refine wpOp_mono (fun a' w' h3 => ih (listed.setIfInBounds j true) a' w' hfree' (hsh.step hj) (ready_mono hr (Ne.symm hji)) hll' (wpIn.cls h3.2 hll2) h3.1 ?_) h2
      rw [Array.setIfInBounds_comm _ _ hji]
      exact h3.2
/-- One that reads is taken first: the last one waits for it by way of others. -/
theorem wpIn_takeV (i : Nat) (l : List Nat) {oi : Oper} (v : Value) {fuel : Nat} {listed : Array Bool} {a : Act} {w : World} (hi : ops[i]? = some oi)
    (hs : Region.noSelect ops = true) (hf : Region.free md ops listed i = true) (hr : (Region.ready md ops listed).contains i = true) (hne : (i != last) = true) (hch : chainB md ops last i l = true) (hsh : shutB md ops listed = true) (hll : listed.getD last false = false)
    (hw : Region.wanted oi (yielded ops a.tmps) = true) (hQ : ∀ c a w, Q (.panic c) (a.put oi.dst v) w → Q (.panic c) a w) (hC : C w) (hy : ∀ w, C w → (execOp a.eval oi).run P w = .ok (.value v) w)
    (h : wpIn P md ops last C Q fuel (listed.setIfInBounds i true) (a.put oi.dst v) w) : wpIn P md ops last C Q (fuel + 1) listed a w :=
  wpIn_first2 hi (Region.noSelect_spec hs) (by simpa using hne) hch hQ fuel listed a w (Region.free_spec hi hf) (shutB_spec hsh) (by simpa using hr) hll hC (.inl ⟨hw, hy⟩) h
end
end Go.Proofs.YtmcpkhknjdiocaaGreatDoor
namespace Go.Proofs.YtmcpkhknjdiocaaGreatDoor
open Go.RowKit
attribute [local go_sem low] mk_extract
attribute [local go_sem] After.cell After.frozen mk_extract_end ByteArray.mk_append_mk
theorem is_typeOf (v : Value) (w : World) : (Extern.ReflectliteType.typeOf #[.iface ErrT v]).run Tryz.prog w = .ok (.iface 209 (.agg #[typeHandle Tryz.prog ErrT])) w := by kernel_rfl
theorem is_comparable (w : World) : ((Extern.ReflectliteType.method fun t => do Extern.Rtype.noPackHeld "Comparable" t; (fun a => Value.bool a.comparable) <$> typeInfo t) #[.agg #[typeHandle Tryz.prog ErrT]]).run Tryz.prog w = .ok (.bool true) w := by kernel_rfl
theorem is_method (v : Value) (w : World) : (Go.method 168 209 v "Comparable").run Tryz.prog w = .ok (234, v) w := by kernel_rfl
theorem is_comp : (Tryz.prog.info? ErrT).map (·.comparable) = some true := by kernel_rfl
set_option maxRecDepth 100000 in
set_option maxHeartbeats 1600000 in
theorem errIs_same (a : Int) (w : World) : Calls Tryz.prog 64 #[.iface ErrT (.int .i64 a), .iface ErrT (.int .i64 a)] w fun e w' => e = .returned (.bool true) ∧ w' = w := by
  have h8 := @run_callFunc_extern Tryz.prog 94 _ Extern.ReflectliteType.typeOf Tryz.func94 (by kernel_rfl) (by kernel_rfl) (by kernel_rfl) (by kernel_rfl)
  have h32 := @run_callFunc_extern Tryz.prog 234 _ (Extern.ReflectliteType.method fun t => do Extern.Rtype.noPackHeld "Comparable" t; pure (.bool (← typeInfo t).comparable)) Tryz.func234 (by kernel_rfl) (by kernel_rfl) (by kernel_rfl) (by kernel_rfl)
  have tT := is_typeOf
  have cT := is_comparable
  have mR := is_method
  have heq : (binOp .eql 51 (.iface ErrT (.int .i64 a)) (.iface ErrT (.int .i64 a))).run Tryz.prog w = .ok (.bool true) w := by
    have h := Lib.run_eql_iface_int (P := Tryz.prog) (k := .i64) w a a Tryz.underlying51 is_comp Tryz.underlying120
    simpa using h
  go_enter Tryz.func64, Tryz.ntmps64
  go_wp2
  refine wp_loop_rounds 1 ?_
  rw [rounds_succ]
  go_wp2
  go_ret
  exact ⟨rfl, rfl⟩
end Go.Proofs.YtmcpkhknjdiocaaGreatDoor
