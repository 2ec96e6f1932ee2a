/- The document's put into a leaf. The document's put: at a leaf. -/
import Derived.Test.YtlpmjeiogdlifaaGreatQB30
import Derived.BigQuiet
set_option linter.unusedSimpArgs false
set_option linter.unusedVariables false
namespace Go.Proofs.YtlpmjeiogdlifaaGreat
open Go.RowKit
attribute [local go_sem low] mk_extract
attribute [local go_sem] After.cell After.frozen mk_extract_end ByteArray.mk_append_mk
attribute [local go_sem] itemV_len item_fold
set_option maxRecDepth 100000 in
set_option maxHeartbeats 3200000 in
theorem putLeaf_any (s : Nat) (fp : Value) (P : List Sp.Page) (i n : Nat) (l0 : List Sp.Item) (x : Sp.Item) (V : Option Addr) (c : Nat) (r : Refs) (b : Bool) (w : World) (h : StF w s fp P) (hp : PageRd w (OneM s) (Sp.leafPg l0) r) (hV : Txts w (OneM s) V x.vals)
    (hx : Sp.isItem x = true) (hok : Sp.T.Ok 0 b (i + 2, l0)) (hon : Sp.T.On P 0 (i + 2, l0) n) (hn : (Sp.T.put x 0 (i + 2, l0) n).2.2 ≤ 122) :
    Calls Tryz.prog 147 #[.pointer (some ⟨s, 0, none⟩), .int .i64 ((i : Int) + 2), .agg (pageV (Sp.leafPg l0) r).toArray, .agg (itemV x V c).toArray] w fun e w' =>
      e = .returned (.tuple #[.int .i64 ((i : Int) + 2), .int .i64 (Sp.moreId 0 (Sp.T.put x 0 (i + 2, l0) n).2.1 : Nat), .string ⟨(Sp.moreKey (Sp.T.put x 0 (i + 2, l0) n).2.1).toArray⟩, .int .i64 0]) ∧
      ∃ P', StF w' s fp P' ∧ Sp.PutRes P P' 0 (i + 2, l0) n (Sp.T.put x 0 (i + 2, l0) n) ∧ Chg (OneM s) w w' := by
  obtain ⟨i0, hi0, hz0, hz1, hz2⟩ := info_parts info_item
  obtain ⟨j1, j2, j3⟩ := Sp.put_join0 hx hok hon (by omega)
  have hl4 : l0.length ≤ 4 := hok.1
  have hidn : i + 2 < n := hon.lt (i + 2) (by simp [Sp.T.ids])
  have hlen := hon.len
  have hl1 : 1 ≤ l0.length := by
    have := hok.2.1
    split at this <;> exact Nat.le_trans (by decide) this
  have hle : n ≤ (Sp.T.put x 0 (i + 2, l0) n).2.2 := by
    by_cases hs : (Sp.insIt x l0).length ≤ 4
    · exact (j2 hs).2.1.le
    · exact (j3 hs).2.2.1.le
  have hal : Below w.heap.size w ((w.alloc (.cells (pageV (Sp.leafPg l0) r).toArray PageT)).alloc (.cells (itemV x V c).toArray ItemT)) := ((Below.refl _ _).alloc (Nat.le_refl _) _).alloc (by simp) _
  have hD : PlS w ((w.alloc (.cells (pageV (Sp.leafPg l0) r).toArray PageT)).alloc (.cells (itemV x V c).toArray ItemT)) s w.heap.size fp P l0 r x V c :=
    ⟨h.go hal, (Blk.new _ _ _).alloc _, by have := Blk.new (w.alloc (.cells (pageV (Sp.leafPg l0) r).toArray PageT)) ItemT (itemV x V c).toArray; rwa [World.size_alloc] at this, hp.go hal, hV.go hal, hal⟩
  have J2 := Lib.hid j2
  have J3 := Lib.hid j3
  have HN := Lib.hid hn
  clear h hp hV hal j2 j3 hok hon hn
  go_enter Tryz.func147, Tryz.ntmps147
  go_upto_region 1 with fail
  refine wp_gen (fun W => PlS w W s w.heap.size fp P l0 r x V c) hD ?_
  clear hD
  intro w0 D
  have hsw : s < w0.heap.size := by
    obtain ⟨_, _, h, _⟩ := D.st
    exact h.bs.lt
  have hbw : w.heap.size + 1 < w0.heap.size := D.bx.lt
  have c1 : w0.cell? ⟨w.heap.size, 1, none⟩ = some (.slice r.I l0.length r.i) := D.bp.cell 1
  have e0 : w0.cell? ⟨w.heap.size + 1, 0, none⟩ = some (.string ⟨x.key.toArray⟩) := D.bx.cell 0
  have HIT := Lib.hid (show Items w0 (OneM s) r.I l0 from D.pr.items)
  have D := Lib.hid D
  go_upto_region 10 with fail
  go_loopw [12, 13, 14] (fun lv dv iv wr => ∃ (k : Nat) (L : List Sp.Item) (dn : Bool), k ≤ l0.length ∧ L.length ≤ k + dn.toNat ∧ iv = .int .i64 (k : Int) ∧ dv = .bool dn ∧ Hid (Sp.LfOk x l0 k L dn) ∧ Hid (LfW w0 wr s L lv)) (fun _ _ iv _ => l0.length - (intOf iv).toNat)
  case atStart => exact ⟨0, [], false, by omega, by simp, rfl, rfl, Lib.hid (Sp.LfOk.start x l0), Lib.hid (LfW.start w0 s)⟩
  case round =>
    obtain ⟨k, L, dn, hk, hLk, rfl, rfl, hlf, R⟩ := hrel
    have HXV := Lib.hid D.out.xv
    by_cases hlt : k < l0.length
    · obtain ⟨ib, io, hA, hib, hit⟩ := HIT.out.at_ hlt
      obtain ⟨V', c', hi', ht'⟩ := hit k hlt
      have c1k : w0.cell? ⟨w.heap.size, 1, none⟩ = some (.slice (some ⟨ib, io, none⟩) l0.length r.i) := hA ▸ c1
      have HY0 := Lib.hid hi'
      have HT := Lib.hid ht'
      have hb := R.out.hb
      have HBX := Lib.hid (D.out.bx.below hb hbw)
      have HY := Lib.hid (HY0.out.keep fun j => hb.cell (p := ⟨ib, j, none⟩) hib)
      have c1r : wr.cell? ⟨w.heap.size, 1, none⟩ = some (.slice (some ⟨ib, io, none⟩) l0.length r.i) := (hb.cell (p := ⟨w.heap.size, 1, none⟩) (show w.heap.size < w0.heap.size by omega)).trans c1k
      have y0 : wr.cell? ⟨ib, io + k * 10, none⟩ = some (.string ⟨(l0.getD k Sp.item0).key.toArray⟩) := HY.out.c0
      have e0r := (hb.cell (p := ⟨w.heap.size + 1, 0, none⟩) hbw).trans e0
      have hz := hb.size
      clear hit hi' ht'
      rcases dn with _ | _
      · simp only [Bool.toNat_false] at hLk
        rcases hq : Sp.lt (l0.getD k Sp.item0).key x.key with _ | _
        · by_cases he : (l0.getD k Sp.item0).key = x.key
          · have hq1 : Op.bytesLess (l0.getD k Sp.item0).key x.key = false := hq
            have he1 : ((l0.getD k Sp.item0).key == x.key) = true := beq_iff_eq.2 he
            have HN2 := Lib.hid (hlf.out.same hlt hq he)
            clear hq he
            generalize l0.getD k Sp.item0 = y at *
            go_upto_region 6 with fail
            go_quiet (fail)
            go_upto_region 7 with fail
            refine wp_gen (fun W => LfW w0 W s _ _) (R.out.go (below_drewN (Below.refl _ _) _)) ?_
            intro wq hR
            have Rq := Lib.hid hR
            clear hR c1r y0 e0r HY HBX hb hz
            have hbq := Rq.out.hb
            have HBXq := Lib.hid (D.out.bx.below hbq hbw)
            have HYq := Lib.hid (HY0.out.keep fun j => hbq.cell (p := ⟨ib, j, none⟩) hib)
            have c1rq : wq.cell? ⟨w.heap.size, 1, none⟩ = some (.slice (some ⟨ib, io, none⟩) l0.length r.i) := (hbq.cell (p := ⟨w.heap.size, 1, none⟩) (show w.heap.size < w0.heap.size by omega)).trans c1k
            have y0q : wq.cell? ⟨ib, io + k * 10, none⟩ = some (.string ⟨y.key.toArray⟩) := HYq.out.c0
            have e0rq := (hbq.cell (p := ⟨w.heap.size + 1, 0, none⟩) hbw).trans e0
            have hzq := hbq.size
            go_wp2_with (first
              | (refine wpList_row ItemT _ rfl (w.heap.size + 1) rfl rfl ItemT _ (0, 0) _ HBXq.out Tryz.underlying45 rfl (by kernel_rfl) ?_)
              | (at_builtin; obtain ⟨xs, hown, hix⟩ := Rq.out.own; refine wpList_append_own _ rfl (.tmp 39) (.tmp 41) 36 rfl w0.heap.size ItemT i0 _ 10 112 Tryz.underlying36 hi0 hz0 hz1 hz2 rfl (by decide) _ L.length xs rfl ?c1 ⟨wq.heap.size, 0, none⟩ 1 1 (itemV x V c) rfl rfl ?c2 (itemV_one _ _ _) ?c3 ?c4 ?c5 ?_))
            case c1 => exact own_chg2 (S := NoM) hown ((Chg.refl _ _).alloc _) (fun _ _ h => h)
            case c2 => exact cells_new _ _ _
            case c3 => (simp only [maxLen, List.length_append, List.length_cons, List.length_nil]; omega)
            case c4 => ((try simp only [List.length_append, List.length_cons, List.length_nil]); omega)
            case c5 => (rw [World.size_alloc]; omega)
            intro v2 w2 hown2 hgr2 _
            have R2 := Lib.hid (Rq.out.app hown hix HXV.out hown2 (by simp) hgr2)
            clear hown hix hown2 hgr2
            go_upto_region 8 with fail
            have hb2 := R2.out.hb
            have HBX2 := Lib.hid (D.out.bx.below hb2 hbw)
            have HY2 := Lib.hid (HY0.out.keep fun j => hb2.cell (p := ⟨ib, j, none⟩) hib)
            have c1r2 : w2.cell? ⟨w.heap.size, 1, none⟩ = some (.slice (some ⟨ib, io, none⟩) l0.length r.i) := (hb2.cell (p := ⟨w.heap.size, 1, none⟩) (show w.heap.size < w0.heap.size by omega)).trans c1k
            have y02 : w2.cell? ⟨ib, io + k * 10, none⟩ = some (.string ⟨y.key.toArray⟩) := HY2.out.c0
            have e0r2 := (hb2.cell (p := ⟨w.heap.size + 1, 0, none⟩) hbw).trans e0
            have hz2 := hb2.size
            go_quiet (fail)
            go_upto_region 5 with fail
            refine wp_gen (fun W => LfW w0 W s _ _) (R2.out.go (below_drewN (Below.refl _ _) _)) ?_
            intro w4 hR
            have R4 := Lib.hid hR
            clear hR c1r2 y02 e0r2 HY2 HBX2 hb2 hz2
            have hb4 := R4.out.hb
            have HBX4 := Lib.hid (D.out.bx.below hb4 hbw)
            have HY4 := Lib.hid (HY0.out.keep fun j => hb4.cell (p := ⟨ib, j, none⟩) hib)
            have c1r4 : w4.cell? ⟨w.heap.size, 1, none⟩ = some (.slice (some ⟨ib, io, none⟩) l0.length r.i) := (hb4.cell (p := ⟨w.heap.size, 1, none⟩) (show w.heap.size < w0.heap.size by omega)).trans c1k
            have y04 : w4.cell? ⟨ib, io + k * 10, none⟩ = some (.string ⟨y.key.toArray⟩) := HY4.out.c0
            have e0r4 := (hb4.cell (p := ⟨w.heap.size + 1, 0, none⟩) hbw).trans e0
            have hz4 := hb4.size
            go_wp2_with fail
            go_roundw
            case rel => exact ⟨k + 1, L ++ [x], true, by omega, by simp; omega, by go_num, rfl, HN2.out, R4⟩
            case measure => simp [intOf]; omega
          · have hq1 : Op.bytesLess (l0.getD k Sp.item0).key x.key = false := hq
            have he1 : ((l0.getD k Sp.item0).key == x.key) = false := beq_eq_false_iff_ne.2 he
            have HN2 := Lib.hid (hlf.out.here hlt hq he)
            clear hq he
            generalize l0.getD k Sp.item0 = y at *
            go_upto_region 6 with fail
            go_quiet (fail)
            go_upto_region 7 with fail
            refine wp_gen (fun W => LfW w0 W s _ _) (R.out.go (below_drewN (Below.refl _ _) _)) ?_
            intro wq hR
            have Rq := Lib.hid hR
            clear hR c1r y0 e0r HY HBX hb hz
            have hbq := Rq.out.hb
            have HBXq := Lib.hid (D.out.bx.below hbq hbw)
            have HYq := Lib.hid (HY0.out.keep fun j => hbq.cell (p := ⟨ib, j, none⟩) hib)
            have c1rq : wq.cell? ⟨w.heap.size, 1, none⟩ = some (.slice (some ⟨ib, io, none⟩) l0.length r.i) := (hbq.cell (p := ⟨w.heap.size, 1, none⟩) (show w.heap.size < w0.heap.size by omega)).trans c1k
            have y0q : wq.cell? ⟨ib, io + k * 10, none⟩ = some (.string ⟨y.key.toArray⟩) := HYq.out.c0
            have e0rq := (hbq.cell (p := ⟨w.heap.size + 1, 0, none⟩) hbw).trans e0
            have hzq := hbq.size
            go_wp2_with (first
              | (refine wpList_row ItemT _ rfl (w.heap.size + 1) rfl rfl ItemT _ (0, 0) _ HBXq.out Tryz.underlying45 rfl (by kernel_rfl) ?_)
              | (at_builtin; obtain ⟨xs, hown, hix⟩ := Rq.out.own; refine wpList_append_own _ rfl (.tmp 39) (.tmp 41) 36 rfl w0.heap.size ItemT i0 _ 10 112 Tryz.underlying36 hi0 hz0 hz1 hz2 rfl (by decide) _ L.length xs rfl ?c1 ⟨wq.heap.size, 0, none⟩ 1 1 (itemV x V c) rfl rfl ?c2 (itemV_one _ _ _) ?c3 ?c4 ?c5 ?_))
            case c1 => exact own_chg2 (S := NoM) hown ((Chg.refl _ _).alloc _) (fun _ _ h => h)
            case c2 => exact cells_new _ _ _
            case c3 => (simp only [maxLen, List.length_append, List.length_cons, List.length_nil]; omega)
            case c4 => ((try simp only [List.length_append, List.length_cons, List.length_nil]); omega)
            case c5 => (rw [World.size_alloc]; omega)
            intro v2 w2 hown2 hgr2 _
            have R2 := Lib.hid (Rq.out.app hown hix HXV.out hown2 (by simp) hgr2)
            clear hown hix hown2 hgr2
            go_upto_region 8 with fail
            have hb2 := R2.out.hb
            have HBX2 := Lib.hid (D.out.bx.below hb2 hbw)
            have HY2 := Lib.hid (HY0.out.keep fun j => hb2.cell (p := ⟨ib, j, none⟩) hib)
            have c1r2 : w2.cell? ⟨w.heap.size, 1, none⟩ = some (.slice (some ⟨ib, io, none⟩) l0.length r.i) := (hb2.cell (p := ⟨w.heap.size, 1, none⟩) (show w.heap.size < w0.heap.size by omega)).trans c1k
            have y02 : w2.cell? ⟨ib, io + k * 10, none⟩ = some (.string ⟨y.key.toArray⟩) := HY2.out.c0
            have e0r2 := (hb2.cell (p := ⟨w.heap.size + 1, 0, none⟩) hbw).trans e0
            have hz2 := hb2.size
            go_quiet (fail)
            go_upto_region 9 with fail
            refine wp_gen (fun W => LfW w0 W s _ _) (R2.out.go (below_drewN (Below.refl _ _) _)) ?_
            intro w4 hR
            have R4 := Lib.hid hR
            clear hR c1r2 y02 e0r2 HY2 HBX2 hb2 hz2
            have hb4 := R4.out.hb
            have HBX4 := Lib.hid (D.out.bx.below hb4 hbw)
            have HY4 := Lib.hid (HY0.out.keep fun j => hb4.cell (p := ⟨ib, j, none⟩) hib)
            have c1r4 : w4.cell? ⟨w.heap.size, 1, none⟩ = some (.slice (some ⟨ib, io, none⟩) l0.length r.i) := (hb4.cell (p := ⟨w.heap.size, 1, none⟩) (show w.heap.size < w0.heap.size by omega)).trans c1k
            have y04 : w4.cell? ⟨ib, io + k * 10, none⟩ = some (.string ⟨y.key.toArray⟩) := HY4.out.c0
            have e0r4 := (hb4.cell (p := ⟨w.heap.size + 1, 0, none⟩) hbw).trans e0
            have hz4 := hb4.size
            go_wp2_with (first
              | (refine wpList_at ItemT _ rfl ib (io + k * 10) rfl rfl (itemV y V' c').toArray _ (fun j v hv => HY4.out.cells j v hv) Tryz.underlying45 rfl (by kernel_rfl) ?_)
              | (at_builtin; obtain ⟨xs, hown, hix⟩ := R4.out.own; refine wpList_append_own _ rfl (.tmp 52) (.tmp 58) 36 rfl w0.heap.size ItemT i0 _ 10 112 Tryz.underlying36 hi0 hz0 hz1 hz2 rfl (by decide) _ (L ++ [x]).length xs rfl ?c1 ⟨w4.heap.size, 0, none⟩ 1 1 (itemV y V' c') rfl rfl ?c2 (itemV_one _ _ _) ?c3 ?c4 ?c5 ?_))
            case c1 => exact own_chg2 (S := NoM) hown ((Chg.refl _ _).alloc _) (fun _ _ h => h)
            case c2 => exact cells_new _ _ _
            case c3 => (simp only [maxLen, List.length_append, List.length_cons, List.length_nil]; omega)
            case c4 => ((try simp only [List.length_append, List.length_cons, List.length_nil]); omega)
            case c5 => (rw [World.size_alloc]; omega)
            intro v3 w3 hown2 hgr2 _
            have R3 := Lib.hid (R4.out.app hown hix HT.out hown2 (by simp) hgr2)
            clear hown hix hown2 hgr2
            go_wp2_with fail
            go_roundw
            case rel => exact ⟨k + 1, L ++ [x] ++ [y], true, by omega, by simp; omega, by go_num, rfl, HN2.out, R3⟩
            case measure => simp [intOf]; omega
        · have hq1 : Op.bytesLess (l0.getD k Sp.item0).key x.key = true := hq
          have HN2 := Lib.hid (hlf.out.ahead hlt hq)
          clear hq
          generalize l0.getD k Sp.item0 = y at *
          go_upto_region 6 with fail
          go_quiet (fail)
          go_upto_region 9 with fail
          refine wp_gen (fun W => LfW w0 W s _ _) (R.out.go (below_drewN (Below.refl _ _) _)) ?_
          intro wq hR
          have Rq := Lib.hid hR
          clear hR c1r y0 e0r HY HBX hb hz
          have hbq := Rq.out.hb
          have HBXq := Lib.hid (D.out.bx.below hbq hbw)
          have HYq := Lib.hid (HY0.out.keep fun j => hbq.cell (p := ⟨ib, j, none⟩) hib)
          have c1rq : wq.cell? ⟨w.heap.size, 1, none⟩ = some (.slice (some ⟨ib, io, none⟩) l0.length r.i) := (hbq.cell (p := ⟨w.heap.size, 1, none⟩) (show w.heap.size < w0.heap.size by omega)).trans c1k
          have y0q : wq.cell? ⟨ib, io + k * 10, none⟩ = some (.string ⟨y.key.toArray⟩) := HYq.out.c0
          have e0rq := (hbq.cell (p := ⟨w.heap.size + 1, 0, none⟩) hbw).trans e0
          have hzq := hbq.size
          go_wp2_with (first
            | (refine wpList_at ItemT _ rfl ib (io + k * 10) rfl rfl (itemV y V' c').toArray _ (fun j v hv => HYq.out.cells j v hv) Tryz.underlying45 rfl (by kernel_rfl) ?_)
            | (at_builtin; obtain ⟨xs, hown, hix⟩ := Rq.out.own; refine wpList_append_own _ rfl (.tmp 52) (.tmp 58) 36 rfl w0.heap.size ItemT i0 _ 10 112 Tryz.underlying36 hi0 hz0 hz1 hz2 rfl (by decide) _ L.length xs rfl ?c1 ⟨wq.heap.size, 0, none⟩ 1 1 (itemV y V' c') rfl rfl ?c2 (itemV_one _ _ _) ?c3 ?c4 ?c5 ?_))
          case c1 => exact own_chg2 (S := NoM) hown ((Chg.refl _ _).alloc _) (fun _ _ h => h)
          case c2 => exact cells_new _ _ _
          case c3 => (simp only [maxLen, List.length_append, List.length_cons, List.length_nil]; omega)
          case c4 => ((try simp only [List.length_append, List.length_cons, List.length_nil]); omega)
          case c5 => (rw [World.size_alloc]; omega)
          intro v3 w3 hown2 hgr2 _
          have R3 := Lib.hid (Rq.out.app hown hix HT.out hown2 (by simp) hgr2)
          clear hown hix hown2 hgr2
          go_wp2_with fail
          go_roundw
          case rel => exact ⟨k + 1, L ++ [y], false, by omega, by simp; omega, by go_num, rfl, HN2.out, R3⟩
          case measure => simp [intOf]; omega
      · have HT0 := 0
        simp only [Bool.toNat_true] at hLk
        have HN2 := Lib.hid (hlf.out.behind hlt)
        clear HT0
        generalize l0.getD k Sp.item0 = y at *
        go_upto_region 6 with fail
        go_quiet (fail)
        go_upto_region 9 with fail
        refine wp_gen (fun W => LfW w0 W s _ _) (R.out.go (below_drewN (Below.refl _ _) _)) ?_
        intro wq hR
        have Rq := Lib.hid hR
        clear hR c1r y0 e0r HY HBX hb hz
        have hbq := Rq.out.hb
        have HBXq := Lib.hid (D.out.bx.below hbq hbw)
        have HYq := Lib.hid (HY0.out.keep fun j => hbq.cell (p := ⟨ib, j, none⟩) hib)
        have c1rq : wq.cell? ⟨w.heap.size, 1, none⟩ = some (.slice (some ⟨ib, io, none⟩) l0.length r.i) := (hbq.cell (p := ⟨w.heap.size, 1, none⟩) (show w.heap.size < w0.heap.size by omega)).trans c1k
        have y0q : wq.cell? ⟨ib, io + k * 10, none⟩ = some (.string ⟨y.key.toArray⟩) := HYq.out.c0
        have e0rq := (hbq.cell (p := ⟨w.heap.size + 1, 0, none⟩) hbw).trans e0
        have hzq := hbq.size
        go_wp2_with (first
          | (refine wpList_at ItemT _ rfl ib (io + k * 10) rfl rfl (itemV y V' c').toArray _ (fun j v hv => HYq.out.cells j v hv) Tryz.underlying45 rfl (by kernel_rfl) ?_)
          | (at_builtin; obtain ⟨xs, hown, hix⟩ := Rq.out.own; refine wpList_append_own _ rfl (.tmp 52) (.tmp 58) 36 rfl w0.heap.size ItemT i0 _ 10 112 Tryz.underlying36 hi0 hz0 hz1 hz2 rfl (by decide) _ L.length xs rfl ?c1 ⟨wq.heap.size, 0, none⟩ 1 1 (itemV y V' c') rfl rfl ?c2 (itemV_one _ _ _) ?c3 ?c4 ?c5 ?_))
        case c1 => exact own_chg2 (S := NoM) hown ((Chg.refl _ _).alloc _) (fun _ _ h => h)
        case c2 => exact cells_new _ _ _
        case c3 => (simp only [maxLen, List.length_append, List.length_cons, List.length_nil]; omega)
        case c4 => ((try simp only [List.length_append, List.length_cons, List.length_nil]); omega)
        case c5 => (rw [World.size_alloc]; omega)
        intro v3 w3 hown2 hgr2 _
        have R3 := Lib.hid (Rq.out.app hown hix HT.out hown2 (by simp) hgr2)
        clear hown hix hown2 hgr2
        go_wp2_with fail
        go_roundw
        case rel => exact ⟨k + 1, L ++ [y], true, by omega, by simp; omega, by go_num, rfl, HN2.out, R3⟩
        case measure => simp [intOf]; omega
    · obtain rfl : k = l0.length := by omega
      clear hlt
      have hb0 := R.out.hb
      have HBX0 := Lib.hid (D.out.bx.below hb0 hbw)
      have c1r : wr.cell? ⟨w.heap.size, 1, none⟩ = some (.slice r.I l0.length r.i) := (hb0.cell (p := ⟨w.heap.size, 1, none⟩) (show w.heap.size < w0.heap.size by omega)).trans c1
      have hz0w := hb0.size
      have hpos := (Sp.insIt_len x l0).1
      go_upto_region 10 with fail
      rcases dn with _ | _
      · simp only [Bool.toNat_false] at hLk
        go_upto_region 11 with fail
        go_wp2_with (first
          | (refine wpList_row ItemT _ rfl (w.heap.size + 1) rfl rfl ItemT _ (0, 0) _ HBX0.out Tryz.underlying45 rfl (by kernel_rfl) ?_)
          | (at_builtin; obtain ⟨xs, hown, hix⟩ := R.out.own; refine wpList_append_own _ rfl (.tmp 62) (.tmp 64) 36 rfl w0.heap.size ItemT i0 _ 10 112 Tryz.underlying36 hi0 hz0 hz1 hz2 rfl (by decide) _ L.length xs rfl ?c1 ⟨wr.heap.size, 0, none⟩ 1 1 (itemV x V c) rfl rfl ?c2 (itemV_one _ _ _) ?c3 ?c4 ?c5 ?_))
        case c1 => exact own_chg2 (S := NoM) hown ((Chg.refl _ _).alloc _) (fun _ _ h => h)
        case c2 => exact cells_new _ _ _
        case c3 => (simp only [maxLen, List.length_append, List.length_cons, List.length_nil]; omega)
        case c4 => ((try simp only [List.length_append, List.length_cons, List.length_nil]); omega)
        case c5 => (rw [World.size_alloc]; omega)
        intro v2 w6 hown2 hgr2 _
        have R2 := Lib.hid (R.out.app hown hix HXV.out hown2 (by simp) hgr2)
        clear hown hix hown2 hgr2
        go_upto_region 12 with fail
        have R6 := Lib.hid (show LfW w0 w6 s (Sp.insIt x l0) v2 from hlf.out.last.symm ▸ R2.out)
        clear R R2 hlf c1r HBX0 hb0 hz0w hLk HXV HIT hz2 c1 e0
        obtain ⟨g, cap, rfl, hg, hgW, hlc, hcm, hit⟩ := R6.out.row hsw (by omega) (by omega)
        have HST := Lib.hid (D.out.st.go R6.out.hb)
        have HCK := Lib.hid (D.out.hb.trans (R6.out.hb.mono D.out.hb.size))
        have HI6 := Lib.hid hit
        clear R6 D hit
        obtain ⟨vi, vp, hst, _⟩ := HST.out
        have hst6 := Lib.hid hst
        clear hst
        have hPn : P.length ≤ 120 := by have := HN.out; omega
        generalize hM : Sp.insIt x l0 = M at *
        by_cases hs : M.length ≤ 4
        · obtain ⟨k1, k2, k3⟩ := J2.out hs
          have hs' : ((M.length : Int) ≤ 4) := by omega
          have K1 := Lib.hid k1
          have K2 := Lib.hid k2
          have K3 := Lib.hid k3
          clear k1 k2 k3 J2 J3
          go_wp2_with (first
            | (go_at_call 149; refine (set_any s fp vi vp P i (Sp.leafPg M) (refsI (some ⟨g, 0, none⟩) cap) _ hst6.out (by omega) (by omega) (leafRd HI6.out cap) K1.out).mono ?_; rintro e w7 ⟨rfl, vp', hst7, hk7⟩)
            | (refine wpList_built rfl PageT _ rfl (pageV (Sp.leafPg M) (refsI (some ⟨g, 0, none⟩) cap)).toArray (by kernel_rfl) ?_))
          refine bodyPost_ret (v := .tuple #[.int .i64 ((i : Int) + 2), .int .i64 0, .string ⟨#[]⟩, .int .i64 0]) (by simp [results, Tryz.results147, go_sem]) rfl ⟨by rw [K3.out]; rfl, _, StF.of hst7 (fun e => by have h1 := congrArg List.length e; rw [List.length_set] at h1; simp only [List.length_nil] at h1; omega), K2.out, (Chg.of_below HCK.out).trans hk7⟩
        · obtain ⟨k1, k1', k2, k3, k4, k5⟩ := J3.out hs
          have hs' : ¬ ((M.length : Int) ≤ 4) := by omega
          have hM5 : M.length = 5 := by omega
          have ht3 : (M.take 3).length = 3 := by rw [List.length_take]; omega
          have hd3 : (M.drop 3).length = 2 := by rw [List.length_drop]; omega
          have K1 := Lib.hid k1
          have K1' := Lib.hid k1'
          have K2 := Lib.hid k2
          have K3 := Lib.hid k3
          have K4 := Lib.hid k4
          have K5 := Lib.hid k5
          have hc3 : ¬ cap = 3 := by omega
          have hc3' : 3 ≤ cap := by omega
          have hc5 : 5 ≤ cap := by omega
          have hnP : P.length < 120 := by have := HN.out; omega
          have hp1 := Lib.hid (show pageV (Sp.leafPg (M.take 3)) (refsI (some ⟨g, 0, none⟩) cap) = [.int .i64 1, .slice (some ⟨g, 0, none⟩) 3 cap, .slice none 0 0, .slice none 0 0, .string ⟨#[]⟩, .slice none 0 0, .slice none 0 0, .int .i64 0, .int .u64 0, .int .i64 0, .int .i64 0, .int .i64 0, .int .i64 0, .int .i64 0] by rw [leafV, ht3])
          have hp2 := Lib.hid (show pageV (Sp.leafPg (M.drop 3)) (refsI (some ⟨g, 30, none⟩) (cap - 3)) = [.int .i64 1, .slice (some ⟨g, 30, none⟩) 2 (cap - 3), .slice none 0 0, .slice none 0 0, .string ⟨#[]⟩, .slice none 0 0, .slice none 0 0, .int .i64 0, .int .u64 0, .int .i64 0, .int .i64 0, .int .i64 0, .int .i64 0, .int .i64 0] by rw [leafV, hd3])
          have hd : Items w6 (OneM s) (some ⟨g, 30, none⟩) (M.drop 3) := by have := HI6.out.drop 3; rwa [show 0 + 3 * 10 = 30 from rfl] at this
          have HD3 := Lib.hid hd
          have HM5 := Lib.hid hM5
          have hh : (((5 : Nat) : Int) + 1) / 2 = 3 := by decide
          clear k1 k1' k2 k3 k4 k5 J2 J3 hd ht3 hd3
          rw [hM5]
          clear hM5 hs hs'
          go_upto_region 15 with (go_at_call 150; refine (half_any 5 (by omega) (by omega) _).mono ?_; rintro e w2 ⟨rfl, rfl⟩)
          go_upto_region 18 with (first
            | (go_at_call 149; rw [← hp1.out]; refine (set_any s fp vi vp P i (Sp.leafPg (M.take 3)) (refsI (some ⟨g, 0, none⟩) cap) _ hst6.out (by omega) (by omega) (leafRd (HI6.out.take 3) cap) K1.out).mono ?_; rintro e w7 ⟨rfl, vp', hst7, hk7⟩)
            | (refine wpList_built rfl PageT _ rfl #[.int .i64 1, .slice (some ⟨g, 0, none⟩) 3 cap, .slice none 0 0, .slice none 0 0, .string ⟨#[]⟩, .slice none 0 0, .slice none 0 0, .int .i64 0, .int .u64 0, .int .i64 0, .int .i64 0, .int .i64 0, .int .i64 0, .int .i64 0] (by kernel_rfl) ?_))
          have hne7 : P.set i (Sp.leafPg (M.take 3)) ≠ [] := fun e => by have h1 := congrArg List.length e; rw [List.length_set] at h1; simp only [List.length_nil] at h1; omega
          have hls : (P.set i (Sp.leafPg (M.take 3))).length = P.length := List.length_set
          go_upto_region 19 with (first
            | (go_at_call 89; rw [← hp2.out]; refine (add_any s fp (P.set i (Sp.leafPg (M.take 3))) (Sp.leafPg (M.drop 3)) (refsI (some ⟨g, 30, none⟩) (cap - 3)) _ (StF.of hst7 hne7) (leafRd (HD3.out.chg hk7) _) K1'.out (by omega)).mono ?_; rintro e w8 ⟨rfl, hst8, hk8⟩; rw [hls])
            | (refine wpList_built rfl PageT _ rfl #[.int .i64 1, .slice (some ⟨g, 30, none⟩) 2 (cap - 3), .slice none 0 0, .slice none 0 0, .string ⟨#[]⟩, .slice none 0 0, .slice none 0 0, .int .i64 0, .int .u64 0, .int .i64 0, .int .i64 0, .int .i64 0, .int .i64 0, .int .i64 0] (by kernel_rfl) ?_))
          have hd8 := (HD3.out.chg hk7).chg hk8
          obtain ⟨b', off', e', hb', hc'⟩ := hd8.at_ (k := 0) (by rw [List.length_drop]; have := HM5.out; omega)
          obtain ⟨rfl, rfl⟩ : g = b' ∧ 30 = off' := by simpa using e'
          obtain ⟨V2, c2, hi2, _⟩ := hc' 0 (by rw [List.length_drop]; have := HM5.out; omega)
          have y8 : w8.cell? ⟨g, 30, none⟩ = some (.string ⟨(M.getD 3 Sp.item0).key.toArray⟩) := by
            have := hi2.c0
            rwa [show (M.drop 3).getD 0 Sp.item0 = M.getD 3 Sp.item0 by simp [List.getD]] at this
          have H8 := Lib.hid hst8
          have HK8 := Lib.hid (((Chg.of_below HCK.out).trans hk7).trans hk8)
          clear hd8 hc' hi2 hst8 hk8 hk7 hst7 e'
          go_quiet (fail)
          go_wp2_with fail
          refine bodyPost_ret (v := .tuple #[.int .i64 ((i : Int) + 2), (.int .i64 (n : Int)), .string ⟨(M.getD 3 Sp.item0).key.toArray⟩, .int .i64 0]) (by simp [results, Tryz.results147, go_sem]) rfl ⟨by rw [K4.out, K5.out], _, H8.out.go (below_drewN (Below.refl _ _) _), K2.out, HK8.out.drewN _⟩
      · simp only [Bool.toNat_true] at hLk
        go_upto_region 12 with fail
        obtain ⟨w6, rfl⟩ : ∃ W, W = wr := ⟨_, rfl⟩
        have R6 := Lib.hid (show LfW w0 w6 s (Sp.insIt x l0) _ from hlf.out.done.symm ▸ R.out)
        clear R hlf c1r HBX0 hb0 hz0w hLk HXV HIT hz2 c1 e0
        obtain ⟨g, cap, rfl, hg, hgW, hlc, hcm, hit⟩ := R6.out.row hsw (by omega) (by omega)
        have HST := Lib.hid (D.out.st.go R6.out.hb)
        have HCK := Lib.hid (D.out.hb.trans (R6.out.hb.mono D.out.hb.size))
        have HI6 := Lib.hid hit
        clear R6 D hit
        obtain ⟨vi, vp, hst, _⟩ := HST.out
        have hst6 := Lib.hid hst
        clear hst
        have hPn : P.length ≤ 120 := by have := HN.out; omega
        generalize hM : Sp.insIt x l0 = M at *
        by_cases hs : M.length ≤ 4
        · obtain ⟨k1, k2, k3⟩ := J2.out hs
          have hs' : ((M.length : Int) ≤ 4) := by omega
          have K1 := Lib.hid k1
          have K2 := Lib.hid k2
          have K3 := Lib.hid k3
          clear k1 k2 k3 J2 J3
          go_wp2_with (first
            | (go_at_call 149; refine (set_any s fp vi vp P i (Sp.leafPg M) (refsI (some ⟨g, 0, none⟩) cap) _ hst6.out (by omega) (by omega) (leafRd HI6.out cap) K1.out).mono ?_; rintro e w7 ⟨rfl, vp', hst7, hk7⟩)
            | (refine wpList_built rfl PageT _ rfl (pageV (Sp.leafPg M) (refsI (some ⟨g, 0, none⟩) cap)).toArray (by kernel_rfl) ?_))
          refine bodyPost_ret (v := .tuple #[.int .i64 ((i : Int) + 2), .int .i64 0, .string ⟨#[]⟩, .int .i64 0]) (by simp [results, Tryz.results147, go_sem]) rfl ⟨by rw [K3.out]; rfl, _, StF.of hst7 (fun e => by have h1 := congrArg List.length e; rw [List.length_set] at h1; simp only [List.length_nil] at h1; omega), K2.out, (Chg.of_below HCK.out).trans hk7⟩
        · obtain ⟨k1, k1', k2, k3, k4, k5⟩ := J3.out hs
          have hs' : ¬ ((M.length : Int) ≤ 4) := by omega
          have hM5 : M.length = 5 := by omega
          have ht3 : (M.take 3).length = 3 := by rw [List.length_take]; omega
          have hd3 : (M.drop 3).length = 2 := by rw [List.length_drop]; omega
          have K1 := Lib.hid k1
          have K1' := Lib.hid k1'
          have K2 := Lib.hid k2
          have K3 := Lib.hid k3
          have K4 := Lib.hid k4
          have K5 := Lib.hid k5
          have hc3 : ¬ cap = 3 := by omega
          have hc3' : 3 ≤ cap := by omega
          have hc5 : 5 ≤ cap := by omega
          have hnP : P.length < 120 := by have := HN.out; omega
          have hp1 := Lib.hid (show pageV (Sp.leafPg (M.take 3)) (refsI (some ⟨g, 0, none⟩) cap) = [.int .i64 1, .slice (some ⟨g, 0, none⟩) 3 cap, .slice none 0 0, .slice none 0 0, .string ⟨#[]⟩, .slice none 0 0, .slice none 0 0, .int .i64 0, .int .u64 0, .int .i64 0, .int .i64 0, .int .i64 0, .int .i64 0, .int .i64 0] by rw [leafV, ht3])
          have hp2 := Lib.hid (show pageV (Sp.leafPg (M.drop 3)) (refsI (some ⟨g, 30, none⟩) (cap - 3)) = [.int .i64 1, .slice (some ⟨g, 30, none⟩) 2 (cap - 3), .slice none 0 0, .slice none 0 0, .string ⟨#[]⟩, .slice none 0 0, .slice none 0 0, .int .i64 0, .int .u64 0, .int .i64 0, .int .i64 0, .int .i64 0, .int .i64 0, .int .i64 0] by rw [leafV, hd3])
          have hd : Items w6 (OneM s) (some ⟨g, 30, none⟩) (M.drop 3) := by have := HI6.out.drop 3; rwa [show 0 + 3 * 10 = 30 from rfl] at this
          have HD3 := Lib.hid hd
          have HM5 := Lib.hid hM5
          have hh : (((5 : Nat) : Int) + 1) / 2 = 3 := by decide
          clear k1 k1' k2 k3 k4 k5 J2 J3 hd ht3 hd3
          rw [hM5]
          clear hM5 hs hs'
          go_upto_region 15 with (go_at_call 150; refine (half_any 5 (by omega) (by omega) _).mono ?_; rintro e w2 ⟨rfl, rfl⟩)
          go_upto_region 18 with (first
            | (go_at_call 149; rw [← hp1.out]; refine (set_any s fp vi vp P i (Sp.leafPg (M.take 3)) (refsI (some ⟨g, 0, none⟩) cap) _ hst6.out (by omega) (by omega) (leafRd (HI6.out.take 3) cap) K1.out).mono ?_; rintro e w7 ⟨rfl, vp', hst7, hk7⟩)
            | (refine wpList_built rfl PageT _ rfl #[.int .i64 1, .slice (some ⟨g, 0, none⟩) 3 cap, .slice none 0 0, .slice none 0 0, .string ⟨#[]⟩, .slice none 0 0, .slice none 0 0, .int .i64 0, .int .u64 0, .int .i64 0, .int .i64 0, .int .i64 0, .int .i64 0, .int .i64 0] (by kernel_rfl) ?_))
          have hne7 : P.set i (Sp.leafPg (M.take 3)) ≠ [] := fun e => by have h1 := congrArg List.length e; rw [List.length_set] at h1; simp only [List.length_nil] at h1; omega
          have hls : (P.set i (Sp.leafPg (M.take 3))).length = P.length := List.length_set
          go_upto_region 19 with (first
            | (go_at_call 89; rw [← hp2.out]; refine (add_any s fp (P.set i (Sp.leafPg (M.take 3))) (Sp.leafPg (M.drop 3)) (refsI (some ⟨g, 30, none⟩) (cap - 3)) _ (StF.of hst7 hne7) (leafRd (HD3.out.chg hk7) _) K1'.out (by omega)).mono ?_; rintro e w8 ⟨rfl, hst8, hk8⟩; rw [hls])
            | (refine wpList_built rfl PageT _ rfl #[.int .i64 1, .slice (some ⟨g, 30, none⟩) 2 (cap - 3), .slice none 0 0, .slice none 0 0, .string ⟨#[]⟩, .slice none 0 0, .slice none 0 0, .int .i64 0, .int .u64 0, .int .i64 0, .int .i64 0, .int .i64 0, .int .i64 0, .int .i64 0] (by kernel_rfl) ?_))
          have hd8 := (HD3.out.chg hk7).chg hk8
          obtain ⟨b', off', e', hb', hc'⟩ := hd8.at_ (k := 0) (by rw [List.length_drop]; have := HM5.out; omega)
          obtain ⟨rfl, rfl⟩ : g = b' ∧ 30 = off' := by simpa using e'
          obtain ⟨V2, c2, hi2, _⟩ := hc' 0 (by rw [List.length_drop]; have := HM5.out; omega)
          have y8 : w8.cell? ⟨g, 30, none⟩ = some (.string ⟨(M.getD 3 Sp.item0).key.toArray⟩) := by
            have := hi2.c0
            rwa [show (M.drop 3).getD 0 Sp.item0 = M.getD 3 Sp.item0 by simp [List.getD]] at this
          have H8 := Lib.hid hst8
          have HK8 := Lib.hid (((Chg.of_below HCK.out).trans hk7).trans hk8)
          clear hd8 hc' hi2 hst8 hk8 hk7 hst7 e'
          go_quiet (fail)
          go_wp2_with fail
          refine bodyPost_ret (v := .tuple #[.int .i64 ((i : Int) + 2), (.int .i64 (n : Int)), .string ⟨(M.getD 3 Sp.item0).key.toArray⟩, .int .i64 0]) (by simp [results, Tryz.results147, go_sem]) rfl ⟨by rw [K4.out, K5.out], _, H8.out.go (below_drewN (Below.refl _ _) _), K2.out, HK8.out.drewN _⟩
end Go.Proofs.YtlpmjeiogdlifaaGreat
namespace Go.Proofs.YtlpmjeiogdlifaaGreat
open Go.RowKit
attribute [local go_sem low] mk_extract
attribute [local go_sem] After.cell After.frozen mk_extract_end ByteArray.mk_append_mk
def PutOut (x : Sp.Item) (d : Nat) (t : Sp.T d) (s n : Nat) (fp : Value) (P : List Sp.Page) (w : World) (e : Ending) (w' : World) : Prop :=
  e = .returned (.tuple #[.int .i64 ((Sp.T.id d t : Nat) : Int), .int .i64 (Sp.moreId d (Sp.T.put x d t n).2.1 : Nat), .string ⟨(Sp.moreKey (Sp.T.put x d t n).2.1).toArray⟩, .int .i64 0]) ∧
    ∃ P', StF w' s fp P' ∧ Sp.PutRes P P' d t n (Sp.T.put x d t n) ∧ Chg (OneM s) w w'
structure PuS (w W : World) (s : Nat) (fp : Value) (P : List Sp.Page) (x : Sp.Item) (V : Option Addr) (c : Nat) : Prop where
  st : StF W s fp P
  bx : Blk W w.heap.size ItemT (itemV x V c).toArray
  xv : Txts W (OneM s) V x.vals
  ck : Chg (OneM s) w W
  hs : s < w.heap.size
theorem PuS.start {w : World} {s : Nat} {fp : Value} {P : List Sp.Page} {x : Sp.Item} {V : Option Addr} (c : Nat) (h : StF w s fp P) (hV : Txts w (OneM s) V x.vals) : PuS w (w.alloc (.cells (itemV x V c).toArray ItemT)) s fp P x V c :=
  ⟨h.go ((Below.refl _ _).alloc (Nat.le_refl _) _), Blk.new _ _ _, hV.go ((Below.refl _ _).alloc (Nat.le_refl _) _), Chg.of_below ((Below.refl _ _).alloc (Nat.le_refl _) _), by obtain ⟨_, _, h, _⟩ := h; exact h.bs.lt⟩
theorem PuS.go {w W W' : World} {s : Nat} {fp : Value} {P : List Sp.Page} {x : Sp.Item} {V : Option Addr} {c : Nat} (h : PuS w W s fp P x V c) (hb : Below W.heap.size W W') : PuS w W' s fp P x V c :=
  ⟨h.st.go hb, h.bx.below hb h.bx.lt, h.xv.go hb, h.ck.trans (Chg.of_below hb), h.hs⟩
structure PqS (w W : World) (s b : Nat) (fp : Value) (P : List Sp.Page) (x : Sp.Item) (V : Option Addr) (c : Nat) (p : Sp.Page) (r : Refs) : Prop where
  u : PuS w W s fp P x V c
  bp : Blk W b PageT (pageV p r).toArray
  pr : PageRd W (OneM s) p r
  hne : w.heap.size < b
theorem PqS.start {w W : World} {s : Nat} {fp : Value} {P : List Sp.Page} {x : Sp.Item} {V : Option Addr} {c : Nat} {p : Sp.Page} {r : Refs} (h : PuS w W s fp P x V c) (hr : PageRd W (OneM s) p r) : PqS w (W.alloc (.cells (pageV p r).toArray PageT)) s W.heap.size fp P x V c p r :=
  ⟨h.go ((Below.refl _ _).alloc (Nat.le_refl _) _), Blk.new _ _ _, hr.go ((Below.refl _ _).alloc (Nat.le_refl _) _), h.bx.lt⟩
theorem PqS.go {w W W' : World} {s b : Nat} {fp : Value} {P : List Sp.Page} {x : Sp.Item} {V : Option Addr} {c : Nat} {p : Sp.Page} {r : Refs} (h : PqS w W s b fp P x V c p r) (hb : Below W.heap.size W W') : PqS w W' s b fp P x V c p r :=
  ⟨h.u.go hb, h.bp.below hb h.bp.lt, h.pr.go hb, h.hne⟩
theorem PqS.call {w W W' : World} {s b : Nat} {fp : Value} {P P1 : List Sp.Page} {x : Sp.Item} {V : Option Addr} {c : Nat} {p : Sp.Page} {r : Refs} (h : PqS w W s b fp P x V c p r) (hst : StF W' s fp P1) (hk : Chg (OneM s) W W') : PqS w W' s b fp P1 x V c p r :=
  ⟨⟨hst, h.u.bx.chg hk (fun e => by have := h.u.hs; have e : w.heap.size = s := e; omega), h.u.xv.chg hk, h.u.ck.trans hk, h.u.hs⟩, h.bp.chg hk (fun e => by have := h.u.hs; have := h.hne; have e : b = s := e; omega), h.pr.chg hk, h.hne⟩
attribute [local go_sem] itemV_len
set_option maxRecDepth 100000 in
set_option maxHeartbeats 1600000 in
theorem put_at_leaf (s : Nat) (fp : Value) (P : List Sp.Page) (i n : Nat) (l0 : List Sp.Item) (x : Sp.Item) (V : Option Addr) (c : Nat) (b : Bool) (w : World) (h : StF w s fp P) (hV : Txts w (OneM s) V x.vals)
    (hx : Sp.isItem x = true) (hok : Sp.T.Ok 0 b (i + 2, l0)) (hon : Sp.T.On P 0 (i + 2, l0) n) (hn : (Sp.T.put x 0 (i + 2, l0) n).2.2 ≤ 122) (hle : n ≤ (Sp.T.put x 0 (i + 2, l0) n).2.2) :
    Calls Tryz.prog 90 #[.pointer (some ⟨s, 0, none⟩), .int .i64 ((i : Int) + 2), .agg (itemV x V c).toArray] w fun e w' => PutOut x 0 (i + 2, l0) s n fp P w e w' := by
  have S := Lib.hid (PuS.start c h hV)
  have hidn : i + 2 < n := hon.lt (i + 2) (by simp [Sp.T.ids])
  have hlen := hon.len
  have hpg : P[i]? = some (Sp.leafPg l0) := hon.holds.2
  have HPG := Lib.hid hpg
  have HX := Lib.hid hx
  have HOK := Lib.hid hok
  have HON := Lib.hid hon
  have HN := Lib.hid hn
  have hPn : P.length ≤ 120 := by omega
  clear h hV hx hok hon hn hle hpg
  go_enter Tryz.func90, Tryz.ntmps90
  go_upto_region 7 with (first
    | (go_at_call 145; refine (touch_own s fp P i _ S.out.st (by omega) hPn).mono ?_; rintro e w2 ⟨rfl, rfl⟩)
    | (go_at_call 146; refine (read_own s fp P i (Sp.leafPg l0) _ S.out.st HPG.out hPn (by simp [Sp.leafPg])).mono ?_; rintro e w3 ⟨r, rfl, hr, hb3⟩; replace S := Lib.hid (S.out.go hb3); have HR := Lib.hid hr; clear hr hb3)
    | (refine wpList_new PageT _ _ rfl rfl rfl rfl rfl rfl _ rfl (of_decide_eq_true (by kernel_rfl)) (by kernel_rfl) (by kernel_rfl) (by kernel_rfl) ?_))
  refine wp_gen (fun W => PqS w W s w3.heap.size fp P x V c (Sp.leafPg l0) r) (PqS.start S.out HR.out) ?_
  intro w4 hT
  have T := Lib.hid hT
  clear hT S HR
  generalize w3.heap.size = bq at *
  have c0 : w4.cell? ⟨bq, 0, none⟩ = some (.int .i64 1) := T.out.bp.cell 0
  go_wp2_with (first
    | (go_at_call 147; refine (putLeaf_any s fp P i n l0 x V c r b _ T.out.u.st T.out.pr T.out.u.xv HX.out HOK.out HON.out HN.out).mono ?_; rintro e w5 ⟨rfl, P', h1, h2, h3⟩)
    | (refine wpList_row PageT _ rfl bq rfl rfl PageT _ (0, 0) _ T.out.bp Tryz.underlying59 rfl (by kernel_rfl) ?_)
    | (refine wpList_row ItemT _ rfl w.heap.size rfl rfl ItemT _ (0, 0) _ T.out.u.bx Tryz.underlying45 rfl (by kernel_rfl) ?_))
  refine bodyPost_ret (v := .tuple #[.int .i64 ((i : Int) + 2), .int .i64 (Sp.moreId 0 (Sp.T.put x 0 (i + 2, l0) n).2.1 : Nat), .string ⟨(Sp.moreKey (Sp.T.put x 0 (i + 2, l0) n).2.1).toArray⟩, .int .i64 0]) (by simp [results, Tryz.results90, go_sem]) rfl ⟨rfl, P', h1, h2, T.out.u.ck.trans h3⟩
end Go.Proofs.YtlpmjeiogdlifaaGreat
