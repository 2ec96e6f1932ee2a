/- The document's stores: a page that is laid where none is. The document's stores: a page is laid behind others, or where none is. The document's stores: a page is added; read; touched. The document's put into a leaf. The document's put: at a leaf. -/
import Derived.Test.YtmcpkhknjdiocaaGreatQB16
import Derived.Deep.RegionLaw
import Derived.BigQuiet
set_option linter.unusedSimpArgs false
set_option linter.unusedVariables false
namespace Go.Proofs.YtmcpkhknjdiocaaGreat
open Go.RowKit
attribute [local go_sem low] mk_extract
attribute [local go_sem] After.cell After.frozen mk_extract_end ByteArray.mk_append_mk
set_option maxRecDepth 100000 in
set_option maxHeartbeats 16000000 in
theorem dirty_nil (s : Nat) (fp lv : Value) (p : Sp.Page) (r : Refs) (w : World) (bs : Blk w s StoreT #[fp, lv, .int .i64 400, .slice none 0 0, .slice none 0 0, .slice none 0 0, .slice none 0 0]) (hp : PageRd w (OneM s) p r) :
    Calls Tryz.prog 99 #[.pointer (some ⟨s, 0, none⟩), .int .i64 2, .agg (pageV p r).toArray] w fun e w' => e = .returned (.tuple #[]) ∧
      ∃ vi' vp', Blk w' s StoreT #[fp, lv, .int .i64 400, .slice none 0 0, .slice none 0 0, vi', vp'] ∧ w'.ownsRow 0 3 1 vi' 1 (idsV 1) ∧
        (∃ xs, w'.ownsRow 0 PageT 14 vp' 1 xs ∧ PgCells w' (OneM s) [p] xs) ∧ Chg (OneM s) w w' := by
  obtain ⟨i0, hi0, hz0, hz1, hz2⟩ := info_parts info_int
  obtain ⟨i1, hi1, hy0, hy1, hy2⟩ := info_parts info_page
  have hal : Below w.heap.size w (w.alloc (.cells (pageV p r).toArray PageT)) := (Below.refl _ _).alloc (Nat.le_refl _) _
  have hD : DrS w (w.alloc (.cells (pageV p r).toArray PageT)) s w.heap.size 0 fp lv (.slice none 0 0) (.slice none 0 0) [] p r :=
    ⟨bs.below hal bs.lt, own_nil _ _ _ _, ⟨[], own_nil _ _ _ _, rfl⟩, Blk.new _ _ _, hp.chg (Chg.of_below hal), Chg.of_below hal, Nat.le_refl _⟩
  clear bs hp hal
  go_enter Tryz.func99, Tryz.ntmps99
  go_upto_region 1 with fail
  refine wp_gen (fun W => DrS w W s w.heap.size 0 fp lv (.slice none 0 0) (.slice none 0 0) [] p r) hD ?_
  clear hD
  intro w1 D1
  have c5 : w1.cell? ⟨s, 5, none⟩ = some (.slice none 0 0) := D1.bs.cell 5
  have f5 := D1.bs.frozen 5
  have hs1 := D1.bs.lt
  have D1 := Lib.hid D1
  go_wp2_with fail
  go_loopw [6] (fun i wr => i = .int .i64 0 ∧ wr = w1) (fun _ _ => 0)
  case atStart => exact ⟨rfl, rfl⟩
  case round =>
    obtain ⟨rfl, rfl⟩ := hrel
    go_upto_region 4 with fail
    have HI1 := Lib.hid (show ∀ u ∈ [Value.int .i64 2], u.oneCell' = true from fun u hu => by rw [List.mem_singleton.1 hu]; rfl)
    go_cut [] (fun W => ∃ v, DrS w W s w.heap.size 1 fp lv v (.slice none 0 0) [] p r)
    case first =>
      go_region_law (first
        | (refine step_append_none rfl (.const (.slice none 0 0)) (.tmp 33) _ rfl 0 3 i0 1 Tryz.underlying66 hi0 (.slice none 0 0) 0 [] rfl (own_nil _ _ _ _) rfl ?_)
        | (refine step_append_lies _ rfl (.tmp 34) (.tmp 36) _ rfl wr.heap.size 3 i0 _ 1 8 Tryz.underlying66 hi0 hz0 hz1 hz2 rfl (by decide) (.slice none 0 0) 0 [] rfl (own_nil _ _ _ _) _ 1 1 [.int .i64 2] rfl rfl ?_ HI1.out (by omega) (by simp only [maxLen]; omega) (by omega) ?_ _ rfl ?_; (first | exact cells_new _ _ [Value.int .i64 2] | exact cells_newD _ _ [Value.int .i64 2]); (exact Below.size (B := wr.heap.size) (by (repeat (first | (with_reducible exact Below.refl _ _) | (with_reducible assumption) | (refine below_step (by assumption) (by first | omega | (simp; done) | (simp; omega)) ?_) | (with_reducible refine Below.alloc ?_ (by first | omega | (simp; done) | (simp; omega)) _) | (with_reducible refine Below.drew ?_) | (with_reducible refine below_drewN ?_ _) | (with_reducible refine Below.setCell ?_ (by first | omega | (simp; done) | (simp; omega)) _))))); (intro g2 cap2 w3 hown3 hgr3 hat3 hlt3; have hb3 := grown_below hgr3; have hB3 : Below wr.heap.size wr w3 := (by (repeat (first | (with_reducible exact Below.refl _ _) | (with_reducible assumption) | (refine below_step (by assumption) (by first | omega | (simp; done) | (simp; omega)) ?_) | (with_reducible refine Below.alloc ?_ (by first | omega | (simp; done) | (simp; omega)) _) | (with_reducible refine Below.drew ?_) | (with_reducible refine below_drewN ?_ _) | (with_reducible refine Below.setCell ?_ (by first | omega | (simp; done) | (simp; omega)) _)))); clear hb3 hgr3 hat3; have HO3 := Lib.hid hown3; have hz3w := hB3.size; have hs3 : s < w3.heap.size := Nat.lt_of_lt_of_le hs1 hz3w; have c53 := (hB3.cell (p := ⟨s, 5, none⟩) hs1).trans c5; have f53 := (hB3.frozen (p := ⟨s, 5, none⟩) hs1).trans f5))
        | (refine step_append_none rfl (.tmp 37) (.tmp 43) _ rfl wr.heap.size 3 i0 1 Tryz.underlying66 hi0 (.slice (some ⟨g2, 0, none⟩) (0 + 1) cap2) (0 + 1) ([] ++ [.int .i64 2]) rfl HO3.out rfl ?_))
      all_goals go_wp2_with fail
      all_goals
        go_meet
        case rel => exact ⟨_, DrS.ids D1.out hB3 (by first | exact HO3.out | exact own_base HO3.out (by omega))⟩
    case rest =>
      obtain ⟨v5, D2⟩ := hcut
      obtain ⟨w5, rfl⟩ : ∃ W, W = wc := ⟨_, rfl⟩
      clear D1 c5 f5 HI1
      have c6 : w5.cell? ⟨s, 6, none⟩ = some (.slice none 0 0) := D2.bs.cell 6
      have f6 := D2.bs.frozen 6
      have hs5 := D2.bs.lt
      have hb5 := D2.bp.lt
      have hsb : s ≠ w.heap.size := fun e => Blk.not_ D2.bs (t' := PageT) (by decide) _ (e ▸ D2.bp)
      have HQ1 := Lib.hid (pageV_one p r)
      have hbp := D2.bp
      have D2 := Lib.hid D2
      obtain ⟨q0, q1, q2, q3, q4, q5, q6, q7, q8, q9, q10, q11, q12, q13, hq⟩ := pageV_form p r
      have HQ := Lib.hid hq
      rw [hq] at HQ1 hbp
      have b0 := hbp.cell 0
      have b1 := hbp.cell 1
      have b2 := hbp.cell 2
      have b3 := hbp.cell 3
      have b4 := hbp.cell 4
      have b5 := hbp.cell 5
      have b6 := hbp.cell 6
      have b7 := hbp.cell 7
      have b8 := hbp.cell 8
      have b9 := hbp.cell 9
      have b10 := hbp.cell 10
      have b11 := hbp.cell 11
      have b12 := hbp.cell 12
      have b13 := hbp.cell 13
      simp at b0 b1 b2 b3 b4 b5 b6 b7 b8 b9 b10 b11 b12 b13
      clear hbp hq
      go_upto_region 5 with fail
      go_region_law (first
        | (refine step_append_none rfl (.const (.slice none 0 0)) (.tmp 53) _ rfl 0 PageT i1 14 Tryz.underlying117 hi1 (.slice none 0 0) 0 [] rfl (own_nil _ _ _ _) rfl ?_)
        | (refine step_append_lies _ rfl (.tmp 54) (.tmp 56) _ rfl w5.heap.size PageT i1 _ 14 200 Tryz.underlying117 hi1 hy0 hy1 hy2 rfl (by decide) (.slice none 0 0) 0 [] rfl (own_nil _ _ _ _) _ 1 1 [q0, q1, q2, q3, q4, q5, q6, q7, q8, q9, q10, q11, q12, q13] rfl rfl ?_ HQ1.out (by omega) (by simp only [maxLen]; omega) (by omega) ?_ _ rfl ?_; (first | exact cells_new _ _ [q0, q1, q2, q3, q4, q5, q6, q7, q8, q9, q10, q11, q12, q13] | exact cells_newD _ _ [q0, q1, q2, q3, q4, q5, q6, q7, q8, q9, q10, q11, q12, q13]); (exact Below.size (B := w5.heap.size) (by (repeat (first | (with_reducible exact Below.refl _ _) | (with_reducible assumption) | (refine below_step (by assumption) (by first | omega | (simp; done) | (simp; omega)) ?_) | (with_reducible refine Below.alloc ?_ (by first | omega | (simp; done) | (simp; omega)) _) | (with_reducible refine Below.drew ?_) | (with_reducible refine below_drewN ?_ _) | (with_reducible refine Below.setCell ?_ (by first | omega | (simp; done) | (simp; omega)) _))))); (intro g2 cap2 w3 hown3 hgr3 hat3 hlt3; have hb3 := grown_below hgr3; have hB3 : Below w5.heap.size w5 w3 := (by (repeat (first | (with_reducible exact Below.refl _ _) | (with_reducible assumption) | (refine below_step (by assumption) (by first | omega | (simp; done) | (simp; omega)) ?_) | (with_reducible refine Below.alloc ?_ (by first | omega | (simp; done) | (simp; omega)) _) | (with_reducible refine Below.drew ?_) | (with_reducible refine below_drewN ?_ _) | (with_reducible refine Below.setCell ?_ (by first | omega | (simp; done) | (simp; omega)) _)))); clear hb3 hgr3 hat3; have HO3 := Lib.hid hown3; have hz3w := hB3.size; have hs3 : s < w3.heap.size := Nat.lt_of_lt_of_le hs5 hz3w; have c63 := (hB3.cell (p := ⟨s, 6, none⟩) hs5).trans c6; have f63 := (hB3.frozen (p := ⟨s, 6, none⟩) hs5).trans f6))
        | (refine step_append_none rfl (.tmp 57) (.tmp 63) _ rfl w5.heap.size PageT i1 14 Tryz.underlying117 hi1 (.slice (some ⟨g2, 0, none⟩) (0 + 1) cap2) (0 + 1) ([] ++ [q0, q1, q2, q3, q4, q5, q6, q7, q8, q9, q10, q11, q12, q13]) rfl HO3.out rfl ?_))
      all_goals go_wp2_with fail
      all_goals
        go_end0
        have hf := DrS.page D2.out hB3 (xs := []) rfl (HQ.out.symm ▸ HO3.out)
        exact ⟨rfl, _, _, hf.bs, hf.oi, hf.opn, hf.ck⟩
end Go.Proofs.YtmcpkhknjdiocaaGreat
namespace Go.Proofs.YtmcpkhknjdiocaaGreat
open Go.RowKit
attribute [local go_sem low] mk_extract
attribute [local go_sem] After.cell After.frozen mk_extract_end ByteArray.mk_append_mk
theorem dirty_any (s : Nat) (fp lv vi vp : Value) (P : List Sp.Page) (p : Sp.Page) (r : Refs) (id : Int) (w : World) (h : StL w s fp lv vi vp P) (h0 : P = [] → vi = .slice none 0 0 ∧ vp = .slice none 0 0) (hid : id = (P.length : Int) + 2) (hp : PageRd w (OneM s) p r) (hn : P.length < 120) :
    Calls Tryz.prog 99 #[.pointer (some ⟨s, 0, none⟩), .int .i64 id, .agg (pageV p r).toArray] w fun e w' => e = .returned (.tuple #[]) ∧ ∃ vi' vp', StL w' s fp lv vi' vp' (P ++ [p]) ∧ Chg (OneM s) w w' := by
  have hl : (P ++ [p]).length = P.length + 1 := by simp
  rcases Nat.eq_zero_or_pos P.length with hz | hz
  · obtain rfl := List.length_eq_zero_iff.1 hz
    obtain ⟨rfl, rfl⟩ := h0 rfl
    obtain rfl : id = 2 := by simpa using hid
    refine (dirty_nil s fp lv p r w h.bs hp).mono ?_
    rintro e w' ⟨he, vi', vp', h1, h2, h3, h4⟩
    exact ⟨he, vi', vp', ⟨h1, h2, h3⟩, h4⟩
  · subst hid
    refine (dirty_ne s fp lv vi vp P p r w h.bs h.oi h.op hp hz hn).mono ?_
    rintro e w' ⟨he, vi', vp', h1, h2, h3, h4⟩
    exact ⟨he, vi', vp', ⟨h1, by rw [hl]; exact h2, by rw [hl]; exact h3⟩, h4⟩
end Go.Proofs.YtmcpkhknjdiocaaGreat
namespace Go.Proofs.YtmcpkhknjdiocaaGreat
open Go.RowKit
attribute [local go_sem low] mk_extract
attribute [local go_sem] After.cell After.frozen mk_extract_end ByteArray.mk_append_mk
set_option maxRecDepth 100000 in
set_option maxHeartbeats 1600000 in
theorem add_any (s : Nat) (fp : Value) (P : List Sp.Page) (p : Sp.Page) (r : Refs) (w : World) (h : StF w s fp P) (hp : PageRd w (OneM s) p r) (hip : Sp.isPage p = true) (hn : P.length < 120) :
    Calls Tryz.prog 75 #[.pointer (some ⟨s, 0, none⟩), .agg (pageV p r).toArray] w fun e w' => e = .returned (.tuple #[.int .i64 ((P.length + 2 : Nat) : Int), .int .i64 0]) ∧ StF w' s fp (P ++ [p]) ∧ Chg (OneM s) w w' := by
  obtain ⟨vi, vp, h1, h0⟩ := h
  obtain ⟨A, c, rfl⟩ := own_form h1.oi
  have hal : Below w.heap.size w (w.alloc (.cells (pageV p r).toArray PageT)) := (Below.refl _ _).alloc (Nat.le_refl _) _
  have S := Lib.hid (show AddS w (w.alloc (.cells (pageV p r).toArray PageT)) s w.heap.size fp (.int .i64 ((P.length + 2 : Nat) : Int)) (.slice A P.length c) vp P p r from ⟨h1.l.go hal, Blk.new _ _ _, hp.chg (Chg.of_below hal), Chg.of_below hal⟩)
  have HI := Lib.hid hip
  have H0 := Lib.hid h0
  have h120 : ¬ (120 ≤ (P.length : Int)) := by omega
  have h400 : ¬ (400 ≤ ((P.length + 2 : Nat) : Int)) := by omega
  clear h1 hp hip hal h0
  go_enter Tryz.func75, Tryz.ntmps75
  go_upto_region 3 with (first
    | (go_at_call 63; refine (dIs_any (M := OneM s) p r _ S.out.pr).mono ?_; rintro e w2 ⟨rfl, hb2⟩; rw [HI.out]; replace S := Lib.hid (S.out.go hb2); clear hb2)
    | (refine wpList_row PageT _ rfl w.heap.size rfl rfl PageT _ (0, 0) _ S.out.bp Tryz.underlying108 rfl rfl ?_))
  have c5 : w2.cell? ⟨s, 5, none⟩ = some (.slice A P.length c) := S.out.st.bs.cell 5
  have c1 : w2.cell? ⟨s, 1, none⟩ = some (.int .i64 ((P.length + 2 : Nat) : Int)) := S.out.st.bs.cell 1
  have c2 : w2.cell? ⟨s, 2, none⟩ = some (.int .i64 400) := S.out.st.bs.cell 2
  have c3 : w2.cell? ⟨s, 3, none⟩ = some (.slice none 0 0) := S.out.st.bs.cell 3
  have f1 := S.out.st.bs.frozen 1
  go_upto_region 9 with fail
  go_region
  go_upto_region 12 with fail
  refine wp_gen (fun W => AddS w W s w.heap.size fp (.int .i64 ((P.length : Int) + 2 + 1)) (.slice A P.length c) vp P p r) ((S.out.last _).go ((Below.refl _ _).drew)) ?_
  intro w3 hT
  have T := Lib.hid hT
  clear hT S c5 c1 c2 c3 f1
  go_wp2_with (first
    | (go_at_call 99; refine (dirty_any s fp _ (.slice A P.length c) vp P p r _ _ T.out.st H0.out rfl T.out.pr hn).mono ?_; rintro e w5 ⟨rfl, vi', vp', hl, hk⟩)
    | (refine wpList_row PageT _ rfl w.heap.size rfl rfl PageT _ (0, 0) _ T.out.bp Tryz.underlying108 rfl rfl ?_))
  refine bodyPost_ret (v := .tuple #[.int .i64 ((P.length + 2 : Nat) : Int), .int .i64 0]) (by simp [results, Tryz.results75, go_sem]) rfl ⟨rfl, ⟨vi', vp', ?_, fun e => by simp at e⟩, T.out.ck.trans hk⟩
  refine StL.at_ ?_
  have e : ((P.length : Int) + 2 + 1) = (((P ++ [p]).length + 2 : Nat) : Int) := by simp; omega
  rw [e] at hl
  exact hl
end Go.Proofs.YtmcpkhknjdiocaaGreat
namespace Go.Proofs.YtmcpkhknjdiocaaGreat
open Go.RowKit
attribute [local go_sem low] mk_extract
attribute [local go_sem] After.cell After.frozen mk_extract_end ByteArray.mk_append_mk
attribute [local go_sem] itemV_len item_fold
set_option maxRecDepth 100000 in
set_option maxHeartbeats 3200000 in
theorem putLeaf_any (s : Nat) (fp : Value) (P : List Sp.Page) (i n : Nat) (l0 : List Sp.Item) (x : Sp.Item) (V : Option Addr) (c : Nat) (r : Refs) (b : Bool) (w : World) (h : StF w s fp P) (hp : PageRd w (OneM s) (Sp.leafPg l0) r) (hV : Txts w (OneM s) V x.vals)
    (hx : Sp.isItem x = true) (hok : Sp.T.Ok 0 b (i + 2, l0)) (hon : Sp.T.On P 0 (i + 2, l0) n) (hn : (Sp.T.put x 0 (i + 2, l0) n).2.2 ≤ 122) :
    Calls Tryz.prog 101 #[.pointer (some ⟨s, 0, none⟩), .int .i64 ((i : Int) + 2), .agg (pageV (Sp.leafPg l0) r).toArray, .agg (itemV x V c).toArray] w fun e w' =>
      e = .returned (.tuple #[.int .i64 ((i : Int) + 2), .int .i64 (Sp.moreId 0 (Sp.T.put x 0 (i + 2, l0) n).2.1 : Nat), .string ⟨(Sp.moreKey (Sp.T.put x 0 (i + 2, l0) n).2.1).toArray⟩, .int .i64 0]) ∧
      ∃ P', StF w' s fp P' ∧ Sp.PutRes P P' 0 (i + 2, l0) n (Sp.T.put x 0 (i + 2, l0) n) ∧ Chg (OneM s) w w' := by
  obtain ⟨i0, hi0, hz0, hz1, hz2⟩ := info_parts info_item
  obtain ⟨j1, j2, j3⟩ := Sp.put_join0 hx hok hon (by omega)
  have hl4 : l0.length ≤ 4 := hok.1
  have hidn : i + 2 < n := hon.lt (i + 2) (by simp [Sp.T.ids])
  have hlen := hon.len
  have hl1 : 1 ≤ l0.length := by
    have := hok.2.1
    split at this <;> exact Nat.le_trans (by decide) this
  have hle : n ≤ (Sp.T.put x 0 (i + 2, l0) n).2.2 := by
    by_cases hs : (Sp.insIt x l0).length ≤ 4
    · exact (j2 hs).2.1.le
    · exact (j3 hs).2.2.1.le
  have hal : Below w.heap.size w ((w.alloc (.cells (pageV (Sp.leafPg l0) r).toArray PageT)).alloc (.cells (itemV x V c).toArray ItemT)) := ((Below.refl _ _).alloc (Nat.le_refl _) _).alloc (by simp) _
  have hD : PlS w ((w.alloc (.cells (pageV (Sp.leafPg l0) r).toArray PageT)).alloc (.cells (itemV x V c).toArray ItemT)) s w.heap.size fp P l0 r x V c :=
    ⟨h.go hal, (Blk.new _ _ _).alloc _, by have := Blk.new (w.alloc (.cells (pageV (Sp.leafPg l0) r).toArray PageT)) ItemT (itemV x V c).toArray; rwa [World.size_alloc] at this, hp.go hal, hV.go hal, hal⟩
  have J2 := Lib.hid j2
  have J3 := Lib.hid j3
  have HN := Lib.hid hn
  clear h hp hV hal j2 j3 hok hon hn
  go_enter Tryz.func101, Tryz.ntmps101
  go_upto_region 1 with fail
  refine wp_gen (fun W => PlS w W s w.heap.size fp P l0 r x V c) hD ?_
  clear hD
  intro w0 D
  have hsw : s < w0.heap.size := by
    obtain ⟨_, _, h, _⟩ := D.st
    exact h.bs.lt
  have hbw : w.heap.size + 1 < w0.heap.size := D.bx.lt
  have c1 : w0.cell? ⟨w.heap.size, 1, none⟩ = some (.slice r.I l0.length r.i) := D.bp.cell 1
  have e0 : w0.cell? ⟨w.heap.size + 1, 0, none⟩ = some (.string ⟨x.key.toArray⟩) := D.bx.cell 0
  have HIT := Lib.hid (show Items w0 (OneM s) r.I l0 from D.pr.items)
  have D := Lib.hid D
  go_upto_region 10 with fail
  go_loopw [12, 13, 14] (fun lv dv iv wr => ∃ (k : Nat) (L : List Sp.Item) (dn : Bool), k ≤ l0.length ∧ L.length ≤ k + dn.toNat ∧ iv = .int .i64 (k : Int) ∧ dv = .bool dn ∧ Hid (Sp.LfOk x l0 k L dn) ∧ Hid (LfW w0 wr s L lv)) (fun _ _ iv _ => l0.length - (intOf iv).toNat)
  case atStart => exact ⟨0, [], false, by omega, by simp, rfl, rfl, Lib.hid (Sp.LfOk.start x l0), Lib.hid (LfW.start w0 s)⟩
  case round =>
    obtain ⟨k, L, dn, hk, hLk, rfl, rfl, hlf, R⟩ := hrel
    have HXV := Lib.hid D.out.xv
    by_cases hlt : k < l0.length
    · obtain ⟨ib, io, hA, hib, hit⟩ := HIT.out.at_ hlt
      obtain ⟨V', c', hi', ht'⟩ := hit k hlt
      have c1k : w0.cell? ⟨w.heap.size, 1, none⟩ = some (.slice (some ⟨ib, io, none⟩) l0.length r.i) := hA ▸ c1
      have HY0 := Lib.hid hi'
      have HT := Lib.hid ht'
      have hb := R.out.hb
      have HBX := Lib.hid (D.out.bx.below hb hbw)
      have HY := Lib.hid (HY0.out.keep fun j => hb.cell (p := ⟨ib, j, none⟩) hib)
      have c1r : wr.cell? ⟨w.heap.size, 1, none⟩ = some (.slice (some ⟨ib, io, none⟩) l0.length r.i) := (hb.cell (p := ⟨w.heap.size, 1, none⟩) (show w.heap.size < w0.heap.size by omega)).trans c1k
      have y0 : wr.cell? ⟨ib, io + k * 10, none⟩ = some (.string ⟨(l0.getD k Sp.item0).key.toArray⟩) := HY.out.c0
      have e0r := (hb.cell (p := ⟨w.heap.size + 1, 0, none⟩) hbw).trans e0
      have hz := hb.size
      clear hit hi' ht'
      rcases dn with _ | _
      · simp only [Bool.toNat_false] at hLk
        rcases hq : Sp.lt (l0.getD k Sp.item0).key x.key with _ | _
        · by_cases he : (l0.getD k Sp.item0).key = x.key
          · have hq1 : Op.bytesLess (l0.getD k Sp.item0).key x.key = false := hq
            have he1 : ((l0.getD k Sp.item0).key == x.key) = true := beq_iff_eq.2 he
            have HN2 := Lib.hid (hlf.out.same hlt hq he)
            clear hq he
            generalize l0.getD k Sp.item0 = y at *
            go_upto_region 6 with fail
            go_quiet (fail)
            go_upto_region 7 with fail
            refine wp_gen (fun W => LfW w0 W s _ _) (R.out.go (below_drewN (Below.refl _ _) _)) ?_
            intro wq hR
            have Rq := Lib.hid hR
            clear hR c1r y0 e0r HY HBX hb hz
            have hbq := Rq.out.hb
            have HBXq := Lib.hid (D.out.bx.below hbq hbw)
            have HYq := Lib.hid (HY0.out.keep fun j => hbq.cell (p := ⟨ib, j, none⟩) hib)
            have c1rq : wq.cell? ⟨w.heap.size, 1, none⟩ = some (.slice (some ⟨ib, io, none⟩) l0.length r.i) := (hbq.cell (p := ⟨w.heap.size, 1, none⟩) (show w.heap.size < w0.heap.size by omega)).trans c1k
            have y0q : wq.cell? ⟨ib, io + k * 10, none⟩ = some (.string ⟨y.key.toArray⟩) := HYq.out.c0
            have e0rq := (hbq.cell (p := ⟨w.heap.size + 1, 0, none⟩) hbw).trans e0
            have hzq := hbq.size
            go_wp2_with (first
              | (refine wpList_row ItemT _ rfl (w.heap.size + 1) rfl rfl ItemT _ (0, 0) _ HBXq.out Tryz.underlying71 rfl (by kernel_rfl) ?_)
              | (at_builtin; obtain ⟨xs, hown, hix⟩ := Rq.out.own; refine wpList_append_own _ rfl (.tmp 39) (.tmp 41) 105 rfl w0.heap.size ItemT i0 _ 10 112 Tryz.underlying105 hi0 hz0 hz1 hz2 rfl (by decide) _ L.length xs rfl ?c1 ⟨wq.heap.size, 0, none⟩ 1 1 (itemV x V c) rfl rfl ?c2 (itemV_one _ _ _) ?c3 ?c4 ?c5 ?_))
            case c1 => exact own_chg2 (S := NoM) hown ((Chg.refl _ _).alloc _) (fun _ _ h => h)
            case c2 => exact cells_new _ _ _
            case c3 => (simp only [maxLen, List.length_append, List.length_cons, List.length_nil]; omega)
            case c4 => ((try simp only [List.length_append, List.length_cons, List.length_nil]); omega)
            case c5 => (rw [World.size_alloc]; omega)
            intro v2 w2 hown2 hgr2 _
            have R2 := Lib.hid (Rq.out.app hown hix HXV.out hown2 (by simp) hgr2)
            clear hown hix hown2 hgr2
            go_upto_region 8 with fail
            have hb2 := R2.out.hb
            have HBX2 := Lib.hid (D.out.bx.below hb2 hbw)
            have HY2 := Lib.hid (HY0.out.keep fun j => hb2.cell (p := ⟨ib, j, none⟩) hib)
            have c1r2 : w2.cell? ⟨w.heap.size, 1, none⟩ = some (.slice (some ⟨ib, io, none⟩) l0.length r.i) := (hb2.cell (p := ⟨w.heap.size, 1, none⟩) (show w.heap.size < w0.heap.size by omega)).trans c1k
            have y02 : w2.cell? ⟨ib, io + k * 10, none⟩ = some (.string ⟨y.key.toArray⟩) := HY2.out.c0
            have e0r2 := (hb2.cell (p := ⟨w.heap.size + 1, 0, none⟩) hbw).trans e0
            have hz2 := hb2.size
            go_quiet (fail)
            go_upto_region 5 with fail
            refine wp_gen (fun W => LfW w0 W s _ _) (R2.out.go (below_drewN (Below.refl _ _) _)) ?_
            intro w4 hR
            have R4 := Lib.hid hR
            clear hR c1r2 y02 e0r2 HY2 HBX2 hb2 hz2
            have hb4 := R4.out.hb
            have HBX4 := Lib.hid (D.out.bx.below hb4 hbw)
            have HY4 := Lib.hid (HY0.out.keep fun j => hb4.cell (p := ⟨ib, j, none⟩) hib)
            have c1r4 : w4.cell? ⟨w.heap.size, 1, none⟩ = some (.slice (some ⟨ib, io, none⟩) l0.length r.i) := (hb4.cell (p := ⟨w.heap.size, 1, none⟩) (show w.heap.size < w0.heap.size by omega)).trans c1k
            have y04 : w4.cell? ⟨ib, io + k * 10, none⟩ = some (.string ⟨y.key.toArray⟩) := HY4.out.c0
            have e0r4 := (hb4.cell (p := ⟨w.heap.size + 1, 0, none⟩) hbw).trans e0
            have hz4 := hb4.size
            go_wp2_with fail
            go_roundw
            case rel => exact ⟨k + 1, L ++ [x], true, by omega, by simp; omega, by go_num, rfl, HN2.out, R4⟩
            case measure => simp [intOf]; omega
          · have hq1 : Op.bytesLess (l0.getD k Sp.item0).key x.key = false := hq
            have he1 : ((l0.getD k Sp.item0).key == x.key) = false := beq_eq_false_iff_ne.2 he
            have HN2 := Lib.hid (hlf.out.here hlt hq he)
            clear hq he
            generalize l0.getD k Sp.item0 = y at *
            go_upto_region 6 with fail
            go_quiet (fail)
            go_upto_region 7 with fail
            refine wp_gen (fun W => LfW w0 W s _ _) (R.out.go (below_drewN (Below.refl _ _) _)) ?_
            intro wq hR
            have Rq := Lib.hid hR
            clear hR c1r y0 e0r HY HBX hb hz
            have hbq := Rq.out.hb
            have HBXq := Lib.hid (D.out.bx.below hbq hbw)
            have HYq := Lib.hid (HY0.out.keep fun j => hbq.cell (p := ⟨ib, j, none⟩) hib)
            have c1rq : wq.cell? ⟨w.heap.size, 1, none⟩ = some (.slice (some ⟨ib, io, none⟩) l0.length r.i) := (hbq.cell (p := ⟨w.heap.size, 1, none⟩) (show w.heap.size < w0.heap.size by omega)).trans c1k
            have y0q : wq.cell? ⟨ib, io + k * 10, none⟩ = some (.string ⟨y.key.toArray⟩) := HYq.out.c0
            have e0rq := (hbq.cell (p := ⟨w.heap.size + 1, 0, none⟩) hbw).trans e0
            have hzq := hbq.size
            go_wp2_with (first
              | (refine wpList_row ItemT _ rfl (w.heap.size + 1) rfl rfl ItemT _ (0, 0) _ HBXq.out Tryz.underlying71 rfl (by kernel_rfl) ?_)
              | (at_builtin; obtain ⟨xs, hown, hix⟩ := Rq.out.own; refine wpList_append_own _ rfl (.tmp 39) (.tmp 41) 105 rfl w0.heap.size ItemT i0 _ 10 112 Tryz.underlying105 hi0 hz0 hz1 hz2 rfl (by decide) _ L.length xs rfl ?c1 ⟨wq.heap.size, 0, none⟩ 1 1 (itemV x V c) rfl rfl ?c2 (itemV_one _ _ _) ?c3 ?c4 ?c5 ?_))
            case c1 => exact own_chg2 (S := NoM) hown ((Chg.refl _ _).alloc _) (fun _ _ h => h)
            case c2 => exact cells_new _ _ _
            case c3 => (simp only [maxLen, List.length_append, List.length_cons, List.length_nil]; omega)
            case c4 => ((try simp only [List.length_append, List.length_cons, List.length_nil]); omega)
            case c5 => (rw [World.size_alloc]; omega)
            intro v2 w2 hown2 hgr2 _
            have R2 := Lib.hid (Rq.out.app hown hix HXV.out hown2 (by simp) hgr2)
            clear hown hix hown2 hgr2
            go_upto_region 8 with fail
            have hb2 := R2.out.hb
            have HBX2 := Lib.hid (D.out.bx.below hb2 hbw)
            have HY2 := Lib.hid (HY0.out.keep fun j => hb2.cell (p := ⟨ib, j, none⟩) hib)
            have c1r2 : w2.cell? ⟨w.heap.size, 1, none⟩ = some (.slice (some ⟨ib, io, none⟩) l0.length r.i) := (hb2.cell (p := ⟨w.heap.size, 1, none⟩) (show w.heap.size < w0.heap.size by omega)).trans c1k
            have y02 : w2.cell? ⟨ib, io + k * 10, none⟩ = some (.string ⟨y.key.toArray⟩) := HY2.out.c0
            have e0r2 := (hb2.cell (p := ⟨w.heap.size + 1, 0, none⟩) hbw).trans e0
            have hz2 := hb2.size
            go_quiet (fail)
            go_upto_region 9 with fail
            refine wp_gen (fun W => LfW w0 W s _ _) (R2.out.go (below_drewN (Below.refl _ _) _)) ?_
            intro w4 hR
            have R4 := Lib.hid hR
            clear hR c1r2 y02 e0r2 HY2 HBX2 hb2 hz2
            have hb4 := R4.out.hb
            have HBX4 := Lib.hid (D.out.bx.below hb4 hbw)
            have HY4 := Lib.hid (HY0.out.keep fun j => hb4.cell (p := ⟨ib, j, none⟩) hib)
            have c1r4 : w4.cell? ⟨w.heap.size, 1, none⟩ = some (.slice (some ⟨ib, io, none⟩) l0.length r.i) := (hb4.cell (p := ⟨w.heap.size, 1, none⟩) (show w.heap.size < w0.heap.size by omega)).trans c1k
            have y04 : w4.cell? ⟨ib, io + k * 10, none⟩ = some (.string ⟨y.key.toArray⟩) := HY4.out.c0
            have e0r4 := (hb4.cell (p := ⟨w.heap.size + 1, 0, none⟩) hbw).trans e0
            have hz4 := hb4.size
            go_wp2_with (first
              | (refine wpList_at ItemT _ rfl ib (io + k * 10) rfl rfl (itemV y V' c').toArray _ (fun j v hv => HY4.out.cells j v hv) Tryz.underlying71 rfl (by kernel_rfl) ?_)
              | (at_builtin; obtain ⟨xs, hown, hix⟩ := R4.out.own; refine wpList_append_own _ rfl (.tmp 52) (.tmp 58) 105 rfl w0.heap.size ItemT i0 _ 10 112 Tryz.underlying105 hi0 hz0 hz1 hz2 rfl (by decide) _ (L ++ [x]).length xs rfl ?c1 ⟨w4.heap.size, 0, none⟩ 1 1 (itemV y V' c') rfl rfl ?c2 (itemV_one _ _ _) ?c3 ?c4 ?c5 ?_))
            case c1 => exact own_chg2 (S := NoM) hown ((Chg.refl _ _).alloc _) (fun _ _ h => h)
            case c2 => exact cells_new _ _ _
            case c3 => (simp only [maxLen, List.length_append, List.length_cons, List.length_nil]; omega)
            case c4 => ((try simp only [List.length_append, List.length_cons, List.length_nil]); omega)
            case c5 => (rw [World.size_alloc]; omega)
            intro v3 w3 hown2 hgr2 _
            have R3 := Lib.hid (R4.out.app hown hix HT.out hown2 (by simp) hgr2)
            clear hown hix hown2 hgr2
            go_wp2_with fail
            go_roundw
            case rel => exact ⟨k + 1, L ++ [x] ++ [y], true, by omega, by simp; omega, by go_num, rfl, HN2.out, R3⟩
            case measure => simp [intOf]; omega
        · have hq1 : Op.bytesLess (l0.getD k Sp.item0).key x.key = true := hq
          have HN2 := Lib.hid (hlf.out.ahead hlt hq)
          clear hq
          generalize l0.getD k Sp.item0 = y at *
          go_upto_region 6 with fail
          go_quiet (fail)
          go_upto_region 9 with fail
          refine wp_gen (fun W => LfW w0 W s _ _) (R.out.go (below_drewN (Below.refl _ _) _)) ?_
          intro wq hR
          have Rq := Lib.hid hR
          clear hR c1r y0 e0r HY HBX hb hz
          have hbq := Rq.out.hb
          have HBXq := Lib.hid (D.out.bx.below hbq hbw)
          have HYq := Lib.hid (HY0.out.keep fun j => hbq.cell (p := ⟨ib, j, none⟩) hib)
          have c1rq : wq.cell? ⟨w.heap.size, 1, none⟩ = some (.slice (some ⟨ib, io, none⟩) l0.length r.i) := (hbq.cell (p := ⟨w.heap.size, 1, none⟩) (show w.heap.size < w0.heap.size by omega)).trans c1k
          have y0q : wq.cell? ⟨ib, io + k * 10, none⟩ = some (.string ⟨y.key.toArray⟩) := HYq.out.c0
          have e0rq := (hbq.cell (p := ⟨w.heap.size + 1, 0, none⟩) hbw).trans e0
          have hzq := hbq.size
          go_wp2_with (first
            | (refine wpList_at ItemT _ rfl ib (io + k * 10) rfl rfl (itemV y V' c').toArray _ (fun j v hv => HYq.out.cells j v hv) Tryz.underlying71 rfl (by kernel_rfl) ?_)
            | (at_builtin; obtain ⟨xs, hown, hix⟩ := Rq.out.own; refine wpList_append_own _ rfl (.tmp 52) (.tmp 58) 105 rfl w0.heap.size ItemT i0 _ 10 112 Tryz.underlying105 hi0 hz0 hz1 hz2 rfl (by decide) _ L.length xs rfl ?c1 ⟨wq.heap.size, 0, none⟩ 1 1 (itemV y V' c') rfl rfl ?c2 (itemV_one _ _ _) ?c3 ?c4 ?c5 ?_))
          case c1 => exact own_chg2 (S := NoM) hown ((Chg.refl _ _).alloc _) (fun _ _ h => h)
          case c2 => exact cells_new _ _ _
          case c3 => (simp only [maxLen, List.length_append, List.length_cons, List.length_nil]; omega)
          case c4 => ((try simp only [List.length_append, List.length_cons, List.length_nil]); omega)
          case c5 => (rw [World.size_alloc]; omega)
          intro v3 w3 hown2 hgr2 _
          have R3 := Lib.hid (Rq.out.app hown hix HT.out hown2 (by simp) hgr2)
          clear hown hix hown2 hgr2
          go_wp2_with fail
          go_roundw
          case rel => exact ⟨k + 1, L ++ [y], false, by omega, by simp; omega, by go_num, rfl, HN2.out, R3⟩
          case measure => simp [intOf]; omega
      · have HT0 := 0
        simp only [Bool.toNat_true] at hLk
        have HN2 := Lib.hid (hlf.out.behind hlt)
        clear HT0
        generalize l0.getD k Sp.item0 = y at *
        go_upto_region 6 with fail
        go_quiet (fail)
        go_upto_region 9 with fail
        refine wp_gen (fun W => LfW w0 W s _ _) (R.out.go (below_drewN (Below.refl _ _) _)) ?_
        intro wq hR
        have Rq := Lib.hid hR
        clear hR c1r y0 e0r HY HBX hb hz
        have hbq := Rq.out.hb
        have HBXq := Lib.hid (D.out.bx.below hbq hbw)
        have HYq := Lib.hid (HY0.out.keep fun j => hbq.cell (p := ⟨ib, j, none⟩) hib)
        have c1rq : wq.cell? ⟨w.heap.size, 1, none⟩ = some (.slice (some ⟨ib, io, none⟩) l0.length r.i) := (hbq.cell (p := ⟨w.heap.size, 1, none⟩) (show w.heap.size < w0.heap.size by omega)).trans c1k
        have y0q : wq.cell? ⟨ib, io + k * 10, none⟩ = some (.string ⟨y.key.toArray⟩) := HYq.out.c0
        have e0rq := (hbq.cell (p := ⟨w.heap.size + 1, 0, none⟩) hbw).trans e0
        have hzq := hbq.size
        go_wp2_with (first
          | (refine wpList_at ItemT _ rfl ib (io + k * 10) rfl rfl (itemV y V' c').toArray _ (fun j v hv => HYq.out.cells j v hv) Tryz.underlying71 rfl (by kernel_rfl) ?_)
          | (at_builtin; obtain ⟨xs, hown, hix⟩ := Rq.out.own; refine wpList_append_own _ rfl (.tmp 52) (.tmp 58) 105 rfl w0.heap.size ItemT i0 _ 10 112 Tryz.underlying105 hi0 hz0 hz1 hz2 rfl (by decide) _ L.length xs rfl ?c1 ⟨wq.heap.size, 0, none⟩ 1 1 (itemV y V' c') rfl rfl ?c2 (itemV_one _ _ _) ?c3 ?c4 ?c5 ?_))
        case c1 => exact own_chg2 (S := NoM) hown ((Chg.refl _ _).alloc _) (fun _ _ h => h)
        case c2 => exact cells_new _ _ _
        case c3 => (simp only [maxLen, List.length_append, List.length_cons, List.length_nil]; omega)
        case c4 => ((try simp only [List.length_append, List.length_cons, List.length_nil]); omega)
        case c5 => (rw [World.size_alloc]; omega)
        intro v3 w3 hown2 hgr2 _
        have R3 := Lib.hid (Rq.out.app hown hix HT.out hown2 (by simp) hgr2)
        clear hown hix hown2 hgr2
        go_wp2_with fail
        go_roundw
        case rel => exact ⟨k + 1, L ++ [y], true, by omega, by simp; omega, by go_num, rfl, HN2.out, R3⟩
        case measure => simp [intOf]; omega
    · obtain rfl : k = l0.length := by omega
      clear hlt
      have hb0 := R.out.hb
      have HBX0 := Lib.hid (D.out.bx.below hb0 hbw)
      have c1r : wr.cell? ⟨w.heap.size, 1, none⟩ = some (.slice r.I l0.length r.i) := (hb0.cell (p := ⟨w.heap.size, 1, none⟩) (show w.heap.size < w0.heap.size by omega)).trans c1
      have hz0w := hb0.size
      have hpos := (Sp.insIt_len x l0).1
      go_upto_region 10 with fail
      rcases dn with _ | _
      · simp only [Bool.toNat_false] at hLk
        go_upto_region 11 with fail
        go_wp2_with (first
          | (refine wpList_row ItemT _ rfl (w.heap.size + 1) rfl rfl ItemT _ (0, 0) _ HBX0.out Tryz.underlying71 rfl (by kernel_rfl) ?_)
          | (at_builtin; obtain ⟨xs, hown, hix⟩ := R.out.own; refine wpList_append_own _ rfl (.tmp 62) (.tmp 64) 105 rfl w0.heap.size ItemT i0 _ 10 112 Tryz.underlying105 hi0 hz0 hz1 hz2 rfl (by decide) _ L.length xs rfl ?c1 ⟨wr.heap.size, 0, none⟩ 1 1 (itemV x V c) rfl rfl ?c2 (itemV_one _ _ _) ?c3 ?c4 ?c5 ?_))
        case c1 => exact own_chg2 (S := NoM) hown ((Chg.refl _ _).alloc _) (fun _ _ h => h)
        case c2 => exact cells_new _ _ _
        case c3 => (simp only [maxLen, List.length_append, List.length_cons, List.length_nil]; omega)
        case c4 => ((try simp only [List.length_append, List.length_cons, List.length_nil]); omega)
        case c5 => (rw [World.size_alloc]; omega)
        intro v2 w6 hown2 hgr2 _
        have R2 := Lib.hid (R.out.app hown hix HXV.out hown2 (by simp) hgr2)
        clear hown hix hown2 hgr2
        go_upto_region 12 with fail
        have R6 := Lib.hid (show LfW w0 w6 s (Sp.insIt x l0) v2 from hlf.out.last.symm ▸ R2.out)
        clear R R2 hlf c1r HBX0 hb0 hz0w hLk HXV HIT hz2 c1 e0
        obtain ⟨g, cap, rfl, hg, hgW, hlc, hcm, hit⟩ := R6.out.row hsw (by omega) (by omega)
        have HST := Lib.hid (D.out.st.go R6.out.hb)
        have HCK := Lib.hid (D.out.hb.trans (R6.out.hb.mono D.out.hb.size))
        have HI6 := Lib.hid hit
        clear R6 D hit
        obtain ⟨vi, vp, hst, _⟩ := HST.out
        have hst6 := Lib.hid hst
        clear hst
        have hPn : P.length ≤ 120 := by have := HN.out; omega
        generalize hM : Sp.insIt x l0 = M at *
        by_cases hs : M.length ≤ 4
        · obtain ⟨k1, k2, k3⟩ := J2.out hs
          have hs' : ((M.length : Int) ≤ 4) := by omega
          have K1 := Lib.hid k1
          have K2 := Lib.hid k2
          have K3 := Lib.hid k3
          clear k1 k2 k3 J2 J3
          go_wp2_with (first
            | (go_at_call 103; refine (set_any s fp vi vp P i (Sp.leafPg M) (refsI (some ⟨g, 0, none⟩) cap) _ hst6.out (by omega) (by omega) (leafRd HI6.out cap) K1.out).mono ?_; rintro e w7 ⟨rfl, vp', hst7, hk7⟩)
            | (refine wpList_built rfl PageT _ rfl (pageV (Sp.leafPg M) (refsI (some ⟨g, 0, none⟩) cap)).toArray (by kernel_rfl) ?_))
          refine bodyPost_ret (v := .tuple #[.int .i64 ((i : Int) + 2), .int .i64 0, .string ⟨#[]⟩, .int .i64 0]) (by simp [results, Tryz.results101, go_sem]) rfl ⟨by rw [K3.out]; rfl, _, StF.of hst7 (fun e => by have h1 := congrArg List.length e; rw [List.length_set] at h1; simp only [List.length_nil] at h1; omega), K2.out, (Chg.of_below HCK.out).trans hk7⟩
        · obtain ⟨k1, k1', k2, k3, k4, k5⟩ := J3.out hs
          have hs' : ¬ ((M.length : Int) ≤ 4) := by omega
          have hM5 : M.length = 5 := by omega
          have ht3 : (M.take 3).length = 3 := by rw [List.length_take]; omega
          have hd3 : (M.drop 3).length = 2 := by rw [List.length_drop]; omega
          have K1 := Lib.hid k1
          have K1' := Lib.hid k1'
          have K2 := Lib.hid k2
          have K3 := Lib.hid k3
          have K4 := Lib.hid k4
          have K5 := Lib.hid k5
          have hc3 : ¬ cap = 3 := by omega
          have hc3' : 3 ≤ cap := by omega
          have hc5 : 5 ≤ cap := by omega
          have hnP : P.length < 120 := by have := HN.out; omega
          have hp1 := Lib.hid (show pageV (Sp.leafPg (M.take 3)) (refsI (some ⟨g, 0, none⟩) cap) = [.int .i64 1, .slice (some ⟨g, 0, none⟩) 3 cap, .slice none 0 0, .slice none 0 0, .string ⟨#[]⟩, .slice none 0 0, .slice none 0 0, .int .i64 0, .int .u64 0, .int .i64 0, .int .i64 0, .int .i64 0, .int .i64 0, .int .i64 0] by rw [leafV, ht3])
          have hp2 := Lib.hid (show pageV (Sp.leafPg (M.drop 3)) (refsI (some ⟨g, 30, none⟩) (cap - 3)) = [.int .i64 1, .slice (some ⟨g, 30, none⟩) 2 (cap - 3), .slice none 0 0, .slice none 0 0, .string ⟨#[]⟩, .slice none 0 0, .slice none 0 0, .int .i64 0, .int .u64 0, .int .i64 0, .int .i64 0, .int .i64 0, .int .i64 0, .int .i64 0] by rw [leafV, hd3])
          have hd : Items w6 (OneM s) (some ⟨g, 30, none⟩) (M.drop 3) := by have := HI6.out.drop 3; rwa [show 0 + 3 * 10 = 30 from rfl] at this
          have HD3 := Lib.hid hd
          have HM5 := Lib.hid hM5
          have hh : (((5 : Nat) : Int) + 1) / 2 = 3 := by decide
          clear k1 k1' k2 k3 k4 k5 J2 J3 hd ht3 hd3
          rw [hM5]
          clear hM5 hs hs'
          go_upto_region 15 with (go_at_call 104; refine (half_any 5 (by omega) (by omega) _).mono ?_; rintro e w2 ⟨rfl, rfl⟩)
          go_upto_region 18 with (first
            | (go_at_call 103; rw [← hp1.out]; refine (set_any s fp vi vp P i (Sp.leafPg (M.take 3)) (refsI (some ⟨g, 0, none⟩) cap) _ hst6.out (by omega) (by omega) (leafRd (HI6.out.take 3) cap) K1.out).mono ?_; rintro e w7 ⟨rfl, vp', hst7, hk7⟩)
            | (refine wpList_built rfl PageT _ rfl #[.int .i64 1, .slice (some ⟨g, 0, none⟩) 3 cap, .slice none 0 0, .slice none 0 0, .string ⟨#[]⟩, .slice none 0 0, .slice none 0 0, .int .i64 0, .int .u64 0, .int .i64 0, .int .i64 0, .int .i64 0, .int .i64 0, .int .i64 0] (by kernel_rfl) ?_))
          have hne7 : P.set i (Sp.leafPg (M.take 3)) ≠ [] := fun e => by have h1 := congrArg List.length e; rw [List.length_set] at h1; simp only [List.length_nil] at h1; omega
          have hls : (P.set i (Sp.leafPg (M.take 3))).length = P.length := List.length_set
          go_upto_region 19 with (first
            | (go_at_call 75; rw [← hp2.out]; refine (add_any s fp (P.set i (Sp.leafPg (M.take 3))) (Sp.leafPg (M.drop 3)) (refsI (some ⟨g, 30, none⟩) (cap - 3)) _ (StF.of hst7 hne7) (leafRd (HD3.out.chg hk7) _) K1'.out (by omega)).mono ?_; rintro e w8 ⟨rfl, hst8, hk8⟩; rw [hls])
            | (refine wpList_built rfl PageT _ rfl #[.int .i64 1, .slice (some ⟨g, 30, none⟩) 2 (cap - 3), .slice none 0 0, .slice none 0 0, .string ⟨#[]⟩, .slice none 0 0, .slice none 0 0, .int .i64 0, .int .u64 0, .int .i64 0, .int .i64 0, .int .i64 0, .int .i64 0, .int .i64 0] (by kernel_rfl) ?_))
          have hd8 := (HD3.out.chg hk7).chg hk8
          obtain ⟨b', off', e', hb', hc'⟩ := hd8.at_ (k := 0) (by rw [List.length_drop]; have := HM5.out; omega)
          obtain ⟨rfl, rfl⟩ : g = b' ∧ 30 = off' := by simpa using e'
          obtain ⟨V2, c2, hi2, _⟩ := hc' 0 (by rw [List.length_drop]; have := HM5.out; omega)
          have y8 : w8.cell? ⟨g, 30, none⟩ = some (.string ⟨(M.getD 3 Sp.item0).key.toArray⟩) := by
            have := hi2.c0
            rwa [show (M.drop 3).getD 0 Sp.item0 = M.getD 3 Sp.item0 by simp [List.getD]] at this
          have H8 := Lib.hid hst8
          have HK8 := Lib.hid (((Chg.of_below HCK.out).trans hk7).trans hk8)
          clear hd8 hc' hi2 hst8 hk8 hk7 hst7 e'
          go_quiet (fail)
          go_wp2_with fail
          refine bodyPost_ret (v := .tuple #[.int .i64 ((i : Int) + 2), (.int .i64 (n : Int)), .string ⟨(M.getD 3 Sp.item0).key.toArray⟩, .int .i64 0]) (by simp [results, Tryz.results101, go_sem]) rfl ⟨by rw [K4.out, K5.out], _, H8.out.go (below_drewN (Below.refl _ _) _), K2.out, HK8.out.drewN _⟩
      · simp only [Bool.toNat_true] at hLk
        go_upto_region 12 with fail
        obtain ⟨w6, rfl⟩ : ∃ W, W = wr := ⟨_, rfl⟩
        have R6 := Lib.hid (show LfW w0 w6 s (Sp.insIt x l0) _ from hlf.out.done.symm ▸ R.out)
        clear R hlf c1r HBX0 hb0 hz0w hLk HXV HIT hz2 c1 e0
        obtain ⟨g, cap, rfl, hg, hgW, hlc, hcm, hit⟩ := R6.out.row hsw (by omega) (by omega)
        have HST := Lib.hid (D.out.st.go R6.out.hb)
        have HCK := Lib.hid (D.out.hb.trans (R6.out.hb.mono D.out.hb.size))
        have HI6 := Lib.hid hit
        clear R6 D hit
        obtain ⟨vi, vp, hst, _⟩ := HST.out
        have hst6 := Lib.hid hst
        clear hst
        have hPn : P.length ≤ 120 := by have := HN.out; omega
        generalize hM : Sp.insIt x l0 = M at *
        by_cases hs : M.length ≤ 4
        · obtain ⟨k1, k2, k3⟩ := J2.out hs
          have hs' : ((M.length : Int) ≤ 4) := by omega
          have K1 := Lib.hid k1
          have K2 := Lib.hid k2
          have K3 := Lib.hid k3
          clear k1 k2 k3 J2 J3
          go_wp2_with (first
            | (go_at_call 103; refine (set_any s fp vi vp P i (Sp.leafPg M) (refsI (some ⟨g, 0, none⟩) cap) _ hst6.out (by omega) (by omega) (leafRd HI6.out cap) K1.out).mono ?_; rintro e w7 ⟨rfl, vp', hst7, hk7⟩)
            | (refine wpList_built rfl PageT _ rfl (pageV (Sp.leafPg M) (refsI (some ⟨g, 0, none⟩) cap)).toArray (by kernel_rfl) ?_))
          refine bodyPost_ret (v := .tuple #[.int .i64 ((i : Int) + 2), .int .i64 0, .string ⟨#[]⟩, .int .i64 0]) (by simp [results, Tryz.results101, go_sem]) rfl ⟨by rw [K3.out]; rfl, _, StF.of hst7 (fun e => by have h1 := congrArg List.length e; rw [List.length_set] at h1; simp only [List.length_nil] at h1; omega), K2.out, (Chg.of_below HCK.out).trans hk7⟩
        · obtain ⟨k1, k1', k2, k3, k4, k5⟩ := J3.out hs
          have hs' : ¬ ((M.length : Int) ≤ 4) := by omega
          have hM5 : M.length = 5 := by omega
          have ht3 : (M.take 3).length = 3 := by rw [List.length_take]; omega
          have hd3 : (M.drop 3).length = 2 := by rw [List.length_drop]; omega
          have K1 := Lib.hid k1
          have K1' := Lib.hid k1'
          have K2 := Lib.hid k2
          have K3 := Lib.hid k3
          have K4 := Lib.hid k4
          have K5 := Lib.hid k5
          have hc3 : ¬ cap = 3 := by omega
          have hc3' : 3 ≤ cap := by omega
          have hc5 : 5 ≤ cap := by omega
          have hnP : P.length < 120 := by have := HN.out; omega
          have hp1 := Lib.hid (show pageV (Sp.leafPg (M.take 3)) (refsI (some ⟨g, 0, none⟩) cap) = [.int .i64 1, .slice (some ⟨g, 0, none⟩) 3 cap, .slice none 0 0, .slice none 0 0, .string ⟨#[]⟩, .slice none 0 0, .slice none 0 0, .int .i64 0, .int .u64 0, .int .i64 0, .int .i64 0, .int .i64 0, .int .i64 0, .int .i64 0] by rw [leafV, ht3])
          have hp2 := Lib.hid (show pageV (Sp.leafPg (M.drop 3)) (refsI (some ⟨g, 30, none⟩) (cap - 3)) = [.int .i64 1, .slice (some ⟨g, 30, none⟩) 2 (cap - 3), .slice none 0 0, .slice none 0 0, .string ⟨#[]⟩, .slice none 0 0, .slice none 0 0, .int .i64 0, .int .u64 0, .int .i64 0, .int .i64 0, .int .i64 0, .int .i64 0, .int .i64 0] by rw [leafV, hd3])
          have hd : Items w6 (OneM s) (some ⟨g, 30, none⟩) (M.drop 3) := by have := HI6.out.drop 3; rwa [show 0 + 3 * 10 = 30 from rfl] at this
          have HD3 := Lib.hid hd
          have HM5 := Lib.hid hM5
          have hh : (((5 : Nat) : Int) + 1) / 2 = 3 := by decide
          clear k1 k1' k2 k3 k4 k5 J2 J3 hd ht3 hd3
          rw [hM5]
          clear hM5 hs hs'
          go_upto_region 15 with (go_at_call 104; refine (half_any 5 (by omega) (by omega) _).mono ?_; rintro e w2 ⟨rfl, rfl⟩)
          go_upto_region 18 with (first
            | (go_at_call 103; rw [← hp1.out]; refine (set_any s fp vi vp P i (Sp.leafPg (M.take 3)) (refsI (some ⟨g, 0, none⟩) cap) _ hst6.out (by omega) (by omega) (leafRd (HI6.out.take 3) cap) K1.out).mono ?_; rintro e w7 ⟨rfl, vp', hst7, hk7⟩)
            | (refine wpList_built rfl PageT _ rfl #[.int .i64 1, .slice (some ⟨g, 0, none⟩) 3 cap, .slice none 0 0, .slice none 0 0, .string ⟨#[]⟩, .slice none 0 0, .slice none 0 0, .int .i64 0, .int .u64 0, .int .i64 0, .int .i64 0, .int .i64 0, .int .i64 0, .int .i64 0] (by kernel_rfl) ?_))
          have hne7 : P.set i (Sp.leafPg (M.take 3)) ≠ [] := fun e => by have h1 := congrArg List.length e; rw [List.length_set] at h1; simp only [List.length_nil] at h1; omega
          have hls : (P.set i (Sp.leafPg (M.take 3))).length = P.length := List.length_set
          go_upto_region 19 with (first
            | (go_at_call 75; rw [← hp2.out]; refine (add_any s fp (P.set i (Sp.leafPg (M.take 3))) (Sp.leafPg (M.drop 3)) (refsI (some ⟨g, 30, none⟩) (cap - 3)) _ (StF.of hst7 hne7) (leafRd (HD3.out.chg hk7) _) K1'.out (by omega)).mono ?_; rintro e w8 ⟨rfl, hst8, hk8⟩; rw [hls])
            | (refine wpList_built rfl PageT _ rfl #[.int .i64 1, .slice (some ⟨g, 30, none⟩) 2 (cap - 3), .slice none 0 0, .slice none 0 0, .string ⟨#[]⟩, .slice none 0 0, .slice none 0 0, .int .i64 0, .int .u64 0, .int .i64 0, .int .i64 0, .int .i64 0, .int .i64 0, .int .i64 0] (by kernel_rfl) ?_))
          have hd8 := (HD3.out.chg hk7).chg hk8
          obtain ⟨b', off', e', hb', hc'⟩ := hd8.at_ (k := 0) (by rw [List.length_drop]; have := HM5.out; omega)
          obtain ⟨rfl, rfl⟩ : g = b' ∧ 30 = off' := by simpa using e'
          obtain ⟨V2, c2, hi2, _⟩ := hc' 0 (by rw [List.length_drop]; have := HM5.out; omega)
          have y8 : w8.cell? ⟨g, 30, none⟩ = some (.string ⟨(M.getD 3 Sp.item0).key.toArray⟩) := by
            have := hi2.c0
            rwa [show (M.drop 3).getD 0 Sp.item0 = M.getD 3 Sp.item0 by simp [List.getD]] at this
          have H8 := Lib.hid hst8
          have HK8 := Lib.hid (((Chg.of_below HCK.out).trans hk7).trans hk8)
          clear hd8 hc' hi2 hst8 hk8 hk7 hst7 e'
          go_quiet (fail)
          go_wp2_with fail
          refine bodyPost_ret (v := .tuple #[.int .i64 ((i : Int) + 2), (.int .i64 (n : Int)), .string ⟨(M.getD 3 Sp.item0).key.toArray⟩, .int .i64 0]) (by simp [results, Tryz.results101, go_sem]) rfl ⟨by rw [K4.out, K5.out], _, H8.out.go (below_drewN (Below.refl _ _) _), K2.out, HK8.out.drewN _⟩
end Go.Proofs.YtmcpkhknjdiocaaGreat
namespace Go.Proofs.YtmcpkhknjdiocaaGreat
open Go.RowKit
attribute [local go_sem low] mk_extract
attribute [local go_sem] After.cell After.frozen mk_extract_end ByteArray.mk_append_mk
/-- What put tells of a tree. -/
def PutOut (x : Sp.Item) (d : Nat) (t : Sp.T d) (s n : Nat) (fp : Value) (P : List Sp.Page) (w : World) (e : Ending) (w' : World) : Prop :=
  e = .returned (.tuple #[.int .i64 ((Sp.T.id d t : Nat) : Int), .int .i64 (Sp.moreId d (Sp.T.put x d t n).2.1 : Nat), .string ⟨(Sp.moreKey (Sp.T.put x d t n).2.1).toArray⟩, .int .i64 0]) ∧
    ∃ P', StF w' s fp P' ∧ Sp.PutRes P P' d t n (Sp.T.put x d t n) ∧ Chg (OneM s) w w'
theorem PutOut.from_ {x : Sp.Item} {d : Nat} {t : Sp.T d} {s n : Nat} {fp : Value} {P : List Sp.Page} {w w1 : World} {e : Ending} {w' : World} (h : PutOut x d t s n fp P w1 e w') (hk : Chg (OneM s) w w1) : PutOut x d t s n fp P w e w' := by
  obtain ⟨h1, P', h2, h3, h4⟩ := h
  exact ⟨h1, P', h2, h3, hk.trans h4⟩
/-- What put holds of its arguments. -/
structure PuS (w W : World) (s : Nat) (fp : Value) (P : List Sp.Page) (x : Sp.Item) (V : Option Addr) (c : Nat) : Prop where
  st : StF W s fp P
  bx : Blk W w.heap.size ItemT (itemV x V c).toArray
  xv : Txts W (OneM s) V x.vals
  ck : Chg (OneM s) w W
  hs : s < w.heap.size
theorem PuS.start {w : World} {s : Nat} {fp : Value} {P : List Sp.Page} {x : Sp.Item} {V : Option Addr} (c : Nat) (h : StF w s fp P) (hV : Txts w (OneM s) V x.vals) : PuS w (w.alloc (.cells (itemV x V c).toArray ItemT)) s fp P x V c :=
  ⟨h.go ((Below.refl _ _).alloc (Nat.le_refl _) _), Blk.new _ _ _, hV.go ((Below.refl _ _).alloc (Nat.le_refl _) _), Chg.of_below ((Below.refl _ _).alloc (Nat.le_refl _) _), by obtain ⟨_, _, h, _⟩ := h; exact h.bs.lt⟩
theorem PuS.go {w W W' : World} {s : Nat} {fp : Value} {P : List Sp.Page} {x : Sp.Item} {V : Option Addr} {c : Nat} (h : PuS w W s fp P x V c) (hb : Below W.heap.size W W') : PuS w W' s fp P x V c :=
  ⟨h.st.go hb, h.bx.below hb h.bx.lt, h.xv.go hb, h.ck.trans (Chg.of_below hb), h.hs⟩
/-- And of the page that it read. -/
structure PqS (w W : World) (s b : Nat) (fp : Value) (P : List Sp.Page) (x : Sp.Item) (V : Option Addr) (c : Nat) (p : Sp.Page) (r : Refs) : Prop where
  u : PuS w W s fp P x V c
  bp : Blk W b PageT (pageV p r).toArray
  pr : PageRd W (OneM s) p r
  hne : w.heap.size < b
theorem PqS.start {w W : World} {s : Nat} {fp : Value} {P : List Sp.Page} {x : Sp.Item} {V : Option Addr} {c : Nat} {p : Sp.Page} {r : Refs} (h : PuS w W s fp P x V c) (hr : PageRd W (OneM s) p r) : PqS w (W.alloc (.cells (pageV p r).toArray PageT)) s W.heap.size fp P x V c p r :=
  ⟨h.go ((Below.refl _ _).alloc (Nat.le_refl _) _), Blk.new _ _ _, hr.go ((Below.refl _ _).alloc (Nat.le_refl _) _), h.bx.lt⟩
theorem PqS.go {w W W' : World} {s b : Nat} {fp : Value} {P : List Sp.Page} {x : Sp.Item} {V : Option Addr} {c : Nat} {p : Sp.Page} {r : Refs} (h : PqS w W s b fp P x V c p r) (hb : Below W.heap.size W W') : PqS w W' s b fp P x V c p r :=
  ⟨h.u.go hb, h.bp.below hb h.bp.lt, h.pr.go hb, h.hne⟩
theorem PqS.call {w W W' : World} {s b : Nat} {fp : Value} {P P1 : List Sp.Page} {x : Sp.Item} {V : Option Addr} {c : Nat} {p : Sp.Page} {r : Refs} (h : PqS w W s b fp P x V c p r) (hst : StF W' s fp P1) (hk : Chg (OneM s) W W') : PqS w W' s b fp P1 x V c p r :=
  ⟨⟨hst, h.u.bx.chg hk (fun e => by have := h.u.hs; have e : w.heap.size = s := e; omega), h.u.xv.chg hk, h.u.ck.trans hk, h.u.hs⟩, h.bp.chg hk (fun e => by have := h.u.hs; have := h.hne; have e : b = s := e; omega), h.pr.chg hk, h.hne⟩
attribute [local go_sem] itemV_len
set_option maxRecDepth 100000 in
set_option maxHeartbeats 1600000 in
theorem put_at_leaf (s : Nat) (fp : Value) (P : List Sp.Page) (i n : Nat) (l0 : List Sp.Item) (x : Sp.Item) (V : Option Addr) (c : Nat) (b : Bool) (w : World) (h : StF w s fp P) (hV : Txts w (OneM s) V x.vals)
    (hx : Sp.isItem x = true) (hok : Sp.T.Ok 0 b (i + 2, l0)) (hon : Sp.T.On P 0 (i + 2, l0) n) (hn : (Sp.T.put x 0 (i + 2, l0) n).2.2 ≤ 122) (hle : n ≤ (Sp.T.put x 0 (i + 2, l0) n).2.2) :
    Calls Tryz.prog 76 #[.pointer (some ⟨s, 0, none⟩), .int .i64 ((i : Int) + 2), .agg (itemV x V c).toArray] w fun e w' => PutOut x 0 (i + 2, l0) s n fp P w e w' := by
  have S := Lib.hid (PuS.start c h hV)
  have hidn : i + 2 < n := hon.lt (i + 2) (by simp [Sp.T.ids])
  have hlen := hon.len
  have hpg : P[i]? = some (Sp.leafPg l0) := hon.holds.2
  have HPG := Lib.hid hpg
  have HX := Lib.hid hx
  have HOK := Lib.hid hok
  have HON := Lib.hid hon
  have HN := Lib.hid hn
  have hPn : P.length ≤ 120 := by omega
  clear h hV hx hok hon hn hle hpg
  go_enter Tryz.func76, Tryz.ntmps76
  go_upto_region 7 with (first
    | (go_at_call 100; refine (touch_own s fp P i _ S.out.st (by omega) hPn).mono ?_; rintro e w2 ⟨rfl, rfl⟩)
    | (go_at_call 88; refine (read_own s fp P i (Sp.leafPg l0) _ S.out.st HPG.out hPn (by simp [Sp.leafPg])).mono ?_; rintro e w3 ⟨r, rfl, hr, hb3⟩; replace S := Lib.hid (S.out.go hb3); have HR := Lib.hid hr; clear hr hb3)
    | (refine wpList_new PageT _ _ rfl rfl rfl rfl rfl rfl _ rfl (of_decide_eq_true (by kernel_rfl)) (by kernel_rfl) (by kernel_rfl) (by kernel_rfl) ?_))
  refine wp_gen (fun W => PqS w W s w3.heap.size fp P x V c (Sp.leafPg l0) r) (PqS.start S.out HR.out) ?_
  intro w4 hT
  have T := Lib.hid hT
  clear hT S HR
  generalize w3.heap.size = bq at *
  have c0 : w4.cell? ⟨bq, 0, none⟩ = some (.int .i64 1) := T.out.bp.cell 0
  go_wp2_with (first
    | (go_at_call 101; refine (putLeaf_any s fp P i n l0 x V c r b _ T.out.u.st T.out.pr T.out.u.xv HX.out HOK.out HON.out HN.out).mono ?_; rintro e w5 ⟨rfl, P', h1, h2, h3⟩)
    | (refine wpList_row PageT _ rfl bq rfl rfl PageT _ (0, 0) _ T.out.bp Tryz.underlying108 rfl (by kernel_rfl) ?_)
    | (refine wpList_row ItemT _ rfl w.heap.size rfl rfl ItemT _ (0, 0) _ T.out.u.bx Tryz.underlying71 rfl (by kernel_rfl) ?_))
  refine bodyPost_ret (v := .tuple #[.int .i64 ((i : Int) + 2), .int .i64 (Sp.moreId 0 (Sp.T.put x 0 (i + 2, l0) n).2.1 : Nat), .string ⟨(Sp.moreKey (Sp.T.put x 0 (i + 2, l0) n).2.1).toArray⟩, .int .i64 0]) (by simp [results, Tryz.results76, go_sem]) rfl ⟨rfl, P', h1, h2, T.out.u.ck.trans h3⟩
end Go.Proofs.YtmcpkhknjdiocaaGreat
