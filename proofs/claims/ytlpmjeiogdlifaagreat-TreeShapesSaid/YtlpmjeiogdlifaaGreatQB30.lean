/- The document's put into a leaf: what is held. The document's stores: a page that is laid behind others. The document's stores: a page that is laid where none is. The document's stores: a page is laid behind others, or where none is. The document's stores: a page is added; read; touched. -/
import Derived.Test.YtlpmjeiogdlifaaGreatQB23
import Derived.Test.YtlpmjeiogdlifaaGreatQB29
import Derived.Deep.RegionLaw
import Derived.BigQuiet
set_option linter.unusedSimpArgs false
set_option linter.unusedVariables false
namespace Go.Proofs.YtlpmjeiogdlifaaGreat
open Go.RowKit
attribute [local go_sem low] mk_extract
attribute [local go_sem] After.cell After.frozen mk_extract_end ByteArray.mk_append_mk
theorem ItemAt.cells {w : World} {b o : Nat} {x : Sp.Item} {V : Option Addr} {c : Nat} (h : ItemAt w b o x V c) : ∀ j v, (itemV x V c).toArray[j]? = some v → w.cell? ⟨b, o + j, none⟩ = some v := by
  intro j v hv
  rw [List.getElem?_toArray] at hv
  match j, hv with
  | 0, hv => exact h.c0.trans hv
  | 1, hv => exact h.c1.trans hv
  | 2, hv => exact h.c2.trans hv
  | 3, hv => exact h.c3.trans hv
  | 4, hv => exact h.c4.trans hv
  | 5, hv => exact h.c5.trans hv
  | 6, hv => exact h.c6.trans hv
  | 7, hv => exact h.c7.trans hv
  | 8, hv => exact h.c8.trans hv
  | 9, hv => exact h.c9.trans hv
  | j + 10, hv => simp [itemV] at hv
theorem item_fold (x : Sp.Item) (V : Option Addr) (c : Nat) : List.foldl (fun (cs : Array Value) (x : Value × Nat) => cs.setIfInBounds x.snd x.fst) #[.string ⟨#[]⟩, .int .i64 0, .string ⟨#[]⟩, .int .i64 0, .int .i64 0, .slice none 0 0, .int .i64 0, .int .i64 0, .int .i64 0, .int .i64 0] (itemV x V c).zipIdx = (itemV x V c).toArray := by
  simp [itemV]
structure PlS (w W : World) (s b : Nat) (fp : Value) (P : List Sp.Page) (l0 : List Sp.Item) (r : Refs) (x : Sp.Item) (V : Option Addr) (c : Nat) : Prop where
  st : StF W s fp P
  bp : Blk W b PageT (pageV (Sp.leafPg l0) r).toArray
  bx : Blk W (b + 1) ItemT (itemV x V c).toArray
  pr : PageRd W (OneM s) (Sp.leafPg l0) r
  xv : Txts W (OneM s) V x.vals
  hb : Below w.heap.size w W
structure LfW (w0 W : World) (s : Nat) (L : List Sp.Item) (v : Value) : Prop where
  hb : Below w0.heap.size w0 W
  own : ∃ xs, W.ownsRow w0.heap.size ItemT 10 v L.length xs ∧ ItP w0 (OneM s) L xs
theorem LfW.start (w0 : World) (s : Nat) : LfW w0 w0 s [] (.slice none 0 0) := ⟨Below.refl _ _, [], own_nil _ _ _ _, rfl⟩
theorem LfW.app {w0 W w' : World} {s : Nat} {L : List Sp.Item} {v v' : Value} {xs : List Value} {y : Sp.Item} {V : Option Addr} {c n : Nat} (h : LfW w0 W s L v) (hown : W.ownsRow w0.heap.size ItemT 10 v L.length xs) (hx : ItP w0 (OneM s) L xs) (hy : Txts w0 (OneM s) V y.vals)
    (hown' : w'.ownsRow w0.heap.size ItemT 10 v' n (xs ++ itemV y V c)) (hn : n = L.length + 1) (hgr : (W.alloc (.cells (itemV y V c).toArray ItemT)).grownBy w' v.ownBlock) : LfW w0 w' s (L ++ [y]) v' := by
  have hal : Below w0.heap.size w0 (W.alloc (.cells (itemV y V c).toArray ItemT)) := h.hb.alloc h.hb.size _
  have hown2 := own_chg2 (S := NoM) hown ((Chg.refl _ _).alloc (.cells (itemV y V c).toArray ItemT)) (fun _ _ h => h)
  refine ⟨hal.trans (grown_own hown2 hal.size hgr), xs ++ itemV y V c, ?_, hx.snoc hy⟩
  subst hn
  rw [List.length_append]
  exact hown'
theorem LfW.go {w0 W w' : World} {s : Nat} {L : List Sp.Item} {v : Value} (h : LfW w0 W s L v) (hb : Below W.heap.size W w') : LfW w0 w' s L v := by
  obtain ⟨xs, h1, h2⟩ := h.own
  exact ⟨h.hb.trans (hb.mono h.hb.size), xs, own_chg2 (S := NoM) h1 (Chg.of_below hb) (fun _ _ h => h), h2⟩
theorem LfW.row {w0 W : World} {s : Nat} {L : List Sp.Item} {v : Value} (h : LfW w0 W s L v) (hs : s < w0.heap.size) (hn : 0 < L.length) (hl : L.length ≤ 1000) :
    ∃ g cap, v = .slice (some ⟨g, 0, none⟩) L.length cap ∧ w0.heap.size ≤ g ∧ g < W.heap.size ∧ L.length ≤ cap ∧ cap ≤ maxLen ∧ Items W (OneM s) (some ⟨g, 0, none⟩) L := by
  obtain ⟨xs, h1, h2⟩ := h.own
  obtain ⟨g, cap, rfl, hg, hc⟩ := own_some h1 hn
  obtain ⟨h3, h4⟩ := own_cap h1
  have hge : w0.heap.size ≤ g := by
    rcases h1.2 with ⟨h', _⟩ | ⟨g2, _, _, hv, hb, _⟩
    · cases h'
    · simp only [Value.slice.injEq, Option.some.injEq, Addr.mk.injEq] at hv
      omega
  refine ⟨g, cap, rfl, hge, hg, h3, h4, (h2.chg (Chg.of_below h.hb)).items hg (fun e => by unfold OneM at e; omega) (fun j u hu => ?_) hl⟩
  rw [Nat.zero_add]
  exact hc j u hu
end Go.Proofs.YtlpmjeiogdlifaaGreat
namespace Go.Proofs.YtlpmjeiogdlifaaGreat
open Go.RowKit
attribute [local go_sem low] mk_extract
attribute [local go_sem] After.cell After.frozen mk_extract_end ByteArray.mk_append_mk
set_option maxRecDepth 100000 in
set_option maxHeartbeats 16000000 in
theorem dirty_ne (s : Nat) (fp lv vi vp : Value) (P : List Sp.Page) (p : Sp.Page) (r : Refs) (w : World) (bs : Blk w s StoreT #[fp, lv, .int .i64 400, .slice none 0 0, .slice none 0 0, vi, vp])
    (oi : w.ownsRow 0 3 1 vi P.length (idsV P.length)) (op : ∃ xs, w.ownsRow 0 PageT 14 vp P.length xs ∧ PgCells w (OneM s) P xs) (hp : PageRd w (OneM s) p r) (h0 : 0 < P.length) (hn : P.length < 120) :
    Calls Tryz.prog 144 #[.pointer (some ⟨s, 0, none⟩), .int .i64 ((P.length : Int) + 2), .agg (pageV p r).toArray] w fun e w' => e = .returned (.tuple #[]) ∧
      ∃ vi' vp', Blk w' s StoreT #[fp, lv, .int .i64 400, .slice none 0 0, .slice none 0 0, vi', vp'] ∧ w'.ownsRow 0 3 1 vi' (P.length + 1) (idsV (P.length + 1)) ∧
        (∃ xs, w'.ownsRow 0 PageT 14 vp' (P.length + 1) xs ∧ PgCells w' (OneM s) (P ++ [p]) xs) ∧ Chg (OneM s) w w' := by
  obtain ⟨i0, hi0, hz0, hz1, hz2⟩ := info_parts info_int
  obtain ⟨i1, hi1, hy0, hy1, hy2⟩ := info_parts info_page
  have hal : Below w.heap.size w (w.alloc (.cells (pageV p r).toArray PageT)) := (Below.refl _ _).alloc (Nat.le_refl _) _
  have hD : DrS w (w.alloc (.cells (pageV p r).toArray PageT)) s w.heap.size P.length fp lv vi vp P p r := by
    obtain ⟨xs, h1, h2⟩ := op
    exact ⟨bs.below hal bs.lt, own_chg2 (S := NoM) oi (Chg.of_below hal) (fun _ _ h => h), ⟨xs, own_chg2 (S := NoM) h1 (Chg.of_below hal) (fun _ _ h => h), h2.chg (Chg.of_below hal)⟩, Blk.new _ _ _, hp.chg (Chg.of_below hal), Chg.of_below hal, Nat.le_refl _⟩
  clear bs oi op hp hal
  go_enter Tryz.func144, Tryz.ntmps144
  go_upto_region 1 with fail
  refine wp_gen (fun W => DrS w W s w.heap.size P.length fp lv vi vp P p r) hD ?_
  clear hD
  intro w1 D1
  obtain ⟨g, cap, hvi, hgw, hcg⟩ := own_some D1.oi h0
  have c5 : w1.cell? ⟨s, 5, none⟩ = some (.slice (some ⟨g, 0, none⟩) P.length cap) := by rw [← hvi]; exact D1.bs.cell 5
  have f5 := D1.bs.frozen 5
  obtain ⟨hca, hcb⟩ := own_cap (hvi ▸ D1.oi)
  simp only [maxLen] at hcb
  have hs1 := D1.bs.lt
  have D1 := Lib.hid D1
  have HCG := Lib.hid hcg
  have HVI := Lib.hid hvi
  clear hcg hvi
  go_wp2_with fail
  go_loopw [6] (fun i wr => ∃ k : Nat, k ≤ P.length ∧ i = .int .i64 (k : Int) ∧ wr = w1) (fun i _ => P.length - (intOf i).toNat)
  case atStart => exact ⟨0, by omega, rfl, rfl⟩
  case round =>
    obtain ⟨k, hk, rfl, rfl⟩ := hrel
    by_cases hlt : k < P.length
    · have hc := HCG.out k _ (idsV_at hlt)
      have hle : (((k + 2 : Nat) : Int) < (P.length : Int) + 2) := by omega
      go_wp2_with fail
      exact ⟨⟨k + 1, by omega, by go_num, trivial⟩, by simp [intOf]; omega⟩
    · obtain rfl : k = P.length := by omega
      clear hlt
      go_upto_region 4 with fail
      have HN2 := Lib.hid (show ∀ u ∈ idsV P.length, u.oneCell' = true from fun u hu => by
        unfold idsV at hu
        obtain ⟨k, _, rfl⟩ := List.mem_map.1 hu
        rfl)
      have HL := Lib.hid (show (idsV P.length).length = P.length * 1 by simp [idsV])
      have HI1 := Lib.hid (show ∀ u ∈ [Value.int .i64 ((P.length : Int) + 2)], u.oneCell' = true from fun u hu => by rw [List.mem_singleton.1 hu]; rfl)
      obtain ⟨A0, hif⟩ : ∃ A0 : Addr, (if cap = P.length then some (⟨g, 0, none⟩ : Addr) else some ⟨g, P.length, none⟩) = some A0 := by split <;> exact ⟨_, rfl⟩
      have HIF := Lib.hid hif
      clear hif
      go_cut [] (fun W => ∃ v, DrS w W s w.heap.size (P.length + 1) fp lv v vp P p r)
      case first =>
        go_region_law (first
          | (refine step_append_own rfl (.const (.slice none 0 0)) (.tmp 33) _ rfl wr.heap.size 3 i0 _ 1 8 Tryz.underlying32 hi0 hz0 hz1 hz2 rfl (by decide) (.slice none 0 0) 0 [] rfl (own_nil _ _ _ _) ⟨g, 0, none⟩ P.length cap (idsV P.length) rfl HL.out (cells_keep (w := wr) ?_ hgw (by simpa using HCG.out)) HN2.out (by simp only [maxLen]; omega) (by omega) ?_ ?_; ((repeat (first | (with_reducible exact Below.refl _ _) | (with_reducible assumption) | (refine below_step (by assumption) (by first | omega | (simp; done) | (simp; omega)) ?_) | (with_reducible refine Below.alloc ?_ (by first | omega | (simp; done) | (simp; omega)) _) | (with_reducible refine Below.drew ?_) | (with_reducible refine below_drewN ?_ _) | (with_reducible refine Below.setCell ?_ (by first | omega | (simp; done) | (simp; omega)) _)))); (exact Below.size (B := wr.heap.size) (by (repeat (first | (with_reducible exact Below.refl _ _) | (with_reducible assumption) | (refine below_step (by assumption) (by first | omega | (simp; done) | (simp; omega)) ?_) | (with_reducible refine Below.alloc ?_ (by first | omega | (simp; done) | (simp; omega)) _) | (with_reducible refine Below.drew ?_) | (with_reducible refine below_drewN ?_ _) | (with_reducible refine Below.setCell ?_ (by first | omega | (simp; done) | (simp; omega)) _))))); (intro v2 w2 hown2 hgr2 hnil2; replace hown2 : w2.ownsRow wr.heap.size 3 1 v2 P.length (idsV P.length) := by simpa using hown2); (obtain ⟨g1, cap1, rfl, hg1, _⟩ := own_some hown2 h0; have hb1 := grown_below hgr2; have hB2 : Below wr.heap.size wr w2 := (by (repeat (first | (with_reducible exact Below.refl _ _) | (with_reducible assumption) | (refine below_step (by assumption) (by first | omega | (simp; done) | (simp; omega)) ?_) | (with_reducible refine Below.alloc ?_ (by first | omega | (simp; done) | (simp; omega)) _) | (with_reducible refine Below.drew ?_) | (with_reducible refine below_drewN ?_ _) | (with_reducible refine Below.setCell ?_ (by first | omega | (simp; done) | (simp; omega)) _)))); (first | have C36 := Lib.hid (cell_one_keep hb1) | have C36 := Lib.hid (cell_one_keepD hb1) | skip); clear hb1 hgr2 hnil2; have HO2 := Lib.hid hown2; have hz2w := hB2.size; have hs2 : s < w2.heap.size := Nat.lt_of_lt_of_le hs1 hz2w; have c52 := (hB2.cell (p := ⟨s, 5, none⟩) hs1).trans c5; have f52 := (hB2.frozen (p := ⟨s, 5, none⟩) hs1).trans f5))
          | (refine step_append_lies _ rfl (.tmp 34) (.tmp 36) _ rfl wr.heap.size 3 i0 _ 1 8 Tryz.underlying32 hi0 hz0 hz1 hz2 rfl (by decide) (.slice (some ⟨g1, 0, none⟩) P.length cap1) P.length (idsV P.length) rfl ?_ _ 1 1 [.int .i64 ((P.length : Int) + 2)] rfl rfl ?_ HI1.out (by omega) (by simp only [maxLen]; omega) (by omega) ?_ _ rfl ?_; (first | exact HO2.out | exact own_chg2 (S := NoM) HO2.out ((Chg.refl _ _).alloc _) (fun _ _ h => h)); (first | exact C36.out | exact cell_one_new _ _ _); (first | omega | (simp; omega)); (intro g2 cap2 w3 hown3 hgr3 hat3 hlt3; have hb3 := grown_own (base := wr.heap.size) (by first | exact HO2.out | exact own_chg2 (S := NoM) HO2.out ((Chg.refl _ _).alloc _) (fun _ _ h => h)) (by first | omega | (simp; omega)) hgr3; have hB3 : Below wr.heap.size wr w3 := Below.trans (by (repeat (first | (with_reducible exact Below.refl _ _) | (with_reducible assumption) | (refine below_step (by assumption) (by first | omega | (simp; done) | (simp; omega)) ?_) | (with_reducible refine Below.alloc ?_ (by first | omega | (simp; done) | (simp; omega)) _) | (with_reducible refine Below.drew ?_) | (with_reducible refine below_drewN ?_ _) | (with_reducible refine Below.setCell ?_ (by first | omega | (simp; done) | (simp; omega)) _)))) hb3; clear hb3 hgr3 hat3; have HO3 := Lib.hid hown3; have hz3w := hB3.size; have hs3 : s < w3.heap.size := Nat.lt_of_lt_of_le hs1 hz3w; have c53 := (hB3.cell (p := ⟨s, 5, none⟩) hs1).trans c5; have f53 := (hB3.frozen (p := ⟨s, 5, none⟩) hs1).trans f5))
          | (refine step_append_own rfl (.tmp 37) (.tmp 43) _ rfl wr.heap.size 3 i0 _ 1 8 Tryz.underlying32 hi0 hz0 hz1 hz2 rfl (by decide) (.slice (some ⟨g2, 0, none⟩) (P.length + 1) cap2) (P.length + 1) (idsV P.length ++ [.int .i64 ((P.length : Int) + 2)]) rfl HO3.out A0 0 (cap - P.length) [] (congrArg (fun z => Value.slice z 0 (cap - P.length)) HIF.out) rfl (fun j u h => by simp at h) (fun u h => by simp at h) (by simp only [maxLen]; omega) (by omega) (by omega) ?_; (intro v4 w4 hown4 hgr4 hnil4; replace hown4 : w4.ownsRow wr.heap.size 3 1 v4 (P.length + 1) (idsV (P.length + 1)) := by rw [idsV_succ]; simpa using hown4); (obtain ⟨g4, cap4, rfl, _, _⟩ := own_some hown4 (Nat.succ_pos _); have hB4 : Below wr.heap.size wr w4 := hB3.trans (grown_own HO3.out (by omega) hgr4); clear hgr4 hnil4; have HO4 := Lib.hid hown4; have c54 := (hB4.cell (p := ⟨s, 5, none⟩) hs1).trans c5; have f54 := (hB4.frozen (p := ⟨s, 5, none⟩) hs1).trans f5)))
        all_goals go_wp2_with fail
        all_goals
          go_meet
          case rel => exact ⟨_, DrS.ids D1.out hB4 HO4.out⟩
      case rest =>
        obtain ⟨v5, D2⟩ := hcut
        obtain ⟨w5, rfl⟩ : ∃ W, W = wc := ⟨_, rfl⟩
        clear D1 HCG HVI c5 f5 HIF A0 HN2 HL HI1
        obtain ⟨xs, hxo, hxc⟩ := D2.op
        have hxl := hxc.len
        obtain ⟨g0, cap0, rfl, hgw0, hcg0⟩ := own_some hxo h0
        obtain ⟨hca0, hcb0⟩ := own_cap hxo
        simp only [maxLen] at hcb0
        have c6 : w5.cell? ⟨s, 6, none⟩ = some (.slice (some ⟨g0, 0, none⟩) P.length cap0) := D2.bs.cell 6
        have f6 := D2.bs.frozen 6
        have hs5 := D2.bs.lt
        have hb5 := D2.bp.lt
        have hsb : s ≠ w.heap.size := fun e => Blk.not_ D2.bs (t' := PageT) (by decide) _ (e ▸ D2.bp)
        have HQ1 := Lib.hid (pageV_one p r)
        have HX1 := Lib.hid hxc.one
        have HCG := Lib.hid hcg0
        have HXC := Lib.hid hxc
        have hbp := D2.bp
        have D2 := Lib.hid D2
        clear hxo hcg0 hxc
        obtain ⟨q0, q1, q2, q3, q4, q5, q6, q7, q8, q9, q10, q11, q12, q13, hq⟩ := pageV_form p r
        have HQ := Lib.hid hq
        rw [hq] at HQ1 hbp
        have b0 := hbp.cell 0
        have b1 := hbp.cell 1
        have b2 := hbp.cell 2
        have b3 := hbp.cell 3
        have b4 := hbp.cell 4
        have b5 := hbp.cell 5
        have b6 := hbp.cell 6
        have b7 := hbp.cell 7
        have b8 := hbp.cell 8
        have b9 := hbp.cell 9
        have b10 := hbp.cell 10
        have b11 := hbp.cell 11
        have b12 := hbp.cell 12
        have b13 := hbp.cell 13
        simp at b0 b1 b2 b3 b4 b5 b6 b7 b8 b9 b10 b11 b12 b13
        have HBP := Lib.hid hbp
        clear hbp hq
        obtain ⟨A0, hif⟩ : ∃ A0 : Addr, (if cap0 = P.length then some (⟨g0, 0, none⟩ : Addr) else some ⟨g0, P.length * 14, none⟩) = some A0 := by split <;> exact ⟨_, rfl⟩
        have HIF := Lib.hid hif
        clear hif
        go_upto_region 5 with fail
        go_region_law (first
          | (refine step_append_own rfl (.const (.slice none 0 0)) (.tmp 53) _ rfl w5.heap.size PageT i1 _ 14 200 Tryz.underlying93 hi1 hy0 hy1 hy2 rfl (by decide) (.slice none 0 0) 0 [] rfl (own_nil _ _ _ _) ⟨g0, 0, none⟩ P.length cap0 xs rfl hxl (cells_keep (w := w5) ?_ hgw0 (by simpa using HCG.out)) HX1.out (by simp only [maxLen]; omega) (by omega) ?_ ?_; ((repeat (first | (with_reducible exact Below.refl _ _) | (with_reducible assumption) | (refine below_step (by assumption) (by first | omega | (simp; done) | (simp; omega)) ?_) | (with_reducible refine Below.alloc ?_ (by first | omega | (simp; done) | (simp; omega)) _) | (with_reducible refine Below.drew ?_) | (with_reducible refine below_drewN ?_ _) | (with_reducible refine Below.setCell ?_ (by first | omega | (simp; done) | (simp; omega)) _)))); (exact Below.size (B := w5.heap.size) (by (repeat (first | (with_reducible exact Below.refl _ _) | (with_reducible assumption) | (refine below_step (by assumption) (by first | omega | (simp; done) | (simp; omega)) ?_) | (with_reducible refine Below.alloc ?_ (by first | omega | (simp; done) | (simp; omega)) _) | (with_reducible refine Below.drew ?_) | (with_reducible refine below_drewN ?_ _) | (with_reducible refine Below.setCell ?_ (by first | omega | (simp; done) | (simp; omega)) _))))); (intro v2 w2 hown2 hgr2 hnil2; replace hown2 : w2.ownsRow w5.heap.size PageT 14 v2 P.length xs := by simpa using hown2); (obtain ⟨g1, cap1, rfl, hg1, _⟩ := own_some hown2 h0; have hb1 := grown_below hgr2; have hB2 : Below w5.heap.size w5 w2 := (by (repeat (first | (with_reducible exact Below.refl _ _) | (with_reducible assumption) | (refine below_step (by assumption) (by first | omega | (simp; done) | (simp; omega)) ?_) | (with_reducible refine Below.alloc ?_ (by first | omega | (simp; done) | (simp; omega)) _) | (with_reducible refine Below.drew ?_) | (with_reducible refine below_drewN ?_ _) | (with_reducible refine Below.setCell ?_ (by first | omega | (simp; done) | (simp; omega)) _)))); (first | have C36 := Lib.hid (cells_new_keep (l := [q0, q1, q2, q3, q4, q5, q6, q7, q8, q9, q10, q11, q12, q13]) hb1) | have C36 := Lib.hid (cells_new_keepD (l := [q0, q1, q2, q3, q4, q5, q6, q7, q8, q9, q10, q11, q12, q13]) hb1) | skip); clear hb1 hgr2 hnil2; have HO2 := Lib.hid hown2; have hz2w := hB2.size; have hs2 : s < w2.heap.size := Nat.lt_of_lt_of_le hs5 hz2w; have hbb2 : w.heap.size < w2.heap.size := Nat.lt_of_lt_of_le hb5 hz2w; have c62 := (hB2.cell (p := ⟨s, 6, none⟩) hs5).trans c6; have f62 := (hB2.frozen (p := ⟨s, 6, none⟩) hs5).trans f6; have HBP2 := HBP.out.below hB2 hb5; have b0 := HBP2.cell 0; have b1 := HBP2.cell 1; have b2 := HBP2.cell 2; have b3 := HBP2.cell 3; have b4 := HBP2.cell 4; have b5 := HBP2.cell 5; have b6 := HBP2.cell 6; have b7 := HBP2.cell 7; have b8 := HBP2.cell 8; have b9 := HBP2.cell 9; have b10 := HBP2.cell 10; have b11 := HBP2.cell 11; have b12 := HBP2.cell 12; have b13 := HBP2.cell 13; clear HBP2; simp at b0 b1 b2 b3 b4 b5 b6 b7 b8 b9 b10 b11 b12 b13))
          | (refine step_append_lies _ rfl (.tmp 54) (.tmp 56) _ rfl w5.heap.size PageT i1 _ 14 200 Tryz.underlying93 hi1 hy0 hy1 hy2 rfl (by decide) (.slice (some ⟨g1, 0, none⟩) P.length cap1) P.length xs rfl ?_ _ 1 1 [q0, q1, q2, q3, q4, q5, q6, q7, q8, q9, q10, q11, q12, q13] rfl rfl ?_ HQ1.out (by omega) (by simp only [maxLen]; omega) (by omega) ?_ _ rfl ?_; (first | exact HO2.out | exact own_chg2 (S := NoM) HO2.out ((Chg.refl _ _).alloc _) (fun _ _ h => h)); (first | exact C36.out | exact cells_new _ _ [q0, q1, q2, q3, q4, q5, q6, q7, q8, q9, q10, q11, q12, q13]); (first | omega | (simp; omega)); (intro g2 cap2 w3 hown3 hgr3 hat3 hlt3; have hb3 := grown_own (base := w5.heap.size) (by first | exact HO2.out | exact own_chg2 (S := NoM) HO2.out ((Chg.refl _ _).alloc _) (fun _ _ h => h)) (by first | omega | (simp; omega)) hgr3; have hB3 : Below w5.heap.size w5 w3 := Below.trans (by (repeat (first | (with_reducible exact Below.refl _ _) | (with_reducible assumption) | (refine below_step (by assumption) (by first | omega | (simp; done) | (simp; omega)) ?_) | (with_reducible refine Below.alloc ?_ (by first | omega | (simp; done) | (simp; omega)) _) | (with_reducible refine Below.drew ?_) | (with_reducible refine below_drewN ?_ _) | (with_reducible refine Below.setCell ?_ (by first | omega | (simp; done) | (simp; omega)) _)))) hb3; clear hb3 hgr3 hat3; have HO3 := Lib.hid hown3; have hz3w := hB3.size; have hs3 : s < w3.heap.size := Nat.lt_of_lt_of_le hs5 hz3w; have c63 := (hB3.cell (p := ⟨s, 6, none⟩) hs5).trans c6; have f63 := (hB3.frozen (p := ⟨s, 6, none⟩) hs5).trans f6))
          | (refine step_append_own rfl (.tmp 57) (.tmp 63) _ rfl w5.heap.size PageT i1 _ 14 200 Tryz.underlying93 hi1 hy0 hy1 hy2 rfl (by decide) (.slice (some ⟨g2, 0, none⟩) (P.length + 1) cap2) (P.length + 1) (xs ++ [q0, q1, q2, q3, q4, q5, q6, q7, q8, q9, q10, q11, q12, q13]) rfl HO3.out A0 0 (cap0 - P.length) [] (congrArg (fun z => Value.slice z 0 (cap0 - P.length)) HIF.out) rfl (fun j u h => by simp at h) (fun u h => by simp at h) (by simp only [maxLen]; omega) (by omega) (by omega) ?_; (intro v4 w4 hown4 hgr4 hnil4; replace hown4 : w4.ownsRow w5.heap.size PageT 14 v4 (P.length + 1) (xs ++ [q0, q1, q2, q3, q4, q5, q6, q7, q8, q9, q10, q11, q12, q13]) := by simpa using hown4); (obtain ⟨g4, cap4, rfl, _, _⟩ := own_some hown4 (Nat.succ_pos _); have hB4 : Below w5.heap.size w5 w4 := hB3.trans (grown_own HO3.out (by omega) hgr4); clear hgr4 hnil4; have HO4 := Lib.hid hown4; have c64 := (hB4.cell (p := ⟨s, 6, none⟩) hs5).trans c6; have f64 := (hB4.frozen (p := ⟨s, 6, none⟩) hs5).trans f6)))
        all_goals go_wp2_with fail
        all_goals
          go_end0
          have hf := DrS.page D2.out hB4 HXC.out (v := .slice (some ⟨g4, 0, none⟩) (P.length + 1) cap4) (HQ.out.symm ▸ HO4.out)
          exact ⟨rfl, _, _, hf.bs, hf.oi, hf.opn, hf.ck⟩
end Go.Proofs.YtlpmjeiogdlifaaGreat
namespace Go.Proofs.YtlpmjeiogdlifaaGreat
open Go.RowKit
attribute [local go_sem low] mk_extract
attribute [local go_sem] After.cell After.frozen mk_extract_end ByteArray.mk_append_mk
set_option maxRecDepth 100000 in
set_option maxHeartbeats 16000000 in
theorem dirty_nil (s : Nat) (fp lv : Value) (p : Sp.Page) (r : Refs) (w : World) (bs : Blk w s StoreT #[fp, lv, .int .i64 400, .slice none 0 0, .slice none 0 0, .slice none 0 0, .slice none 0 0]) (hp : PageRd w (OneM s) p r) :
    Calls Tryz.prog 144 #[.pointer (some ⟨s, 0, none⟩), .int .i64 2, .agg (pageV p r).toArray] w fun e w' => e = .returned (.tuple #[]) ∧
      ∃ vi' vp', Blk w' s StoreT #[fp, lv, .int .i64 400, .slice none 0 0, .slice none 0 0, vi', vp'] ∧ w'.ownsRow 0 3 1 vi' 1 (idsV 1) ∧
        (∃ xs, w'.ownsRow 0 PageT 14 vp' 1 xs ∧ PgCells w' (OneM s) [p] xs) ∧ Chg (OneM s) w w' := by
  obtain ⟨i0, hi0, hz0, hz1, hz2⟩ := info_parts info_int
  obtain ⟨i1, hi1, hy0, hy1, hy2⟩ := info_parts info_page
  have hal : Below w.heap.size w (w.alloc (.cells (pageV p r).toArray PageT)) := (Below.refl _ _).alloc (Nat.le_refl _) _
  have hD : DrS w (w.alloc (.cells (pageV p r).toArray PageT)) s w.heap.size 0 fp lv (.slice none 0 0) (.slice none 0 0) [] p r :=
    ⟨bs.below hal bs.lt, own_nil _ _ _ _, ⟨[], own_nil _ _ _ _, rfl⟩, Blk.new _ _ _, hp.chg (Chg.of_below hal), Chg.of_below hal, Nat.le_refl _⟩
  clear bs hp hal
  go_enter Tryz.func144, Tryz.ntmps144
  go_upto_region 1 with fail
  refine wp_gen (fun W => DrS w W s w.heap.size 0 fp lv (.slice none 0 0) (.slice none 0 0) [] p r) hD ?_
  clear hD
  intro w1 D1
  have c5 : w1.cell? ⟨s, 5, none⟩ = some (.slice none 0 0) := D1.bs.cell 5
  have f5 := D1.bs.frozen 5
  have hs1 := D1.bs.lt
  have D1 := Lib.hid D1
  go_wp2_with fail
  go_loopw [6] (fun i wr => i = .int .i64 0 ∧ wr = w1) (fun _ _ => 0)
  case atStart => exact ⟨rfl, rfl⟩
  case round =>
    obtain ⟨rfl, rfl⟩ := hrel
    go_upto_region 4 with fail
    have HI1 := Lib.hid (show ∀ u ∈ [Value.int .i64 2], u.oneCell' = true from fun u hu => by rw [List.mem_singleton.1 hu]; rfl)
    go_cut [] (fun W => ∃ v, DrS w W s w.heap.size 1 fp lv v (.slice none 0 0) [] p r)
    case first =>
      go_region_law (first
        | (refine step_append_none rfl (.const (.slice none 0 0)) (.tmp 33) _ rfl 0 3 i0 1 Tryz.underlying32 hi0 (.slice none 0 0) 0 [] rfl (own_nil _ _ _ _) rfl ?_)
        | (refine step_append_lies _ rfl (.tmp 34) (.tmp 36) _ rfl wr.heap.size 3 i0 _ 1 8 Tryz.underlying32 hi0 hz0 hz1 hz2 rfl (by decide) (.slice none 0 0) 0 [] rfl (own_nil _ _ _ _) _ 1 1 [.int .i64 2] rfl rfl ?_ HI1.out (by omega) (by simp only [maxLen]; omega) (by omega) ?_ _ rfl ?_; (first | exact cells_new _ _ [Value.int .i64 2] | exact cells_newD _ _ [Value.int .i64 2]); (exact Below.size (B := wr.heap.size) (by (repeat (first | (with_reducible exact Below.refl _ _) | (with_reducible assumption) | (refine below_step (by assumption) (by first | omega | (simp; done) | (simp; omega)) ?_) | (with_reducible refine Below.alloc ?_ (by first | omega | (simp; done) | (simp; omega)) _) | (with_reducible refine Below.drew ?_) | (with_reducible refine below_drewN ?_ _) | (with_reducible refine Below.setCell ?_ (by first | omega | (simp; done) | (simp; omega)) _))))); (intro g2 cap2 w3 hown3 hgr3 hat3 hlt3; have hb3 := grown_below hgr3; have hB3 : Below wr.heap.size wr w3 := (by (repeat (first | (with_reducible exact Below.refl _ _) | (with_reducible assumption) | (refine below_step (by assumption) (by first | omega | (simp; done) | (simp; omega)) ?_) | (with_reducible refine Below.alloc ?_ (by first | omega | (simp; done) | (simp; omega)) _) | (with_reducible refine Below.drew ?_) | (with_reducible refine below_drewN ?_ _) | (with_reducible refine Below.setCell ?_ (by first | omega | (simp; done) | (simp; omega)) _)))); clear hb3 hgr3 hat3; have HO3 := Lib.hid hown3; have hz3w := hB3.size; have hs3 : s < w3.heap.size := Nat.lt_of_lt_of_le hs1 hz3w; have c53 := (hB3.cell (p := ⟨s, 5, none⟩) hs1).trans c5; have f53 := (hB3.frozen (p := ⟨s, 5, none⟩) hs1).trans f5))
        | (refine step_append_none rfl (.tmp 37) (.tmp 43) _ rfl wr.heap.size 3 i0 1 Tryz.underlying32 hi0 (.slice (some ⟨g2, 0, none⟩) (0 + 1) cap2) (0 + 1) ([] ++ [.int .i64 2]) rfl HO3.out rfl ?_))
      all_goals go_wp2_with fail
      all_goals
        go_meet
        case rel => exact ⟨_, DrS.ids D1.out hB3 (by first | exact HO3.out | exact own_baseU HO3.out (by omega))⟩
    case rest =>
      obtain ⟨v5, D2⟩ := hcut
      obtain ⟨w5, rfl⟩ : ∃ W, W = wc := ⟨_, rfl⟩
      clear D1 c5 f5 HI1
      have c6 : w5.cell? ⟨s, 6, none⟩ = some (.slice none 0 0) := D2.bs.cell 6
      have f6 := D2.bs.frozen 6
      have hs5 := D2.bs.lt
      have hb5 := D2.bp.lt
      have hsb : s ≠ w.heap.size := fun e => Blk.not_ D2.bs (t' := PageT) (by decide) _ (e ▸ D2.bp)
      have HQ1 := Lib.hid (pageV_one p r)
      have hbp := D2.bp
      have D2 := Lib.hid D2
      obtain ⟨q0, q1, q2, q3, q4, q5, q6, q7, q8, q9, q10, q11, q12, q13, hq⟩ := pageV_form p r
      have HQ := Lib.hid hq
      rw [hq] at HQ1 hbp
      have b0 := hbp.cell 0
      have b1 := hbp.cell 1
      have b2 := hbp.cell 2
      have b3 := hbp.cell 3
      have b4 := hbp.cell 4
      have b5 := hbp.cell 5
      have b6 := hbp.cell 6
      have b7 := hbp.cell 7
      have b8 := hbp.cell 8
      have b9 := hbp.cell 9
      have b10 := hbp.cell 10
      have b11 := hbp.cell 11
      have b12 := hbp.cell 12
      have b13 := hbp.cell 13
      simp at b0 b1 b2 b3 b4 b5 b6 b7 b8 b9 b10 b11 b12 b13
      clear hbp hq
      go_upto_region 5 with fail
      go_region_law (first
        | (refine step_append_none rfl (.const (.slice none 0 0)) (.tmp 53) _ rfl 0 PageT i1 14 Tryz.underlying93 hi1 (.slice none 0 0) 0 [] rfl (own_nil _ _ _ _) rfl ?_)
        | (refine step_append_lies _ rfl (.tmp 54) (.tmp 56) _ rfl w5.heap.size PageT i1 _ 14 200 Tryz.underlying93 hi1 hy0 hy1 hy2 rfl (by decide) (.slice none 0 0) 0 [] rfl (own_nil _ _ _ _) _ 1 1 [q0, q1, q2, q3, q4, q5, q6, q7, q8, q9, q10, q11, q12, q13] rfl rfl ?_ HQ1.out (by omega) (by simp only [maxLen]; omega) (by omega) ?_ _ rfl ?_; (first | exact cells_new _ _ [q0, q1, q2, q3, q4, q5, q6, q7, q8, q9, q10, q11, q12, q13] | exact cells_newD _ _ [q0, q1, q2, q3, q4, q5, q6, q7, q8, q9, q10, q11, q12, q13]); (exact Below.size (B := w5.heap.size) (by (repeat (first | (with_reducible exact Below.refl _ _) | (with_reducible assumption) | (refine below_step (by assumption) (by first | omega | (simp; done) | (simp; omega)) ?_) | (with_reducible refine Below.alloc ?_ (by first | omega | (simp; done) | (simp; omega)) _) | (with_reducible refine Below.drew ?_) | (with_reducible refine below_drewN ?_ _) | (with_reducible refine Below.setCell ?_ (by first | omega | (simp; done) | (simp; omega)) _))))); (intro g2 cap2 w3 hown3 hgr3 hat3 hlt3; have hb3 := grown_below hgr3; have hB3 : Below w5.heap.size w5 w3 := (by (repeat (first | (with_reducible exact Below.refl _ _) | (with_reducible assumption) | (refine below_step (by assumption) (by first | omega | (simp; done) | (simp; omega)) ?_) | (with_reducible refine Below.alloc ?_ (by first | omega | (simp; done) | (simp; omega)) _) | (with_reducible refine Below.drew ?_) | (with_reducible refine below_drewN ?_ _) | (with_reducible refine Below.setCell ?_ (by first | omega | (simp; done) | (simp; omega)) _)))); clear hb3 hgr3 hat3; have HO3 := Lib.hid hown3; have hz3w := hB3.size; have hs3 : s < w3.heap.size := Nat.lt_of_lt_of_le hs5 hz3w; have c63 := (hB3.cell (p := ⟨s, 6, none⟩) hs5).trans c6; have f63 := (hB3.frozen (p := ⟨s, 6, none⟩) hs5).trans f6))
        | (refine step_append_none rfl (.tmp 57) (.tmp 63) _ rfl w5.heap.size PageT i1 14 Tryz.underlying93 hi1 (.slice (some ⟨g2, 0, none⟩) (0 + 1) cap2) (0 + 1) ([] ++ [q0, q1, q2, q3, q4, q5, q6, q7, q8, q9, q10, q11, q12, q13]) rfl HO3.out rfl ?_))
      all_goals go_wp2_with fail
      all_goals
        go_end0
        have hf := DrS.page D2.out hB3 (xs := []) rfl (HQ.out.symm ▸ HO3.out)
        exact ⟨rfl, _, _, hf.bs, hf.oi, hf.opn, hf.ck⟩
end Go.Proofs.YtlpmjeiogdlifaaGreat
namespace Go.Proofs.YtlpmjeiogdlifaaGreat
open Go.RowKit
attribute [local go_sem low] mk_extract
attribute [local go_sem] After.cell After.frozen mk_extract_end ByteArray.mk_append_mk
theorem dirty_any (s : Nat) (fp lv vi vp : Value) (P : List Sp.Page) (p : Sp.Page) (r : Refs) (id : Int) (w : World) (h : StL w s fp lv vi vp P) (h0 : P = [] → vi = .slice none 0 0 ∧ vp = .slice none 0 0) (hid : id = (P.length : Int) + 2) (hp : PageRd w (OneM s) p r) (hn : P.length < 120) :
    Calls Tryz.prog 144 #[.pointer (some ⟨s, 0, none⟩), .int .i64 id, .agg (pageV p r).toArray] w fun e w' => e = .returned (.tuple #[]) ∧ ∃ vi' vp', StL w' s fp lv vi' vp' (P ++ [p]) ∧ Chg (OneM s) w w' := by
  have hl : (P ++ [p]).length = P.length + 1 := by simp
  rcases Nat.eq_zero_or_pos P.length with hz | hz
  · obtain rfl := List.length_eq_zero_iff.1 hz
    obtain ⟨rfl, rfl⟩ := h0 rfl
    obtain rfl : id = 2 := by simpa using hid
    refine (dirty_nil s fp lv p r w h.bs hp).mono ?_
    rintro e w' ⟨he, vi', vp', h1, h2, h3, h4⟩
    exact ⟨he, vi', vp', ⟨h1, h2, h3⟩, h4⟩
  · subst hid
    refine (dirty_ne s fp lv vi vp P p r w h.bs h.oi h.op hp hz hn).mono ?_
    rintro e w' ⟨he, vi', vp', h1, h2, h3, h4⟩
    exact ⟨he, vi', vp', ⟨h1, by rw [hl]; exact h2, by rw [hl]; exact h3⟩, h4⟩
end Go.Proofs.YtlpmjeiogdlifaaGreat
namespace Go.Proofs.YtlpmjeiogdlifaaGreat
open Go.RowKit
attribute [local go_sem low] mk_extract
attribute [local go_sem] After.cell After.frozen mk_extract_end ByteArray.mk_append_mk
set_option maxRecDepth 100000 in
set_option maxHeartbeats 1600000 in
theorem add_any (s : Nat) (fp : Value) (P : List Sp.Page) (p : Sp.Page) (r : Refs) (w : World) (h : StF w s fp P) (hp : PageRd w (OneM s) p r) (hip : Sp.isPage p = true) (hn : P.length < 120) :
    Calls Tryz.prog 89 #[.pointer (some ⟨s, 0, none⟩), .agg (pageV p r).toArray] w fun e w' => e = .returned (.tuple #[.int .i64 ((P.length + 2 : Nat) : Int), .int .i64 0]) ∧ StF w' s fp (P ++ [p]) ∧ Chg (OneM s) w w' := by
  obtain ⟨vi, vp, h1, h0⟩ := h
  obtain ⟨A, c, rfl⟩ := own_form h1.oi
  have hal : Below w.heap.size w (w.alloc (.cells (pageV p r).toArray PageT)) := (Below.refl _ _).alloc (Nat.le_refl _) _
  have S := Lib.hid (show AddS w (w.alloc (.cells (pageV p r).toArray PageT)) s w.heap.size fp (.int .i64 ((P.length + 2 : Nat) : Int)) (.slice A P.length c) vp P p r from ⟨h1.l.go hal, Blk.new _ _ _, hp.chg (Chg.of_below hal), Chg.of_below hal⟩)
  have HI := Lib.hid hip
  have H0 := Lib.hid h0
  have h120 : ¬ (120 ≤ (P.length : Int)) := by omega
  have h400 : ¬ (400 ≤ ((P.length + 2 : Nat) : Int)) := by omega
  clear h1 hp hip hal h0
  go_enter Tryz.func89, Tryz.ntmps89
  go_upto_region 3 with (first
    | (go_at_call 55; refine (dIs_any (M := OneM s) p r _ S.out.pr).mono ?_; rintro e w2 ⟨rfl, hb2⟩; rw [HI.out]; replace S := Lib.hid (S.out.go hb2); clear hb2)
    | (refine wpList_row PageT _ rfl w.heap.size rfl rfl PageT _ (0, 0) _ S.out.bp Tryz.underlying59 rfl rfl ?_))
  have c5 : w2.cell? ⟨s, 5, none⟩ = some (.slice A P.length c) := S.out.st.bs.cell 5
  have c1 : w2.cell? ⟨s, 1, none⟩ = some (.int .i64 ((P.length + 2 : Nat) : Int)) := S.out.st.bs.cell 1
  have c2 : w2.cell? ⟨s, 2, none⟩ = some (.int .i64 400) := S.out.st.bs.cell 2
  have c3 : w2.cell? ⟨s, 3, none⟩ = some (.slice none 0 0) := S.out.st.bs.cell 3
  have f1 := S.out.st.bs.frozen 1
  go_upto_region 9 with fail
  go_region
  go_upto_region 12 with fail
  refine wp_gen (fun W => AddS w W s w.heap.size fp (.int .i64 ((P.length : Int) + 2 + 1)) (.slice A P.length c) vp P p r) ((S.out.last _).go ((Below.refl _ _).drew)) ?_
  intro w3 hT
  have T := Lib.hid hT
  clear hT S c5 c1 c2 c3 f1
  go_wp2_with (first
    | (go_at_call 144; refine (dirty_any s fp _ (.slice A P.length c) vp P p r _ _ T.out.st H0.out rfl T.out.pr hn).mono ?_; rintro e w5 ⟨rfl, vi', vp', hl, hk⟩)
    | (refine wpList_row PageT _ rfl w.heap.size rfl rfl PageT _ (0, 0) _ T.out.bp Tryz.underlying59 rfl rfl ?_))
  refine bodyPost_ret (v := .tuple #[.int .i64 ((P.length + 2 : Nat) : Int), .int .i64 0]) (by simp [results, Tryz.results89, go_sem]) rfl ⟨rfl, ⟨vi', vp', ?_, fun e => by simp at e⟩, T.out.ck.trans hk⟩
  refine StL.at_ ?_
  have e : ((P.length : Int) + 2 + 1) = (((P ++ [p]).length + 2 : Nat) : Int) := by simp; omega
  rw [e] at hl
  exact hl
end Go.Proofs.YtlpmjeiogdlifaaGreat
