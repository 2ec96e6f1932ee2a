/- The document's walk over a tree's pages: a leaf. The document's walk over a tree's pages: a branch; the whole tree. A tree in which a key is sought: in two leaves at most. -/
import Derived.Test.YtmcpkhknjdiocaaGreatDoorQB30
import Derived.Test.YtmcpkhknjdiocaaGreatDoorQB31
set_option linter.unusedSimpArgs false
set_option linter.unusedVariables false
namespace Go.Proofs.YtmcpkhknjdiocaaGreatDoor
open Go.RowKit
attribute [local go_sem low] mk_extract
attribute [local go_sem] After.cell After.frozen mk_extract_end ByteArray.mk_append_mk
theorem chg_later {S T : Nat → Prop} {a b c : World} (h : Chg S a b) (k : Chg T b c) (hm : ∀ i, i < a.heap.size → T i → S i) : Chg S a c :=
  ⟨k.os.trans h.os, k.tape.trans h.tape, k.output.trans h.output, Nat.le_trans h.size k.size, fun i hi hs => (k.block i (Nat.lt_of_lt_of_le hi h.size) (fun t => hs (hm i hi t))).trans (h.block i hi hs)⟩
/-- What the walk holds at a page. -/
structure GoS (w0 w W : World) (g B : Nat) (ids : List Int) (L : List Sp.Page) (vi0 vp0 vi vp : Value) (b : Nat) (p : Sp.Page) (r : Refs) : Prop where
  d0 : Below w0.heap.size w0 W
  wk : WkS W g B ids L vi vp
  bp : Blk W b PageT (pageV p r).toArray
  nb : ¬ Wm g vi vp b
  pr : PageRd W (Wm g vi vp) p r
  ck : Chg (Wm g vi0 vp0) w W
  mo : ∀ k, k < w.heap.size → Wm g vi vp k → Wm g vi0 vp0 k
  w0g : w0.heap.size ≤ g
  bB : B ≤ W.heap.size
section
variable {w0 w W W' : World} {g B : Nat} {ids : List Int} {L : List Sp.Page} {vi0 vp0 vi vp : Value} {b : Nat} {p : Sp.Page} {r : Refs}
theorem GoS.go (h : GoS w0 w W g B ids L vi0 vp0 vi vp b p r) (hb : Below W.heap.size W W') : GoS w0 w W' g B ids L vi0 vp0 vi vp b p r :=
  ⟨h.d0.trans (hb.mono h.d0.size), h.wk.go hb, h.bp.below hb h.bp.lt, h.nb, h.pr.go hb, h.ck.trans (Chg.of_below hb), h.mo, h.w0g, Nat.le_trans h.bB hb.size⟩
theorem WkS.ge (h : WkS W g B ids L vi vp) : ∀ k, Wm g vi vp k → g ≤ k := by
  intro k hk
  obtain ⟨xs, h1, _⟩ := h.op
  have := h.gB
  rcases hk with rfl | hk | hk
  · exact Nat.le_refl _
  · have := own_geB h.oi k hk; omega
  · have := own_geB h1 k hk; omega
theorem GoS.next {ids' : List Int} {L' : List Sp.Page} {vi' vp' : Value} (h : GoS w0 w W g B ids L vi0 vp0 vi vp b p r) (hw : WkS W' g B ids' L' vi' vp') (hk : Chg (Wm g vi vp) W W') (hm : ∀ k, k < W.heap.size → Wm g vi' vp' k → Wm g vi vp k) : GoS w0 w W' g B ids' L' vi0 vp0 vi' vp' b p r := by
  have hge := h.wk.ge
  refine ⟨h.d0.trans (hk.below h.d0.size fun k hk e => ?_), hw, h.bp.chg hk h.nb, fun e => h.nb (hm b h.bp.lt e), ?_, chg_later h.ck hk h.mo, fun k hk e => h.mo k hk (hm k (Nat.lt_of_lt_of_le hk h.ck.size) e), h.w0g, Nat.le_trans h.bB hk.size⟩
  · have := hge k e
    have := h.w0g
    omega
  · have h3 : PageRd W (fun k => Wm g vi vp k ∨ Wm g vi' vp' k) p r := h.pr.wide fun k hlt hk => hk.elim id (hm k hlt)
    exact (h3.chg (hk.mono fun k _ e => .inl e)).anti fun k h => .inr h
theorem WkS.lt (h : WkS W g B ids L vi vp) : ∀ k, Wm g vi vp k → k < W.heap.size := by
  intro k hk
  obtain ⟨xs, h1, _⟩ := h.op
  rcases hk with rfl | hk | hk
  · exact h.blk.lt
  · exact own_lt h.oi k hk
  · exact own_lt h1 k hk
theorem GoS.start {w2 : World} (h : WkS w g B ids L vi vp) (h0 : Below w0.heap.size w0 w) (hg : w0.heap.size ≤ g) (hB : B ≤ w.heap.size) (hb : Below w.heap.size w w2) (hr : ∀ M : Nat → Prop, (∀ k, w.heap.size ≤ k → ¬ M k) → PageRd w2 M p r) :
    GoS w0 w (w2.alloc (.cells (pageV p r).toArray PageT)) g B ids L vi vp vi vp w2.heap.size p r := by
  have hal : Below w2.heap.size w2 (w2.alloc (.cells (pageV p r).toArray PageT)) := (Below.refl _ _).alloc (Nat.le_refl _) _
  have hb3 := hb.trans (hal.mono hb.size)
  have hlt := h.lt
  refine ⟨h0.trans (hb3.mono h0.size), h.go hb3, Blk.new _ _ _, fun e => ?_, (hr (Wm g vi vp) fun k hk e => ?_).go hal, Chg.of_below hb3, fun k _ e => e, hg, Nat.le_trans hB hb3.size⟩
  · have := hlt _ e
    have := hb.size
    omega
  · have := hlt k e
    omega
end
theorem info_page4 : (Tryz.prog.info? PageT).map (fun i => (i.zero, i.size, i.bytes)) = some (some (.agg pgZ0), 14, 200) := by kernel_rfl
theorem page_fold (p : Sp.Page) (r : Refs) : List.foldl (fun (cs : Array Value) (x : Value × Nat) => cs.setIfInBounds x.snd x.fst) #[.int .i64 0, .slice none 0 0, .slice none 0 0, .slice none 0 0, .string ⟨#[]⟩, .slice none 0 0, .slice none 0 0, .int .i64 0, .int .u64 0, .int .i64 0, .int .i64 0, .int .i64 0, .int .i64 0, .int .i64 0] (pageV p r).zipIdx = (pageV p r).toArray := by
  simp [pageV, mtV]
theorem pageV_len (p : Sp.Page) (r : Refs) : (pageV p r).length = 14 := rfl
attribute [local go_sem] page_fold pageV_len
set_option maxRecDepth 100000 in
set_option maxHeartbeats 1600000 in
theorem goes_leaf (w0 : World) (s f g B : Nat) (V : List Txt) (hV : V.length ≤ 400) (h0 : D0S w0 s f V) (hg : w0.heap.size ≤ g) (t : Sp.T 0) (deep : Nat) (top : Bool) (ids : List Int) (L : List Sp.Page) (vi vp : Value) (w : World) (hw0 : Below w0.heap.size w0 w) (hB : B ≤ w.heap.size) (hwk : WkS w g B ids L vi vp)
    (hf : Sp.T.Filed V 0 t) (hok : Sp.T.Ok 0 top t) (hdp : deep ≤ 8) (hil : ids.length ≤ 1000000) (hLl : L.length ≤ 1000000) :
    Calls Tryz.prog 132 #[.pointer (some ⟨g, 0, none⟩), .pointer (some ⟨s, 0, none⟩), .int .i64 ((Sp.T.id 0 t : Nat) : Int), .int .i64 (deep : Int)] w fun e w' => e = .returned (.tuple #[]) ∧
      ∃ vi' vp', WkS w' g B (ids ++ (Sp.T.ids 0 t).map fun (i : Nat) => (i : Int)) (L ++ Sp.T.leaves 0 t) vi' vp' ∧ Below w0.heap.size w0 w' ∧ Chg (Wm g vi vp) w w' ∧ ∀ k, k < w.heap.size → Wm g vi' vp' k → Wm g vi vp k := by
  obtain ⟨i0, hii0, hz0, hz1, hz2⟩ := info_parts info_int
  obtain ⟨i1, hii1, hy0, hy1, hy2⟩ := info_parts info_page4
  obtain ⟨Ai, ci, rfl⟩ := own_form hwk.oi
  obtain ⟨Ap, cp, rfl⟩ : ∃ A c, vp = .slice A L.length c := by obtain ⟨xs0, hx0, _⟩ := hwk.op; exact own_form hx0
  obtain ⟨hid2, hid4, hrd, hpp⟩ := hf.root
  have HDV := Lib.hid (show ∀ r, dReadV (Sp.atV V ((Sp.T.id 0 t : Nat) : Int)) r = .tuple #[.agg (pageV (Sp.leafPg t.2) r).toArray, .int .i64 0] from fun r => by
    unfold dReadV
    rw [hrd, readPg_is hrd, hpp]
    rfl)
  have HRP := Lib.hid (show readPg (Sp.atV V ((Sp.T.id 0 t : Nat) : Int)) = Sp.leafPg t.2 from by rw [readPg_is hrd, hpp]; rfl)
  have HD0 := Lib.hid (h0.go hw0)
  have HIDS := Lib.hid (show (Sp.T.ids 0 t).map (fun (i : Nat) => (i : Int)) = [((Sp.T.id 0 t : Nat) : Int)] from rfl)
  have HLV := Lib.hid (show Sp.T.leaves 0 t = [Sp.leafPg t.2] from rfl)
  have HWK := Lib.hid hwk
  have HW0 := Lib.hid hw0
  have c2 : w.cell? ⟨g, 2, none⟩ = some (.int .i64 0) := hwk.blk.cell 2
  have hd8 : ¬ (8 < (deep : Int)) := by omega
  rw [HIDS.out, HLV.out]
  have hI1 : ∀ n : Int, ∀ u ∈ [iv n], u.oneCell' = true := fun n u hu => by rw [List.mem_singleton.1 hu]; rfl
  have HI1 := Lib.hid hI1
  clear hf hok hrd hpp hw0 hwk HIDS HLV h0 hI1
  generalize Sp.T.id 0 t = id at *
  generalize t.2 = l0 at *
  clear t
  go_enter Tryz.func132, Tryz.ntmps132
  go_upto_region 2 with (first
    | (go_at_call 123; refine (dsRead_any s f V (id : Int) _ HD0.out hV (by omega) (by omega)).mono ?_; rintro e w2 ⟨r, rfl, hr, hb2⟩; rw [HDV.out]; rw [HRP.out] at hr; have HR := Lib.hid hr; have HB2 := Lib.hid hb2; clear hr hb2)
    | (refine wpList_new PageT _ _ rfl rfl rfl rfl rfl rfl _ rfl (of_decide_eq_true (by kernel_rfl)) (by kernel_rfl) (by kernel_rfl) (by kernel_rfl) ?_))
  refine wp_gen (fun W => GoS w0 w W g B ids L (.slice Ai ids.length ci) (.slice Ap L.length cp) (.slice Ai ids.length ci) (.slice Ap L.length cp) w2.heap.size (Sp.leafPg l0) r) (GoS.start HWK.out HW0.out hg hB HB2.out HR.out) ?_
  clear HR HB2 HWK HW0 HD0 HDV HRP c2
  generalize w2.heap.size = b at *
  intro w3 hS
  have S := Lib.hid hS
  have k0 : w3.cell? ⟨b, 0, none⟩ = some (.int .i64 1) := hS.bp.cell 0
  clear hS
  go_upto_region 6 with fail
  have c0 : w3.cell? ⟨g, 0, none⟩ = some (.slice Ai ids.length ci) := S.out.wk.blk.cell 0
  go_upto_region 7 with (at_builtin; go_must (refine wpList_append_lies _ rfl (.tmp 48) (.tmp 50) 77 rfl B IntT i0 _ 1 8 Tryz.underlying77 hii0 hz0 hz1 hz2 rfl (by decide) (.slice Ai ids.length ci) ids.length (ids.map iv) rfl (own_chg2 (S := NoM) S.out.wk.oi ((Chg.refl _ _).alloc _) (fun _ _ h => h)) ⟨w3.heap.size, 0, none⟩ 1 1 [iv (id : Int)] rfl rfl (cells_new w3 IntT [iv (id : Int)]) (HI1.out _) (by decide) (by simp only [maxLen]; omega) (by omega) (by rw [World.size_alloc]; have := S.out.bB; omega) _ rfl ?_); (intro g2 cap2 w4 hown4 hgr4 hat4 hlt4; have S3 := Lib.hid (S.out.go ((Below.refl _ _).alloc (Nat.le_refl _) (.cells #[.int .i64 (id : Int)] IntT))); have H4 := Lib.hid (S3.out.wk.ids hown4 hgr4 (fun k hk => by have hk : g2 = k := (by simpa [Value.ownBlock] using hk); subst hk; rcases hat4 with h | h; exact .inl h; exact .inr (Nat.le_of_eq h.symm))); have hbk := S3.out.wk.blk.chg (Chg.of_grown (S := fun k => (Value.slice Ai ids.length ci).ownBlock = some k) hgr4 (fun k hk => .inl hk)) (fun e => by have := own_geB S3.out.wk.oi g e; have := S3.out.wk.gB; omega); have q0 : w4.cell? ⟨g, 0, none⟩ = some (.slice Ai ids.length ci) := hbk.cell 0; have f0 := hbk.frozen 0; clear hown4 hgr4 hat4 hlt4 hbk))
  refine wp_gen (fun W => GoS w0 w W g B (ids ++ [(id : Int)]) L (.slice Ai ids.length ci) (.slice Ap L.length cp) (.slice (some ⟨g2, 0, none⟩) (ids.length + 1) cap2) (.slice Ap L.length cp) b (Sp.leafPg l0) r) (S3.out.next H4.out.1 H4.out.2.1 H4.out.2.2) ?_
  clear S3 H4 q0 f0 S c0 k0
  intro w5 hS
  have S5 := Lib.hid hS
  have k0 : w5.cell? ⟨b, 0, none⟩ = some (.int .i64 1) := hS.bp.cell 0
  obtain ⟨xs, hxs, hpc⟩ := hS.wk.op
  have c1 : w5.cell? ⟨g, 1, none⟩ = some (.slice Ap L.length cp) := hS.wk.blk.cell 1
  have hgw := hS.wk.blk.lt
  have HNG := Lib.hid (show ¬ (Value.slice Ap L.length cp).ownBlock = some g from fun e => by have := own_geB hxs g e; have := hS.wk.gB; omega)
  have HXS := Lib.hid hxs
  have HPC := Lib.hid hpc
  clear hS hxs hpc
  go_upto_region 8 with fail
  refine wp_region_in 11 10 (fun W => Chg (fun k => (Value.slice Ap L.length cp).ownBlock = some k) w5 W) (by kernel_rfl) rfl ?_
  refine wpIn_takeV 0 [8, 9, 10] (.pointer (some ⟨g, 0, none⟩)) rfl (by kernel_rfl) (by kernel_rfl) (by kernel_rfl) (by kernel_rfl) (by kernel_rfl) (by kernel_rfl) (by kernel_rfl) (by rfl) (fun _ _ _ h => h) ((Chg.refl (fun k => (Value.slice Ap L.length cp).ownBlock = some k) w5).drew) (fun W hW => by go_simp; all_goals first | with_reducible rfl | rfl) ?_
  simp only [List.getElem_toArray, List.getElem_cons_zero, List.getElem_cons_succ, Act.put, List.setIfInBounds_toArray, List.set_cons_succ, List.set_cons_zero]
  refine wpIn_takeV 1 [2, 3, 4, 7, 10] (.pointer (some ⟨g, 0, none⟩)) rfl (by kernel_rfl) (by kernel_rfl) (by kernel_rfl) (by kernel_rfl) (by kernel_rfl) (by kernel_rfl) (by kernel_rfl) (by rfl) (fun _ _ _ h => h) ((Chg.refl (fun k => (Value.slice Ap L.length cp).ownBlock = some k) w5).drew) (fun W hW => by go_simp; all_goals first | with_reducible rfl | rfl) ?_
  simp only [List.getElem_toArray, List.getElem_cons_zero, List.getElem_cons_succ, Act.put, List.setIfInBounds_toArray, List.set_cons_succ, List.set_cons_zero]
  refine wpIn_takeV 2 [3, 4, 7, 10] (.pointer (some ⟨g, 0, none⟩)) rfl (by kernel_rfl) (by kernel_rfl) (by kernel_rfl) (by kernel_rfl) (by kernel_rfl) (by kernel_rfl) (by kernel_rfl) (by rfl) (fun _ _ _ h => h) ((Chg.refl (fun k => (Value.slice Ap L.length cp).ownBlock = some k) w5).drew) (fun W hW => by go_simp; all_goals first | with_reducible rfl | rfl) ?_
  simp only [List.getElem_toArray, List.getElem_cons_zero, List.getElem_cons_succ, Act.put, List.setIfInBounds_toArray, List.set_cons_succ, List.set_cons_zero]
  refine wpIn_takeV 3 [4, 7, 10] (.pointer (some ⟨g, 1, none⟩)) rfl (by kernel_rfl) (by kernel_rfl) (by kernel_rfl) (by kernel_rfl) (by kernel_rfl) (by kernel_rfl) (by kernel_rfl) (by rfl) (fun _ _ _ h => h) ((Chg.refl (fun k => (Value.slice Ap L.length cp).ownBlock = some k) w5).drew) (fun W hW => by go_simp; all_goals first | with_reducible rfl | rfl) ?_
  simp only [List.getElem_toArray, List.getElem_cons_zero, List.getElem_cons_succ, Act.put, List.setIfInBounds_toArray, List.set_cons_succ, List.set_cons_zero]
  refine wpIn_takeV 4 [7, 10] (.slice Ap L.length cp) rfl (by kernel_rfl) (by kernel_rfl) (by kernel_rfl) (by kernel_rfl) (by kernel_rfl) (by kernel_rfl) (by kernel_rfl) (by rfl) (fun _ _ _ h => h) ((Chg.refl (fun k => (Value.slice Ap L.length cp).ownBlock = some k) w5).drew) (fun W hW => by have hc := (hW.cell (k := g) (o := 1) hgw HNG.out).trans c1; go_simp; all_goals first | with_reducible rfl | rfl) ?_
  simp only [List.getElem_toArray, List.getElem_cons_zero, List.getElem_cons_succ, Act.put, List.setIfInBounds_toArray, List.set_cons_succ, List.set_cons_zero]
  refine wpIn_takeV 5 [6, 7, 10] (.agg (pageV (Sp.leafPg l0) r).toArray) rfl (by kernel_rfl) (by kernel_rfl) (by kernel_rfl) (by kernel_rfl) (by kernel_rfl) (by kernel_rfl) (by kernel_rfl) (by rfl) (fun _ _ _ h => h) ((Chg.refl (fun k => (Value.slice Ap L.length cp).ownBlock = some k) w5).drew) (fun W hW => exec_load_at PageT _ rfl b 0 rfl W (pageV (Sp.leafPg l0) r).toArray _ (fun j v hv => by rw [Nat.zero_add]; exact (hW.cell (k := b) (o := j) S5.out.bp.lt (fun e => S5.out.nb (.inr (.inr e)))).trans ((S5.out.bp.cell j).trans hv)) Tryz.underlying119 rfl (by kernel_rfl)) ?_
  simp only [List.getElem_toArray, List.getElem_cons_zero, List.getElem_cons_succ, Act.put, List.setIfInBounds_toArray, List.set_cons_succ, List.set_cons_zero]
  refine wpIn_one 6 rfl (by kernel_rfl) (fun _ => ((Chg.refl (fun k => (Value.slice Ap L.length cp).ownBlock = some k) w5).drew)) (by rfl) ?_
  go_simp
  refine wpIn_one 7 rfl (by kernel_rfl) (fun _ => (((Chg.refl (fun k => (Value.slice Ap L.length cp).ownBlock = some k) w5).alloc (.cells (pageV (Sp.leafPg l0) r).toArray PageT)).drew)) (by rfl) ?_
  refine wp_append_lies _ (.tmp 61) (.tmp 63) _ rfl B PageT i1 _ 14 200 Tryz.underlying134 hii1 hy0 hy1 hy2 rfl (by decide) (.slice Ap L.length cp) L.length xs rfl (own_chg2 (S := NoM) HXS.out (Chg.of_below (((Below.refl _ w5).alloc (Nat.le_refl _) (.cells (pageV (Sp.leafPg l0) r).toArray PageT)).drew)) (fun _ _ h => h)) ⟨w5.heap.size, 0, none⟩ 1 1 (pageV (Sp.leafPg l0) r) rfl rfl (cells_new w5 PageT (pageV (Sp.leafPg l0) r)) (pageV_one _ _) (by decide) (by simp only [maxLen]; omega) (by omega) (Nat.le_trans S5.out.bB (Below.size (((Below.refl _ w5).alloc (Nat.le_refl _) (.cells (pageV (Sp.leafPg l0) r).toArray PageT)).drew))) _ rfl ?_
  intro g3 cap3 w6 hown6 hgr6 hat6 hlt6
  have S6 := Lib.hid (S5.out.go (((Below.refl _ w5).alloc (Nat.le_refl _) (.cells (pageV (Sp.leafPg l0) r).toArray PageT)).drew))
  have H6 := Lib.hid (S6.out.wk.page (own_chg2 (S := NoM) HXS.out (Chg.of_below (((Below.refl _ w5).alloc (Nat.le_refl _) (.cells (pageV (Sp.leafPg l0) r).toArray PageT)).drew)) (fun _ _ h => h)) (HPC.out.chg (Chg.of_below (((Below.refl _ w5).alloc (Nat.le_refl _) (.cells (pageV (Sp.leafPg l0) r).toArray PageT)).drew))) S6.out.pr hown6 hgr6 (fun k hk => by
    have hk : g3 = k := (by simpa [Value.ownBlock] using hk)
    subst hk
    rcases hat6 with h | h
    · exact .inl h
    · exact .inr (Nat.le_of_eq h.symm)))
  have hk6 : Chg (fun k => (Value.slice Ap L.length cp).ownBlock = some k) w5 w6 := ((((Chg.refl (fun k => (Value.slice Ap L.length cp).ownBlock = some k) w5).alloc (.cells (pageV (Sp.leafPg l0) r).toArray PageT)).drew)).trans (Chg.of_grown hgr6 (fun k hk => .inl hk))
  have hbk := S6.out.wk.blk.chg (Chg.of_grown (S := fun k => (Value.slice Ap L.length cp).ownBlock = some k) hgr6 (fun k hk => .inl hk)) HNG.out
  have q1 : w6.cell? ⟨g, 1, none⟩ = some (.slice Ap L.length cp) := hbk.cell 1
  have f1 := hbk.frozen 1
  clear hown6 hgr6 hat6 hlt6 hbk
  simp only [List.getElem_toArray, List.getElem_cons_zero, List.getElem_cons_succ, Act.put, List.setIfInBounds_toArray, List.set_cons_succ, List.set_cons_zero]
  refine wpIn_one 8 rfl (by kernel_rfl) (fun _ => hk6) (by rfl) ?_
  go_simp
  refine wpIn_one 9 rfl (by kernel_rfl) (fun _ => hk6) (by rfl) ?_
  go_simp
  refine wpIn_one 10 rfl (by kernel_rfl) (fun _ => hk6) (by rfl) ?_
  go_simp
  refine wpIn_done (by kernel_rfl) (by kernel_rfl) ?_ _
  go_wp2_with fail
  refine bodyPost_ret (results_none rfl _ _ _) rfl ?_
  have S7 := S6.out.next H6.out.1 H6.out.2.1 H6.out.2.2
  exact ⟨rfl, _, _, S7.wk, S7.d0, S7.ck, S7.mo⟩
end Go.Proofs.YtmcpkhknjdiocaaGreatDoor
namespace Go.Proofs.YtmcpkhknjdiocaaGreatDoor
open Go.RowKit
attribute [local go_sem low] mk_extract
attribute [local go_sem] After.cell After.frozen mk_extract_end ByteArray.mk_append_mk
def KidGo (w0 : World) (s f g B : Nat) (V : List Txt) (d : Nat) : Prop := ∀ (t : Sp.T d) (deep : Nat) (top : Bool) (ids : List Int) (L : List Sp.Page) (vi vp : Value) (w : World), Below w0.heap.size w0 w → B ≤ w.heap.size → WkS w g B ids L vi vp →
    Sp.T.Filed V d t → Sp.T.Ok d top t → deep + d ≤ 8 → ids.length + (Sp.T.ids d t).length ≤ 1000000 → L.length + (Sp.T.leaves d t).length ≤ 1000000 →
    Calls Tryz.prog 132 #[.pointer (some ⟨g, 0, none⟩), .pointer (some ⟨s, 0, none⟩), .int .i64 ((Sp.T.id d t : Nat) : Int), .int .i64 (deep : Int)] w fun e w' => e = .returned (.tuple #[]) ∧
      ∃ vi' vp', WkS w' g B (ids ++ (Sp.T.ids d t).map fun (i : Nat) => (i : Int)) (L ++ Sp.T.leaves d t) vi' vp' ∧ Below w0.heap.size w0 w' ∧ Chg (Wm g vi vp) w w' ∧ ∀ k, k < w.heap.size → Wm g vi' vp' k → Wm g vi vp k
set_option maxRecDepth 100000 in
set_option maxHeartbeats 1600000 in
theorem goes_branch (w0 : World) (s f g B : Nat) (V : List Txt) (hV : V.length ≤ 400) (h0 : D0S w0 s f V) (hg : w0.heap.size ≤ g) (d : Nat) (IH : KidGo w0 s f g B V d) (t : Sp.T (d + 1)) (deep : Nat) (top : Bool) (ids : List Int) (L : List Sp.Page) (vi vp : Value) (w : World) (hw0 : Below w0.heap.size w0 w) (hB : B ≤ w.heap.size) (hwk : WkS w g B ids L vi vp)
    (hf : Sp.T.Filed V (d + 1) t) (hok : Sp.T.Ok (d + 1) top t) (hdp : deep + (d + 1) ≤ 8) (hil : ids.length + (Sp.T.ids (d + 1) t).length ≤ 1000000) (hLl : L.length + (Sp.T.leaves (d + 1) t).length ≤ 1000000) :
    Calls Tryz.prog 132 #[.pointer (some ⟨g, 0, none⟩), .pointer (some ⟨s, 0, none⟩), .int .i64 ((Sp.T.id (d + 1) t : Nat) : Int), .int .i64 (deep : Int)] w fun e w' => e = .returned (.tuple #[]) ∧
      ∃ vi' vp', WkS w' g B (ids ++ (Sp.T.ids (d + 1) t).map fun (i : Nat) => (i : Int)) (L ++ Sp.T.leaves (d + 1) t) vi' vp' ∧ Below w0.heap.size w0 w' ∧ Chg (Wm g vi vp) w w' ∧ ∀ k, k < w.heap.size → Wm g vi' vp' k → Wm g vi vp k := by
  obtain ⟨i0, hii0, hz0, hz1, hz2⟩ := info_parts info_int
  obtain ⟨i1, hii1, hy0, hy1, hy2⟩ := info_parts info_page4
  obtain ⟨Ai, ci, rfl⟩ := own_form hwk.oi
  obtain ⟨Ap, cp, rfl⟩ : ∃ A c, vp = .slice A L.length c := by obtain ⟨xs0, hx0, _⟩ := hwk.op; exact own_form hx0
  obtain ⟨hid2, hid4, hrd, hpp⟩ := hf.root
  obtain ⟨id, cs⟩ := t
  obtain ⟨l2, l4, _, _, _, hkid⟩ := hok
  have l2 : 2 ≤ cs.length := l2
  have l4 : cs.length ≤ 4 := l4
  have hfk : ∀ c ∈ cs, Sp.T.Filed V d c.2 := hf.2
  have hpp : Sp.parse (Sp.atV V (id : Int)) = Sp.branchPg (cs.map (·.1)) (cs.map fun c => ((Sp.T.id d c.2 : Nat) : Int)) := hpp
  have hrd : Sp.readOk (Sp.atV V (id : Int)) = true := hrd
  have hid2 : 2 ≤ id := hid2
  have hid4 : id < 400 := hid4
  have hil : ids.length + (1 + (cs.flatMap fun c => Sp.T.ids d c.2).length) ≤ 1000000 := by
    have : Sp.T.ids (d + 1) (id, cs) = id :: cs.flatMap fun c => Sp.T.ids d c.2 := rfl
    rw [this, List.length_cons] at hil
    omega
  have hLl : L.length + (cs.flatMap fun c => Sp.T.leaves d c.2).length ≤ 1000000 := hLl
  have HDV := Lib.hid (show ∀ r, dReadV (Sp.atV V (id : Int)) r = .tuple #[.agg (pageV (Sp.branchPg (cs.map (·.1)) (cs.map fun c => ((Sp.T.id d c.2 : Nat) : Int))) r).toArray, .int .i64 0] from fun r => by
    unfold dReadV
    rw [hrd, readPg_is hrd, hpp]
    rfl)
  have HRP := Lib.hid (show readPg (Sp.atV V (id : Int)) = Sp.branchPg (cs.map (·.1)) (cs.map fun c => ((Sp.T.id d c.2 : Nat) : Int)) from by rw [readPg_is hrd, hpp])
  have HKF := Lib.hid hfk
  have HKO := Lib.hid (show ∀ c ∈ cs, Sp.T.Ok d false c.2 from hkid)
  have HIL := Lib.hid hil
  have HLL := Lib.hid hLl
  clear hfk hkid hil hLl
  have HD0 := Lib.hid (h0.go hw0)
  have HIDS := Lib.hid (show (Sp.T.ids (d + 1) (id, cs)).map (fun (i : Nat) => (i : Int)) = (id : Int) :: (cs.flatMap fun c => Sp.T.ids d c.2).map (fun (i : Nat) => (i : Int)) from rfl)
  have HLV := Lib.hid (show Sp.T.leaves (d + 1) (id, cs) = cs.flatMap fun c => Sp.T.leaves d c.2 from rfl)
  have HWK := Lib.hid hwk
  have HW0 := Lib.hid hw0
  have c2 : w.cell? ⟨g, 2, none⟩ = some (.int .i64 0) := hwk.blk.cell 2
  have hd8 : ¬ (8 < (deep : Int)) := by omega
  rw [show Sp.T.id (d + 1) (id, cs) = id from rfl]
  rw [HIDS.out, HLV.out]
  have hI1 : ∀ n : Int, ∀ u ∈ [iv n], u.oneCell' = true := fun n u hu => by rw [List.mem_singleton.1 hu]; rfl
  have HI1 := Lib.hid hI1
  clear hf hrd hpp hw0 hwk HIDS HLV h0 hI1
  generalize hks : cs.map (·.1) = ks at *
  generalize his : (cs.map fun c => ((Sp.T.id d c.2 : Nat) : Int)) = is at *
  have hil2 : is.length = cs.length := by rw [← his, List.length_map]
  have HIS := Lib.hid his
  clear hks his
  go_enter Tryz.func132, Tryz.ntmps132
  go_upto_region 2 with (first
    | (go_at_call 123; refine (dsRead_any s f V (id : Int) _ HD0.out hV (by omega) (by omega)).mono ?_; rintro e w2 ⟨r, rfl, hr, hb2⟩; rw [HDV.out]; rw [HRP.out] at hr; have HR := Lib.hid hr; have HB2 := Lib.hid hb2; clear hr hb2)
    | (refine wpList_new PageT _ _ rfl rfl rfl rfl rfl rfl _ rfl (of_decide_eq_true (by kernel_rfl)) (by kernel_rfl) (by kernel_rfl) (by kernel_rfl) ?_))
  refine wp_gen (fun W => GoS w0 w W g B ids L (.slice Ai ids.length ci) (.slice Ap L.length cp) (.slice Ai ids.length ci) (.slice Ap L.length cp) w2.heap.size (Sp.branchPg ks is) r) (GoS.start HWK.out HW0.out hg hB HB2.out HR.out) ?_
  clear HR HB2 HWK HW0 HD0 HDV HRP c2
  generalize w2.heap.size = b at *
  intro w3 hS
  have S := Lib.hid hS
  have k0 : w3.cell? ⟨b, 0, none⟩ = some (.int .i64 2) := hS.bp.cell 0
  clear hS
  go_upto_region 6 with fail
  have c0 : w3.cell? ⟨g, 0, none⟩ = some (.slice Ai ids.length ci) := S.out.wk.blk.cell 0
  go_upto_region 7 with (at_builtin; go_must (refine wpList_append_lies _ rfl (.tmp 48) (.tmp 50) 77 rfl B IntT i0 _ 1 8 Tryz.underlying77 hii0 hz0 hz1 hz2 rfl (by decide) (.slice Ai ids.length ci) ids.length (ids.map iv) rfl (own_chg2 (S := NoM) S.out.wk.oi ((Chg.refl _ _).alloc _) (fun _ _ h => h)) ⟨w3.heap.size, 0, none⟩ 1 1 [iv (id : Int)] rfl rfl (cells_new w3 IntT [iv (id : Int)]) (HI1.out _) (by decide) (by simp only [maxLen]; omega) (by omega) (by rw [World.size_alloc]; have := S.out.bB; omega) _ rfl ?_); (intro g2 cap2 w4 hown4 hgr4 hat4 hlt4; have S3 := Lib.hid (S.out.go ((Below.refl _ _).alloc (Nat.le_refl _) (.cells #[.int .i64 (id : Int)] IntT))); have H4 := Lib.hid (S3.out.wk.ids hown4 hgr4 (fun k hk => by have hk : g2 = k := (by simpa [Value.ownBlock] using hk); subst hk; rcases hat4 with h | h; exact .inl h; exact .inr (Nat.le_of_eq h.symm))); have hbk := S3.out.wk.blk.chg (Chg.of_grown (S := fun k => (Value.slice Ai ids.length ci).ownBlock = some k) hgr4 (fun k hk => .inl hk)) (fun e => by have := own_geB S3.out.wk.oi g e; have := S3.out.wk.gB; omega); have q0 : w4.cell? ⟨g, 0, none⟩ = some (.slice Ai ids.length ci) := hbk.cell 0; have f0 := hbk.frozen 0; clear hown4 hgr4 hat4 hlt4 hbk))
  refine wp_gen (fun W => GoS w0 w W g B (ids ++ [(id : Int)]) L (.slice Ai ids.length ci) (.slice Ap L.length cp) (.slice (some ⟨g2, 0, none⟩) (ids.length + 1) cap2) (.slice Ap L.length cp) b (Sp.branchPg ks is) r) (S3.out.next H4.out.1 H4.out.2.1 H4.out.2.2) ?_
  clear S3 H4 q0 f0 S c0 k0
  intro w5 hS
  have S5 := Lib.hid hS
  have k0 : w5.cell? ⟨b, 0, none⟩ = some (.int .i64 2) := hS.bp.cell 0
  clear hS
  go_upto_region 10 with fail
  go_loopw [10] (fun iv wr => ∃ (k : Nat) (ids' : List Int) (L' : List Sp.Page) (vi' vp' : Value), k ≤ cs.length ∧ iv = .int .i64 (k : Int) ∧ Hid (ids' = ids ++ (id : Int) :: ((cs.take k).flatMap fun c => Sp.T.ids d c.2).map (fun (i : Nat) => (i : Int))) ∧ Hid (L' = L ++ (cs.take k).flatMap fun c => Sp.T.leaves d c.2) ∧ Hid (GoS w0 w wr g B ids' L' (.slice Ai ids.length ci) (.slice Ap L.length cp) vi' vp' b (Sp.branchPg ks is) r)) (fun iv _ => cs.length - (intOf iv).toNat)
  case atStart => exact ⟨0, _, _, _, _, Nat.zero_le _, rfl, Lib.hid (by simp), Lib.hid (by simp), S5⟩
  case round =>
    obtain ⟨k, ids', L', vi', vp', hk, rfl, HI', HL', R⟩ := hrel
    clear S5 k0
    obtain ⟨ib, io, hA, hib, hic⟩ := R.out.pr.kids.at_ (k := 0) (by show 0 < is.length; omega)
    have hic : ∀ j, j < is.length → wr.cell? ⟨ib, io + j, none⟩ = some (.int .i64 (is.getD j 0)) := hic
    have c3 : wr.cell? ⟨b, 3, none⟩ = some (.slice (some ⟨ib, io, none⟩) is.length r.d) := hA ▸ R.out.bp.cell 3
    rw [hil2] at c3
    have HIC := Lib.hid hic
    clear hic hA
    by_cases hlt : k < cs.length
    · have hki := HIC.out k (by omega)
      have hcc := List.getElem?_eq_getElem hlt
      have HCM := Lib.hid (List.getElem_mem hlt)
      have hkid2 : is.getD k 0 = ((Sp.T.id d cs[k].2 : Nat) : Int) := by rw [← HIS.out]; simp [List.getD, hcc]
      rw [hkid2] at hki
      have HTI := Lib.hid (show (cs.take (k + 1)).flatMap (fun c => Sp.T.ids d c.2) = (cs.take k).flatMap (fun c => Sp.T.ids d c.2) ++ Sp.T.ids d cs[k].2 by rw [List.take_succ_eq_append_getElem hlt, List.flatMap_append]; simp)
      have HTL := Lib.hid (show (cs.take (k + 1)).flatMap (fun c => Sp.T.leaves d c.2) = (cs.take k).flatMap (fun c => Sp.T.leaves d c.2) ++ Sp.T.leaves d cs[k].2 by rw [List.take_succ_eq_append_getElem hlt, List.flatMap_append]; simp)
      have hle1 : ((cs.take (k + 1)).flatMap fun c => Sp.T.ids d c.2).length ≤ (cs.flatMap fun c => Sp.T.ids d c.2).length := by
        conv => rhs; rw [← List.take_append_drop (k + 1) cs]
        rw [List.flatMap_append, List.length_append]
        omega
      have hle2 : ((cs.take (k + 1)).flatMap fun c => Sp.T.leaves d c.2).length ≤ (cs.flatMap fun c => Sp.T.leaves d c.2).length := by
        conv => rhs; rw [← List.take_append_drop (k + 1) cs]
        rw [List.flatMap_append, List.length_append]
        omega
      have HB1 := Lib.hid (show ids'.length + (Sp.T.ids d cs[k].2).length ≤ 1000000 by
        have h1 := HIL.out
        rw [HTI.out, List.length_append] at hle1
        rw [HI'.out, List.length_append, List.length_cons, List.length_map]
        omega)
      have HB2 := Lib.hid (show L'.length + (Sp.T.leaves d cs[k].2).length ≤ 1000000 by
        have h1 := HLL.out
        rw [HTL.out, List.length_append] at hle2
        rw [HL'.out, List.length_append]
        omega)
      have HCA := Lib.hid (fun (W : World) h1 h2 h3 => by have h := IH cs[k].2 (deep + 1) false ids' L' vi' vp' W h1 h2 h3 (HKF.out _ HCM.out) (HKO.out _ HCM.out) (by omega) HB1.out HB2.out; rw [show ((deep + 1 : Nat) : Int) = (deep : Int) + 1 by omega] at h; exact h)
      clear hcc hkid2 hle1 hle2
      go_wp2_with (go_at_call 132; go_must (refine (HCA.out _ R.out.d0 R.out.bB R.out.wk).mono ?_); rintro e w6 ⟨rfl, vi2, vp2, q1, q2, q3, q4⟩; have R2 := Lib.hid (R.out.next q1 q3 q4); clear q1 q2 q3 q4)
      refine ⟨⟨k + 1, _, _, vi2, vp2, by omega, by go_num, ?_, ?_, R2⟩, by simp [intOf]; omega⟩
      · exact Lib.hid (by rw [HI'.out, HTI.out]; simp)
      · exact Lib.hid (by rw [HL'.out, HTL.out]; simp)
    · obtain rfl : k = cs.length := by omega
      have hI := HI'.out
      have hL := HL'.out
      rw [List.take_length] at hI hL
      subst hI hL
      go_wp2_with fail
      go_end0
      exact ⟨rfl, _, _, R.out.wk, R.out.d0, R.out.ck, R.out.mo⟩
theorem goes_any (w0 : World) (s f g B : Nat) (V : List Txt) (hV : V.length ≤ 400) (h0 : D0S w0 s f V) (hg : w0.heap.size ≤ g) : ∀ d, KidGo w0 s f g B V d
  | 0 => fun t deep top ids L vi vp w a1 a2 a3 a4 a5 a6 a7 a8 => goes_leaf w0 s f g B V hV h0 hg t deep top ids L vi vp w a1 a2 a3 a4 a5 (by omega) (by omega) (by omega)
  | d + 1 => fun t deep top ids L vi vp w a1 a2 a3 a4 a5 a6 a7 a8 => goes_branch w0 s f g B V hV h0 hg d (goes_any w0 s f g B V hV h0 hg d) t deep top ids L vi vp w a1 a2 a3 a4 a5 a6 a7 a8
end Go.Proofs.YtmcpkhknjdiocaaGreatDoor
namespace Go.Proofs.YtmcpkhknjdiocaaGreatDoor
open Go.RowKit
attribute [local go_sem low] mk_extract
attribute [local go_sem] After.cell After.frozen mk_extract_end ByteArray.mk_append_mk
namespace Sp
theorem find_hit {α : Type} {W : α → Bool} {l : List α} {m : Nat} {d : α} (hm : m < l.length) (h : ∀ j, j < m → W (l.getD j d) = false) (hw : W (l.getD m d) = true) : l.find? W = some (l.getD m d) := by
  have e : l.getD m d = l[m] := by simp [List.getD, hm]
  rw [e] at hw ⊢
  rw [List.find?_eq_some_iff_getElem]
  refine ⟨hw, m, hm, rfl, fun j hj => ?_⟩
  have := h j hj
  rw [show l.getD j d = l[j] by simp [List.getD, show j < l.length by omega]] at this
  simp [this]
theorem find_miss {α : Type} {W : α → Bool} {l : List α} {d : α} (h : ∀ j, j < l.length → W (l.getD j d) = false) : l.find? W = none := by
  rw [List.find?_eq_none]
  intro x hx
  obtain ⟨j, hj, rfl⟩ := List.mem_iff_getElem.1 hx
  have := h j hj
  rw [show l.getD j d = l[j] by simp [List.getD, hj]] at this
  simp [this]
/-- From a leaf on: what will be found, in so many leaves more. -/
def FS (d : Nat) (t : T d) (W : Item → Bool) (res : Option Item) : Nat → Txt → Prop
  | 0, k => ∃ y, (leafOf d t k []).1.find? W = some y ∧ res = some y
  | n + 1, k => (∃ y, (leafOf d t k []).1.find? W = some y ∧ res = some y) ∨ ((leafOf d t k []).1.find? W = none ∧ (leafOf d t k []).2 = [] ∧ res = none) ∨ ((leafOf d t k []).1.find? W = none ∧ (leafOf d t k []).2 ≠ [] ∧ FS d t W res n (leafOf d t k []).2)
theorem FS.start {d : Nat} {top : Bool} {t : T d} {key : Txt} {W : Item → Bool} (h : T.Ok d top t) (hw : Wants W key) : FS d t W ((T.items d t).find? W) 1 key := by
  obtain ⟨h1, h2, h3⟩ := first_law h hw
  cases hf : (leafOf d t key []).1.find? W with
  | some y => exact .inl ⟨y, hf, h1 y hf⟩
  | none =>
    by_cases hb : (leafOf d t key []).2 = []
    · exact .inr (.inl ⟨hf, hb, h2 hf hb⟩)
    · obtain ⟨y, e1, e2⟩ := h3 hf hb
      exact .inr (.inr ⟨hf, hb, y, e1, e2⟩)
theorem FS.hit {d : Nat} {t : T d} {W : Item → Bool} {res : Option Item} {n : Nat} {k : Txt} {y : Item} (h : FS d t W res n k) (hy : (leafOf d t k []).1.find? W = some y) : res = some y := by
  cases n with
  | zero =>
    obtain ⟨z, h1, h2⟩ := h
    rw [h1] at hy
    rw [h2, hy]
  | succ n =>
    rcases h with ⟨z, h1, h2⟩ | ⟨h1, _⟩ | ⟨h1, _⟩
    · rw [h1] at hy
      rw [h2, hy]
    · rw [h1] at hy; cases hy
    · rw [h1] at hy; cases hy
theorem FS.miss {d : Nat} {t : T d} {W : Item → Bool} {res : Option Item} {n : Nat} {k : Txt} (h : FS d t W res n k) (hy : (leafOf d t k []).1.find? W = none) :
    ((leafOf d t k []).2 = [] ∧ res = none) ∨ ((leafOf d t k []).2 ≠ [] ∧ ∃ n', n = n' + 1 ∧ FS d t W res n' (leafOf d t k []).2) := by
  cases n with
  | zero =>
    obtain ⟨z, h1, h2⟩ := h
    rw [h1] at hy; cases hy
  | succ n =>
    rcases h with ⟨z, h1, h2⟩ | ⟨_, h1, h2⟩ | ⟨_, h1, h2⟩
    · rw [h1] at hy; cases hy
    · exact .inl ⟨h1, h2⟩
    · exact .inr ⟨h1, n, rfl, h2⟩
end Sp
end Go.Proofs.YtmcpkhknjdiocaaGreatDoor
