/- All pages' numbers of a tree of values: tree.all. All pages' numbers, told; sorted; whether they rise; tree.Right. ids.Is; tree.Right. Pages' numbers without repeats: slices.Compact; tree.Pages. strings.Join over a row of short texts. -/
import Derived.Test.YtlpmjeiogdlifaaGreatQB21
import Derived.Test.YtlpmjeiogdlifaaGreatQB26
import Derived.Lib.SlKeysI
import Derived.Shelf.Slices.Cells
import Derived.Shelf.Strings.OnBuilder
set_option linter.unusedSimpArgs false
set_option linter.unusedVariables false
namespace Go.Proofs.YtlpmjeiogdlifaaGreat
open Go.RowKit
attribute [local go_sem low] mk_extract
attribute [local go_sem] After.cell After.frozen mk_extract_end ByteArray.mk_append_mk
abbrev SlN : TypeId := 32
structure AlS (w0 : World) (bx : Nat) (u : Value) (L : List (Int × Sp.Page)) (W : World) : Prop where
  hb : Below w0.heap.size w0 W
  bk : Blk W bx SlN #[u]
  ow : W.ownsRow w0.heap.size IntT 1 u L.length (L.map fun x => iv x.1)
  gx : w0.heap.size ≤ bx
section
variable {w0 W W' : World} {bx : Nat} {u : Value} {L : List (Int × Sp.Page)}
theorem AlS.go (h : AlS w0 bx u L W) (hb : Below W.heap.size W W') : AlS w0 bx u L W' :=
  ⟨h.hb.trans (hb.mono h.hb.size), h.bk.below hb h.bk.lt, own_chg2 (S := NoM) h.ow (Chg.of_below hb) (fun _ _ h => h), h.gx⟩
theorem AlS.lt (h : AlS w0 bx u L W) : ∀ k, OnL bx u k → k < W.heap.size := by
  intro k hk
  rcases hk with rfl | hk
  · exact h.bk.lt
  · exact own_lt h.ow k hk
theorem AlS.more {id : Int} {p : Sp.Page} (h : AlS w0 bx u L W) {W1 : World} {v : Value} (hown : W1.ownsRow w0.heap.size IntT 1 v (L.length + 1) ((L.map fun x => iv x.1) ++ [iv id])) (hk1 : Chg (fun k => u.ownBlock = some k) W W1) (hat : v.ownBlock = u.ownBlock ∨ ∃ g, v.ownBlock = some g ∧ W.heap.size ≤ g) :
    AlS w0 bx v (L ++ [(id, p)]) (W1.setCell ⟨bx, 0, none⟩ v) ∧ Chg (OnL bx u) W (W1.setCell ⟨bx, 0, none⟩ v) ∧ (∀ k, OnL bx v k → OnL bx u k ∨ W.heap.size ≤ k) ∧ (W1.cell? ⟨bx, 0, none⟩ = some u ∧ W1.frozen? ⟨bx, 0, none⟩ = false ∧ bx < W1.heap.size) := by
  have hk1' : Chg (OnL bx u) W W1 := hk1.mono fun k _ h => .inr h
  have hs := Chg.set1 W1 bx 0 v
  have hnb : ∀ {w : Value} {Y : World} {B n : Nat} {ys : List Value} {cs : Array Value}, Y.ownsRow B IntT 1 w n ys → Blk Y bx SlN cs → ¬ w.ownBlock = some bx := fun ho hb e => by
    obtain ⟨ds, hd⟩ := own_tyV ho e
    exact hb.not_ (by decide) _ hd
  have hbx1 : Blk W1 bx SlN #[u] := h.bk.chg hk1 (hnb h.ow h.bk)
  have hck : Chg (OnL bx u) W (W1.setCell ⟨bx, 0, none⟩ v) := Chg.step (T := OneM bx) hs (fun i e => .inl (.inl e)) hk1'
  have hge : ∀ k, u.ownBlock = some k → w0.heap.size ≤ k := fun k hk => (h.ow.lt k hk).1
  refine ⟨⟨h.hb.trans (hck.below h.hb.size fun k hk e => ?_), ?_, ?_, h.gx⟩, hck, fun k hk => ?_, hbx1.cell 0, hbx1.frozen 0, hbx1.lt⟩
  · rcases e with rfl | e
    · have := h.gx; omega
    · have := hge k e; omega
  · have := hbx1.set_ 0 v
    simpa using this
  · rw [List.length_append, List.map_append]
    exact own_chg2 hown hs (fun k hk e => hnb hown hbx1 (by have e : k = bx := e; exact e ▸ hk))
  · rcases hk with hk | hk
    · exact .inl (.inl hk)
    · rcases hat with e | ⟨g, e, hg⟩
      · exact .inl (.inr (e ▸ hk))
      · rw [e] at hk
        injection hk with hk
        exact .inr (hk ▸ hg)
end
theorem pgCells {w W : World} {b o : Nat} {cs : List Value} (hl : b < w.heap.size) (hb : Below w.heap.size w W) (hc : ∀ j u, cs[j]? = some u → w.cell? ⟨b, o + j, none⟩ = some u) : ∀ j v, cs.toArray[j]? = some v → W.cell? ⟨b, o + j, none⟩ = some v := fun j v hv =>
  (hb.cell (p := ⟨b, o + j, none⟩) hl).trans (hc j v (by simpa using hv))
set_option maxRecDepth 100000 in
set_option maxHeartbeats 1600000 in
theorem all1_any {w0 : World} {bx : Nat} {u : Value} {L : List (Int × Sp.Page)} {w : World} (id deep : Int) (p : Sp.Page) (r : Refs) (h : AlS w0 bx u L w) (hp : PageRd w (OnL bx u) p r) (h4 : p.items.length ≤ 4) (hk : ∀ y ∈ p.items, y.kind = 1) (hL : L.length < 30000) :
    Calls Tryz.prog 93 #[.int .i64 id, .int .i64 deep, .agg (pageV p r).toArray, .pointer (some ⟨bx, 0, none⟩)] w fun e W' => ∃ u', e = .returned (.bool true) ∧ AlS w0 bx u' (L ++ [(id, p)]) W' ∧ Chg (OnL bx u) w W' ∧ ∀ k, OnL bx u' k → OnL bx u k ∨ w.heap.size ≤ k := by
  obtain ⟨i0, hi0, hz0, hz1, hz2⟩ := info_parts info_int
  have hal : Below w.heap.size w (w.alloc (.cells (pageV p r).toArray PageT)) := (Below.refl _ _).alloc (Nat.le_refl _) _
  have H := Lib.hid (h.go hal)
  have HP := Lib.hid (hp.go hal)
  have HBP := Lib.hid (Blk.new w PageT (pageV p r).toArray)
  have HAL := Lib.hid hal
  have HL0 := Lib.hid h.lt
  clear h hp hal
  simp only [pageV, mtV, List.cons_append, List.nil_append] at HBP
  simp only [pageV, mtV, List.cons_append, List.nil_append]
  go_enter Tryz.func93, Tryz.ntmps93
  go_upto_region 1 with fail
  refine wp_gen (fun W => (AlS w0 bx u L W ∧ PageRd W (OnL bx u) p r) ∧ Below w.heap.size w W ∧ Blk W w.heap.size PageT #[.int .i64 p.kind, .slice r.I p.items.length r.i, .slice r.K p.keys.length r.k, .slice r.D p.kids.length r.d, .string ⟨p.text.toArray⟩, .slice r.V p.vals.length r.v, .slice r.F p.free.length r.f, .int .i64 p.next, .int .u64 p.mt.txn, .int .i64 p.mt.main.page, .int .i64 p.mt.main.count, .int .i64 p.mt.main.flags, .int .i64 p.mt.free, .int .i64 p.mt.last]) ⟨⟨H.out, HP.out⟩, HAL.out, HBP.out⟩ ?_
  clear H HP HAL HBP
  rintro w1 ⟨⟨h1, hp1⟩, hb1, hbp⟩
  obtain ⟨Au, cu, rfl⟩ := own_sliceV h1.ow
  have hlt1 := h1.lt
  have hal1 : Below w1.heap.size w1 (w1.alloc (.cells #[.int .i64 id] IntT)) := (Below.refl _ _).alloc (Nat.le_refl _) _
  have H1 := Lib.hid (h1.go hal1)
  have HOW := Lib.hid (h1.go hal1).ow
  have HB1 := Lib.hid (hb1.trans (hal1.mono hb1.size))
  have HP1 := Lib.hid (hp1.go hal1)
  have HBX := Lib.hid (hbp.below hal1 hbp.lt)
  have HLT := Lib.hid hlt1
  have c0 : w1.cell? ⟨bx, 0, none⟩ = some (.slice Au L.length cu) := h1.bk.cell 0
  have hw01 := h1.hb.size
  have hz1w := hb1.size
  clear h1 hp1 hb1 hbp hal1 hlt1
  go_upto_region 2 with (at_builtin; refine wpList_append_own_at _ rfl _ _ 32 rfl w0.heap.size IntT i0 _ 1 8 Tryz.underlying32 hi0 hz0 hz1 hz2 rfl (by decide) _ L.length _ rfl HOW.out ⟨w1.heap.size, 0, none⟩ 1 1 [iv id] rfl rfl (cell_one_new _ _ _) (fun u hu => by rw [List.mem_singleton.1 hu]; rfl) ?c3 ?c4 ?c5 ?_)
  case c3 => simp only [maxLen]; omega
  case c4 => omega
  case c5 => rw [World.size_alloc]; omega
  intro v6 w6 hown hgr _ hat
  have hmore := H1.out.more (id := id) (p := p) hown (Chg.of_grown (S := fun k => (Value.slice Au L.length cu).ownBlock = some k) hgr (fun k hk => .inl hk)) (by
    rcases hat with h | h
    · exact .inl h
    · exact .inr ⟨_, h, by rw [World.size_alloc]; omega⟩)
  obtain ⟨A6, c6, rfl⟩ := own_sliceV hown
  have HM := Lib.hid hmore
  have g0 := hmore.2.2.2.1
  have f0 := hmore.2.2.2.2.1
  have l0 := hmore.2.2.2.2.2
  clear hown hgr hat hmore c0
  go_upto_region 2 with fail
  refine wp_gen (fun W => (AlS w0 bx (.slice A6 (L.length + 1) c6) (L ++ [(id, p)]) W ∧ Chg (OnL bx (.slice Au L.length cu)) w W) ∧ (∀ k, OnL bx (.slice A6 (L.length + 1) c6) k → OnL bx (.slice Au L.length cu) k ∨ w.heap.size ≤ k) ∧ Items W NoM r.I p.items ∧ Blk W w.heap.size PageT #[.int .i64 p.kind, .slice r.I p.items.length r.i, .slice r.K p.keys.length r.k, .slice r.D p.kids.length r.d, .string ⟨p.text.toArray⟩, .slice r.V p.vals.length r.v, .slice r.F p.free.length r.f, .int .i64 p.next, .int .u64 p.mt.txn, .int .i64 p.mt.main.page, .int .i64 p.mt.main.count, .int .i64 p.mt.main.flags, .int .i64 p.mt.free, .int .i64 p.mt.last]) ⟨⟨HM.out.1, (Chg.of_below HB1.out).trans HM.out.2.1⟩, fun k hk => ?_, ((HP1.out.items.chg HM.out.2.1).antiV fun k _ h => absurd h (fun h => h)), HBX.out.chg HM.out.2.1 (fun h => ?_)⟩ ?_
  · rcases HM.out.2.2.1 k hk with h | h
    · exact .inl h
    · exact .inr (Nat.le_trans HB1.out.size h)
  · have := HL0.out _ h
    omega
  clear HM HP1 HBX HB1 H1 HOW HLT g0 f0 l0
  rintro w7 ⟨⟨hs7, hk7⟩, ho7, hi7, hbp7⟩
  have S7 := Lib.hid hs7
  have K7 := Lib.hid hk7
  have O7 := Lib.hid ho7
  have I7 := Lib.hid hi7
  have c1 : w7.cell? ⟨w.heap.size, 1, none⟩ = some (.slice r.I p.items.length r.i) := hbp7.cell 1
  have hil := hi7.1
  clear hs7 hk7 ho7 hi7 hbp7
  generalize r.I = RI at *
  go_wp2_with fail
  go_loopw [18] (fun iv wr => ∃ j : Nat, iv = .int .i64 (j : Int) ∧ j ≤ p.items.length ∧ Hid (Below w7.heap.size w7 wr)) (fun iv _ => p.items.length - (intOf iv).toNat)
  case atStart => exact ⟨0, rfl, Nat.zero_le _, Lib.hid (Below.refl _ _)⟩
  case round =>
    obtain ⟨j, rfl, hj, HB⟩ := hrel
    by_cases hjl : j < p.items.length
    · obtain ⟨ib, io, rfl, hib, hic⟩ := I7.out.at_ (k := 0) (by omega)
      obtain ⟨X, cx, hat, _⟩ := hic j hjl
      have hyk := hk _ (show p.items.getD j Sp.item0 ∈ p.items by rw [List.getD_eq_getElem?_getD, List.getElem?_eq_getElem hjl]; exact List.getElem_mem hjl)
      have HC := Lib.hid (pgCells (cs := itemV (p.items.getD j Sp.item0) X cx) hib HB.out (itemAt_cells hat))
      have HB2 := Lib.hid (show Below w7.heap.size w7 (wr.alloc (.cells (itemV (p.items.getD j Sp.item0) X cx).toArray ItemT)) from HB.out.alloc HB.out.size _)
      generalize p.items.getD j Sp.item0 = y at *
      have hy1 : (.int .i64 y.kind : Value) = .int .i64 1 := by rw [hyk]
      go_upto_region 5 with (first
        | (refine wpList_at ItemT _ rfl ib (io + j * 10) rfl rfl (itemV y X cx).toArray _ HC.out Tryz.underlying45 rfl (by kernel_rfl) ?_)
        | (refine wpList_new ItemT _ _ rfl rfl rfl rfl rfl rfl _ rfl (of_decide_eq_true (by kernel_rfl)) (by kernel_rfl) (by kernel_rfl) (by kernel_rfl) ?_))
      have hn1 := Blk.new wr ItemT (itemV y X cx).toArray
      refine wp_gen (fun W => W.cell? ⟨wr.heap.size, 1, none⟩ = some (.int .i64 1) ∧ Below w7.heap.size w7 W) ⟨by rw [← hy1]; exact hn1.cell 1, HB2.out⟩ ?_
      generalize wr.heap.size = b9 at *
      rintro w8 ⟨d1, hb8⟩
      have HB8 := Lib.hid hb8
      clear hb8 hn1 hyk
      go_wp2_with fail
      go_roundw
      case rel => exact ⟨j + 1, by go_num, by omega, HB8⟩
      case measure => simp [intOf]; omega
    · obtain rfl : j = p.items.length := by omega
      go_wp2_with fail
      go_ret
      exact ⟨_, by simp, S7.out.go HB.out, K7.out.trans (Chg.of_below HB.out), O7.out⟩
end Go.Proofs.YtlpmjeiogdlifaaGreat
namespace Go.Proofs.YtlpmjeiogdlifaaGreat
open Go.RowKit
attribute [local go_sem low] mk_extract
attribute [local go_sem] After.cell After.frozen mk_extract_end ByteArray.mk_append_mk
open Go.Sort
theorem callFunc_all1 (cap : Array Value) (w : World) : (callFunc 93 cap).run Tryz.prog w = .ok (.enter 93 cap) w := by kernel_rfl
structure ValsP (V : List Txt) (s : Sp.Sto) : Prop where
  rt : Sp.RightP V s
  vl : ∀ i p, s.read V i = (p, none) → ∀ y ∈ p.items, y.kind = 1
theorem Sp.RightP.small {V : List Txt} {s : Sp.Sto} (h : Sp.RightP V s) : SmallP V s := by
  have hp : ∀ p, Sp.isPage p = true → p.kids.length ≤ 4 ∧ p.items.length ≤ 4 := fun p hp => by
    unfold Sp.isPage at hp
    split at hp
    · rw [Bool.and_eq_true, decide_eq_true_eq] at hp
      obtain ⟨h1, h2⟩ := hp
      simp [Sp.has] at h1
      obtain ⟨_, ⟨_, e2⟩, _⟩ := h1
      unfold Sp.isLeaf at h2
      rw [Bool.and_eq_true, Bool.and_eq_true] at h2
      exact ⟨by simp [e2], of_decide_eq_true h2.2⟩
    split at hp
    · rw [Bool.and_eq_true, decide_eq_true_eq] at hp
      obtain ⟨h1, h2⟩ := hp
      simp [Sp.has] at h1
      exact ⟨(Sp.isBranch_rng h2).1, by simp [h1.1]⟩
    split at hp
    · rw [Bool.and_eq_true, decide_eq_true_eq] at hp
      have h1 := hp.1
      simp [Sp.has] at h1
      obtain ⟨e0, ⟨_, e2⟩, _⟩ := h1
      exact ⟨by simp [e2], by simp [e0]⟩
    split at hp
    · rw [Bool.and_eq_true, decide_eq_true_eq] at hp
      have h1 := hp.1
      simp [Sp.has] at h1
      obtain ⟨e0, ⟨_, e2⟩, _⟩ := h1
      exact ⟨by simp [e2], by simp [e0]⟩
    split at hp
    · rw [Bool.and_eq_true, decide_eq_true_eq] at hp
      have h1 := hp.1
      simp [Sp.has] at h1
      obtain ⟨e0, ⟨_, e2⟩, _⟩ := h1
      exact ⟨by simp [e2], by simp [e0]⟩
    split at hp
    · rw [Bool.and_eq_true, decide_eq_true_eq] at hp
      have h1 := hp.1
      simp [Sp.has] at h1
      obtain ⟨e0, ⟨_, e2⟩, _⟩ := h1
      exact ⟨by simp [e2], by simp [e0]⟩
    · cases hp
  exact ⟨fun i p hr => (hp p (h i p hr)).1, fun i p hr => (hp p (h i p hr)).2⟩
theorem allW {M : Nat → Prop} {t f m d : Nat} {fv : Value} {V : List Txt} {s : Sp.Sto} {w0 : World} (bx : Nat) (hst : StAt w0 M t f m d fv V s) (hs : ValsP V s) : Walker t f m d fv V s 93 bx (fun u L W => AlS w0 bx u L W) (OnL bx) where
  go := fun _ _ _ _ h hb => h.go hb
  st := fun _ _ _ h => ⟨M, hst.go h.hb⟩
  lt := fun _ _ _ h => h.lt
  cb := fun u L W id deep p r h hp hi hL => by
    obtain ⟨i, hi⟩ := hi
    exact all1_any id deep p r h hp (hs.rt.small.it i p hi) (hs.vl i p hi) hL
set_option maxRecDepth 100000 in
set_option maxHeartbeats 1600000 in
theorem treeAll_any (M : Nat → Prop) (t f m d : Nat) (fv : Value) (V : List Txt) (s : Sp.Sto) (root : Int) (w : World) (hst : StAt w M t f m d fv V s) (hok : s.Ok) (hV : V.length ≤ 400) (hs : ValsP V s) :
    Calls Tryz.prog 49 #[.pointer (some ⟨t, 0, none⟩), .int .i64 root] w fun e W => ∃ A c, e = .returned (.tuple #[.slice A (Sp.walkI (s.read V) 8 root).1.length c, erO (Sp.walkI (s.read V) 8 root).2]) ∧
      W.ownsRow w.heap.size IntT 1 (.slice A (Sp.walkI (s.read V) 8 root).1.length c) (Sp.walkI (s.read V) 8 root).1.length ((Sp.walkI (s.read V) 8 root).1.map fun x => iv x.1) ∧ Below w.heap.size w W := by
  have hal : Below w.heap.size w (w.alloc (.cells #[.slice none 0 0] SlN)) := (Below.refl _ _).alloc (Nat.le_refl _) _
  have HL := Lib.hid (show AlS w w.heap.size (.slice none 0 0) [] (w.alloc (.cells #[.slice none 0 0] SlN)) from ⟨hal, Blk.new _ _ _, own_nilV _ _ _ _, Nat.le_refl _⟩)
  have HWA := Lib.hid (fun W (h : AlS w w.heap.size (.slice none 0 0) [] W) => walk_any (allW (fv := fv) w.heap.size hst hs) callFunc_all1 hok hV hs.rt.small.kd 8 root 1 (.slice none 0 0) [] W h (by omega) (by omega) (by decide))
  clear hst hok
  unfold Walked at HWA
  generalize Sp.walkI (s.read V) 8 root = R at *
  obtain ⟨L, er⟩ := R
  dsimp only at HWA ⊢
  go_enter Tryz.func49, Tryz.ntmps49
  go_upto_region 2 with fail
  go_wp2_with (go_at_call 47; refine (HWA.out _ HL.out).mono ?_; rintro e w2 ⟨u, rfl, hi2, hk2, ho2⟩; have h1 := hi2.ow; rw [List.nil_append] at h1; obtain ⟨A, c, rfl⟩ := own_sliceV h1; have H1 := Lib.hid h1; have HB2 := Lib.hid hi2.hb; have c0 : w2.cell? ⟨w.heap.size, 0, none⟩ = some (.slice A L.length c) := hi2.bk.cell 0; clear hi2 hk2 ho2 h1)
  refine bodyPost_ret (v := .tuple #[.slice A L.length c, erO er]) (by simp [results, Tryz.results49, go_sem]) rfl ⟨A, c, rfl, H1.out, HB2.out⟩
set_option maxRecDepth 100000 in
set_option maxHeartbeats 1600000 in
theorem sorted_any {B1 : Nat} (A : Option Addr) (c1 : Nat) (L : List Int) (w : World) (hu : w.ownsRow B1 IntT 1 (.slice A L.length c1) L.length (L.map iv)) (hn : L.length ≤ 100000) :
    Calls Tryz.prog 52 #[.slice A L.length c1] w fun e w' => ∃ A' c', e = .returned (.slice A' L.length c') ∧ w'.ownsRow w.heap.size IntT 1 (.slice A' L.length c') L.length ((Sp.sortI L).map iv) ∧ Below w.heap.size w w' := by
  have HC := Lib.hid (cloneI_any (own_iv hu hn))
  have hml : (Sp.sortI L).length = L.length := Sp.sortI_len L
  have HSO := Lib.hid (show Sp.sortI L = L.mergeSort (fun x y => decide (x ≤ y)) from rfl)
  clear hu
  go_enter Tryz.func52, Tryz.ntmps52
  go_upto_region 2 with (go_at_call 72; refine HC.out.mono ?_; rintro e w1 ⟨u', rfl, ho, hb⟩; obtain ⟨A', c', rfl⟩ := own_slice ho; have HO1 := Lib.hid ho; have HB1 := Lib.hid hb; clear ho hb)
  rcases HO1.out.2 with ⟨h0, hl0⟩ | ⟨g, cap, cur, hv, hg, hh, h1, h2, h3, h4⟩
  · have hL : L = [] := List.eq_nil_of_length_eq_zero hl0
    subst hL
    injection h0 with hA _ hc
    subst hA; subst hc
    go_wp2_with (go_at_call 97; refine (Any.slices_Sort_int_none laySort none 0 _).mono ?_; rintro e w2 ⟨rfl, rfl⟩)
    go_ret
    have e0 : Sp.sortI [] = [] := by rw [HSO.out, List.mergeSort_nil]
    rw [e0]
    exact ⟨_, _, rfl, own_nilV _ _ _ _, HB1.out⟩
  · injection hv with hA _ hc
    subst hA; subst hc
    have hgl : g < w1.heap.size := (Array.getElem?_eq_some_iff.1 hh).1
    have h4' : cur.toList.take L.length = L.map (Value.int .i64) := by rw [Nat.mul_one] at h4; exact h4
    have HS := Lib.hid (sortI_any g 0 c' L w1 (holds_of_block_i hh h4') hgl (by omega))
    have HNX := Lib.hid (fun (n : Nat) (os : Array Obj) => ownsRow_sorted_i (n := n) (os := os) (ts := Sp.sortI L) (ss := L) hml hg hh h1 h2 h3)
    rw [← HSO.out] at HS
    clear h4 h4' HO1
    go_upto_region 3 with (go_at_call 97; refine HS.out.mono ?_; rintro e w2 ⟨rfl, q, os, hw⟩; have HW := Lib.hid (show w2 = _ from hw); clear hw)
    have HO2 := Lib.hid (show w2.ownsRow w.heap.size IntT 1 (.slice (some ⟨g, 0, none⟩) L.length c') L.length ((Sp.sortI L).map iv) from HW.out ▸ HNX.out q os)
    have HB2 := Lib.hid (show Below w.heap.size w w2 from HW.out ▸ HB1.out.grown (grownBy_sorted_i _) HB1.out.size (fun j hj => by cases hj; exact hg))
    clear HW HNX HB1 HS
    go_wp2_with fail
    go_ret
    exact ⟨_, _, rfl, HO2.out, HB2.out⟩
namespace Sp
def riseB (L : List Int) : Bool := (List.range (L.length - 1)).all fun i => decide (L.getD i 0 < L.getD (i + 1) 0)
theorem riseB_iff {L : List Int} : riseB L = true ↔ ∀ i, i + 1 < L.length → L.getD i 0 < L.getD (i + 1) 0 := by
  unfold riseB
  rw [List.all_eq_true]
  constructor
  · intro h i hi
    exact of_decide_eq_true (h i (List.mem_range.2 (by omega)))
  · intro h i hi
    have := List.mem_range.1 hi
    exact decide_eq_true (h i (by omega))
theorem riseB_yes {L : List Int} (h : L.Pairwise (· < ·)) : riseB L = true := by
  rw [riseB_iff]
  intro i hi
  have := List.pairwise_iff_getElem.1 h i (i + 1) (by omega) hi (by omega)
  simpa [List.getD, hi, show i < L.length by omega] using this
end Sp
end Go.Proofs.YtlpmjeiogdlifaaGreat
namespace Go.Proofs.YtlpmjeiogdlifaaGreat
open Go.RowKit
attribute [local go_sem low] mk_extract
attribute [local go_sem] After.cell After.frozen mk_extract_end ByteArray.mk_append_mk
set_option maxRecDepth 100000 in
set_option maxHeartbeats 1600000 in
theorem idsIs_any {M : Nat → Prop} (L : List Int) (A : Option Addr) (c : Nat) (w : World) (hl : Ints w M A L) : Calls Tryz.prog 51 #[.slice A L.length c] w fun e w' => e = .returned (.bool (Sp.riseB L)) ∧ Below w.heap.size w w' := by
  have hlen := hl.len
  have Hl := Lib.hid hl
  clear hl
  go_enter Tryz.func51, Tryz.ntmps51
  go_wp2
  go_loopw [3] (fun i wr => ∃ k : Nat, 1 ≤ k ∧ (k ≤ L.length ∨ k = 1) ∧ i = .int .i64 k ∧ Below w.heap.size w wr ∧ Hid (∀ j, j + 1 < k → L.getD j 0 < L.getD (j + 1) 0)) (fun i _ => L.length - (intOf i).toNat)
  case atStart => exact ⟨1, Nat.le_refl _, .inr rfl, rfl, Below.refl _ _, Lib.hid fun j h => absurd h (by omega)⟩
  case round =>
    obtain ⟨k, h1, hk, rfl, hb, hok⟩ := hrel
    have hsz := hb.size
    by_cases hlt : k < L.length
    · obtain ⟨b, off, rfl, hbl, hc⟩ := Hl.out.at_ hlt
      obtain ⟨q, rfl⟩ : ∃ q, k = q + 1 := ⟨k - 1, by omega⟩
      have hc1 := (hb.cell (p := ⟨b, off + (q + 1), none⟩) hbl).trans (hc (q + 1) hlt)
      have hc0 := (hb.cell (p := ⟨b, off + q, none⟩) hbl).trans (hc q (by omega))
      have hbw : b < wr.heap.size := by omega
      have hsub : IntKind.i64.wrap (((q + 1 : Nat) : Int) - 1) = (q : Int) := by rw [IntKind.wrap_i64]; omega
      clear hc
      generalize hx : L.getD q 0 = x at *
      generalize hy : L.getD (q + 1) 0 = y at *
      have HX := Lib.hid hx
      have HY := Lib.hid hy
      clear hx hy
      go_upto_region 4 with fail
      refine wp_region_after (by kernel_rfl) (by kernel_rfl) (wr.heap.size) ?_
      repeat (go_big_quiet_step (fail))
      refine wpQuiet_nil ?_
      intro w2 hb2
      have hb3 := hb.trans (hb2.mono hsz)
      by_cases hxy : x < y
      · have hge : ¬ y ≤ x := by omega
        go_wp2
        refine ⟨⟨q + 2, by omega, .inl (by omega), by go_num, hb3, Lib.hid fun j hj => ?_⟩, by simp [intOf]; omega⟩
        rcases Nat.lt_succ_iff_lt_or_eq.1 (show j + 1 < q + 1 + 1 by omega) with h | h
        · exact hok.out j h
        · obtain rfl : j = q := by omega
          rw [HX.out, HY.out]; exact hxy
      · have hge : y ≤ x := by omega
        go_wp2
        go_ret
        refine ⟨ret_bool ?_, hb3⟩
        rw [eq_comm, Bool.eq_false_iff, ne_eq, Sp.riseB_iff]
        intro h
        have := h q hlt
        rw [HX.out, HY.out] at this
        omega
    · have hkl : Sp.riseB L = true := Sp.riseB_iff.2 fun i hi => hok.out i (by omega)
      go_wp2
      go_ret
      exact ⟨ret_bool hkl.symm, hb⟩
theorem own_ivb9 {w : World} {base : Nat} {A : Option Addr} {n c : Nat} {L : List Int} (h : w.ownsRow base IntT 1 (.slice A n c) L.length (L.map iv)) (hn : L.length ≤ 100000) : Ints w NoM A L := by
  rcases h.2 with ⟨e, h0⟩ | ⟨g, cap, cur, e, _, hh, hnc, _, hcs, ht⟩
  · rw [List.eq_nil_of_length_eq_zero h0]
    exact Row.nil_
  · simp only [Value.slice.injEq] at e
    obtain ⟨rfl, _, _⟩ := e
    have hb : Blk w g IntT cur := hh
    refine ⟨by rw [List.length_map]; omega, .inr ⟨g, 0, rfl, hb.lt, fun h => h, fun j v hv => ?_⟩⟩
    rw [Nat.zero_add]
    refine (hb.cell j).trans ?_
    have hj : j < L.length := by have := (List.getElem?_eq_some_iff.1 hv).1; simpa using this
    have : (cur.toList.take (L.length * 1))[j]? = (L.map iv)[j]? := by rw [ht]
    rw [List.getElem?_take, if_pos (by omega), hv] at this
    rw [← Array.getElem?_toList, this]
def Sp.rightI (V : List Txt) (s : Sp.Sto) (root : Int) : Bool :=
  if root = 0 then true else if (Sp.walkI (s.read V) 8 root).2 ≠ none ∨ Sp.checksI (s.read V) 8 root [] [] true 1 < 0 then false else Sp.riseB (Sp.sortI ((Sp.walkI (s.read V) 8 root).1.map fun x => x.1))
set_option maxRecDepth 100000 in
set_option maxHeartbeats 1600000 in
theorem right_any (M : Nat → Prop) (t f m d : Nat) (fv : Value) (V : List Txt) (s : Sp.Sto) (root : Int) (w : World) (hst : StAt w M t f m d fv V s) (hok : s.Ok) (hV : V.length ≤ 400) (hs : ValsP V s) :
    Calls Tryz.prog 20 #[.pointer (some ⟨t, 0, none⟩), .int .i64 root] w fun e W => e = .returned (.bool (Sp.rightI V s root)) ∧ Below w.heap.size w W := by
  have HA := Lib.hid (treeAll_any M t f m d fv V s root w hst hok hV hs)
  have HC := Lib.hid (fun W (hb : Below w.heap.size w W) => checks_any M t f m d fv V s hok hV hs.rt 8 root [] [] true 1 W (hst.go hb) (by omega) (by omega))
  have HR := Lib.hid (show Sp.rightI V s root = if root = 0 then true else if (Sp.walkI (s.read V) 8 root).2 ≠ none ∨ Sp.checksI (s.read V) 8 root [] [] true 1 < 0 then false else Sp.riseB (Sp.sortI ((Sp.walkI (s.read V) 8 root).1.map fun x => x.1)) from rfl)
  have hlen : (Sp.walkI (s.read V) 8 root).1.length ≤ 30000 := Nat.le_trans (Sp.walkI_len hs.rt.small.kd 8 root) (by decide)
  clear hst hok
  by_cases h0 : root = 0
  · subst h0
    rw [if_pos rfl] at HR
    go_enter Tryz.func20, Tryz.ntmps20
    go_wp2_with fail
    go_ret
    exact ⟨by rw [HR.out]; rfl, Below.refl _ _⟩
  rw [if_neg h0] at HR
  have hb0 : (root == 0) = false := beq_eq_false_iff_ne.2 h0
  generalize Sp.checksI (s.read V) 8 root [] [] true 1 = N at *
  generalize Sp.walkI (s.read V) 8 root = R at *
  obtain ⟨L, er⟩ := R
  dsimp only at HA HR hlen
  rcases er with _ | k
  · by_cases hN : N < 0
    · rw [if_pos (.inr hN)] at HR
      go_enter Tryz.func20, Tryz.ntmps20
      go_wp2_with (first
        | (go_at_call 49; refine HA.out.mono ?_; rintro e w1 ⟨A, c, rfl, ho, hb⟩; have HB := Lib.hid hb; clear ho hb; simp only [erO])
        | (go_at_call 50; refine (HC.out _ HB.out).mono ?_; rintro e w2 ⟨rfl, hb⟩; have HB2 := Lib.hid hb; clear hb))
      go_ret
      exact ⟨by rw [HR.out]; rfl, HB.out.trans (HB2.out.mono HB.out.size)⟩
    · rw [if_neg (by rintro (h | h); exact h rfl; exact hN h)] at HR
      have hml : (L.map fun x => iv x.1) = (L.map fun x => x.1).map iv := by rw [List.map_map]; rfl
      have hll : (L.map fun x => x.1).length = L.length := List.length_map _
      have HML := Lib.hid hml
      have HLL := Lib.hid hll
      clear hml hll
      go_enter Tryz.func20, Tryz.ntmps20
      go_upto_region 6 with (first
        | (go_at_call 49; refine HA.out.mono ?_; rintro e w1 ⟨A, c, rfl, ho, hb⟩; have HO := Lib.hid ho; have HB := Lib.hid hb; clear ho hb; simp only [erO])
        | (go_at_call 50; refine (HC.out _ HB.out).mono ?_; rintro e w2 ⟨rfl, hb⟩; have HB2 := Lib.hid hb; clear hb))
      have ho2 := own_chg2 (S := NoM) HO.out (Chg.of_below HB2.out) (fun _ _ h => h)
      rw [HML.out, ← HLL.out] at ho2
      have HS := Lib.hid (sorted_any A c (L.map fun x => x.1) w2 ho2 (by rw [HLL.out]; omega))
      rw [HLL.out] at HS
      have hsl : (Sp.sortI (L.map fun x => x.1)).length = L.length := by rw [Sp.sortI_len, HLL.out]
      generalize Sp.sortI (L.map fun x => x.1) = SL at *
      have HSL := Lib.hid hsl
      clear hsl ho2
      go_wp2_with (first
        | (go_at_call 52; refine HS.out.mono ?_; rintro e w3 ⟨A3, c3, rfl, ho3, hb3⟩; have HB3 := Lib.hid hb3; rw [← HSL.out] at ho3; have HI := Lib.hid (idsIs_any SL A3 c3 w3 (own_ivb9 ho3 (by rw [HSL.out]; omega))); rw [HSL.out] at HI; clear ho3 hb3)
        | (go_at_call 51; refine HI.out.mono ?_; rintro e w4 ⟨rfl, hb4⟩; have HB4 := Lib.hid hb4; clear hb4))
      go_ret
      exact ⟨by rw [HR.out]; rfl, ((HB.out.trans (HB2.out.mono HB.out.size)).trans (HB3.out.mono (Nat.le_trans HB.out.size HB2.out.size))).trans (HB4.out.mono (Nat.le_trans HB.out.size (Nat.le_trans HB2.out.size HB3.out.size)))⟩
  · rw [if_pos (.inl (by simp))] at HR
    go_enter Tryz.func20, Tryz.ntmps20
    go_wp2_with (go_at_call 49; refine HA.out.mono ?_; rintro e w1 ⟨A, c, rfl, ho, hb⟩; have HB := Lib.hid hb; clear ho hb; simp only [erO])
    go_ret
    exact ⟨by rw [HR.out]; rfl, HB.out⟩
end Go.Proofs.YtlpmjeiogdlifaaGreat
namespace Go.Proofs.YtlpmjeiogdlifaaGreat
open Go.RowKit
attribute [local go_sem low] mk_extract
attribute [local go_sem] After.cell After.frozen mk_extract_end ByteArray.mk_append_mk
open Go.Sort
def renCompactV : Go.Shelf.Ren := ⟨fun | 20 => 54 | n => n, fun | 22 => 32 | 3 => 3 | 4 => 4 | 0 => 0 | n => n, fun | n => n⟩
theorem layCompactV : Lays2.n20 Tryz.prog renCompactV := {
  mixed := by kernel_rfl
  f20 := Tryz.func54.trans (congrArg some (by kernel_rfl))
  t0 := Tryz.underlying0
  a0 := Tryz.isAgg0
  z0 := Tryz.sizeOf0
  v0 := Tryz.zeroValue0
  t3 := Tryz.underlying3
  a3 := Tryz.isAgg3
  z3 := Tryz.sizeOf3
  v3 := Tryz.zeroValue3
  t4 := Tryz.underlying4
  a4 := Tryz.isAgg4
  z4 := Tryz.sizeOf4
  v4 := Tryz.zeroValue4
  t22 := Tryz.underlying32
  a22 := Tryz.isAgg32
  z22 := Tryz.sizeOf32
  v22 := Tryz.zeroValue32
  i3 := by kernel_rfl }
theorem own_takeV {w : World} {base n c k : Nat} {e : TypeId} {A : Option Addr} {xs : List Value} (h : w.ownsRow base e 1 (.slice A n c) n xs) (hk : k ≤ n) (hA : A ≠ none) : w.ownsRow base e 1 (.slice A k c) k (xs.take k) := by
  rcases h.2 with ⟨h0, _⟩ | ⟨g, cap, cur, hv, hg, hh, h1, h2, h3, h4⟩
  · injection h0 with h0
    exact absurd h0 hA
  · injection hv with hv _ hc
    subst hv; subst hc
    have hl := h.1
    refine ⟨by rw [List.length_take]; omega, .inr ⟨g, c, cur, rfl, hg, hh, by omega, h2, h3, ?_⟩⟩
    have := congrArg (List.take k) h4
    rw [List.take_take] at this
    rw [← this]
    congr 1
    omega
theorem grow_noneV (w : World) : grow w #[] = w := by simp [grow]
theorem compact_leV (zs : List Int) : (Lib.compact zs).length ≤ zs.length := by
  unfold Lib.compact Lib.compactUpTo
  rw [List.length_map]
  refine Nat.le_trans (List.length_filter_le _ _) ?_
  simp
theorem compactI_any {B1 : Nat} (A : Option Addr) (c : Nat) (M : List Int) (w : World) (ho : w.ownsRow B1 IntT 1 (.slice A M.length c) M.length (M.map iv)) (hB : B1 ≤ w.heap.size) (hn : M.length ≤ 100000) :
    Calls Tryz.prog 54 #[.slice A M.length c] w fun e w' => e = .returned (.slice A (Lib.compact M).length c) ∧ w'.ownsRow B1 IntT 1 (.slice A (Lib.compact M).length c) (Lib.compact M).length ((Lib.compact M).map iv) ∧ Below B1 w w' := by
  rcases ho.2 with ⟨h0, hl0⟩ | ⟨g, cap, cur, hv, hg, hh, h1, h2, h3, h4⟩
  · have hL : M = [] := List.eq_nil_of_length_eq_zero hl0
    subst hL
    injection h0 with hA _ hc
    subst hA; subst hc
    refine (Any.slices_Compact_int_empty layCompactV none 0 _).mono ?_
    rintro e w3 ⟨rfl, rfl⟩
    exact ⟨rfl, own_nilV _ _ _ _, Below.refl _ _⟩
  · injection hv with hA _ hc
    subst hA; subst hc
    have hgl : g < w.heap.size := (Array.getElem?_eq_some_iff.1 hh).1
    have h5 : cur.toList.take M.length = M.map (Value.int .i64) := by rw [Nat.mul_one] at h4; exact h4
    have hcl := compact_leV M
    refine (Any.slices_Compact_int layCompactV g 0 c M w (holds_of_block_i hh h5) (by omega) (by omega)).mono ?_
    rintro e w3 ⟨rfl, q3, hw⟩
    have hw3 : w3 = grow (putRow (Value.int .i64) (Sort.ahead w q3) g 0 (Lib.compact M ++ List.replicate (M.length - (Lib.compact M).length) 0).toArray) #[] := by rw [grow_noneV]; exact hw
    have hbel : Below B1 w w3 := by rw [hw3]; exact (Below.refl _ _).grown (grownBy_sorted_i _) hB (fun j hj => by cases hj; exact hg)
    refine ⟨rfl, ?_, hbel⟩
    have h6 := own_takeV (ownsRow_sorted_i (n := q3) (os := #[]) (ts := Lib.compact M ++ List.replicate (M.length - (Lib.compact M).length) 0) (ss := M) (by rw [List.length_append, List.length_replicate]; omega) hg hh h1 h2 h3) hcl (by simp)
    rw [← List.map_take, List.take_left] at h6
    rw [hw3]
    exact h6
def Sp.pagesI (V : List Txt) (s : Sp.Sto) (root : Int) : List Int :=
  if (Sp.walkI (s.read V) 8 root).2 = none then Lib.compact (Sp.sortI ((Sp.walkI (s.read V) 8 root).1.map fun x => x.1)) else []
set_option maxRecDepth 100000 in
set_option maxHeartbeats 1600000 in
theorem pages_any (M : Nat → Prop) (t f m d : Nat) (fv : Value) (V : List Txt) (s : Sp.Sto) (root : Int) (w : World) (hst : StAt w M t f m d fv V s) (hok : s.Ok) (hV : V.length ≤ 400) (hs : ValsP V s) :
    Calls Tryz.prog 23 #[.pointer (some ⟨t, 0, none⟩), .int .i64 root] w fun e W => ∃ A c, e = .returned (.tuple #[.slice A (Sp.pagesI V s root).length c, erO (Sp.walkI (s.read V) 8 root).2]) ∧
      W.ownsRow w.heap.size IntT 1 (.slice A (Sp.pagesI V s root).length c) (Sp.pagesI V s root).length ((Sp.pagesI V s root).map iv) ∧ Below w.heap.size w W := by
  have HA := Lib.hid (treeAll_any M t f m d fv V s root w hst hok hV hs)
  have HP := Lib.hid (show Sp.pagesI V s root = if (Sp.walkI (s.read V) 8 root).2 = none then Lib.compact (Sp.sortI ((Sp.walkI (s.read V) 8 root).1.map fun x => x.1)) else [] from rfl)
  have hlen : (Sp.walkI (s.read V) 8 root).1.length ≤ 30000 := Nat.le_trans (Sp.walkI_len hs.rt.small.kd 8 root) (by decide)
  clear hst hok
  generalize Sp.pagesI V s root = P at *
  generalize Sp.walkI (s.read V) 8 root = R at *
  obtain ⟨L, er⟩ := R
  dsimp only at HA HP hlen ⊢
  rcases er with _ | k
  · rw [if_pos rfl] at HP
    have hml : (L.map fun x => iv x.1) = (L.map fun x => x.1).map iv := by rw [List.map_map]; rfl
    have hll : (L.map fun x => x.1).length = L.length := List.length_map _
    have HML := Lib.hid hml
    have HLL := Lib.hid hll
    clear hml hll
    go_enter Tryz.func23, Tryz.ntmps23
    go_upto_region 4 with (go_at_call 49; refine HA.out.mono ?_; rintro e w1 ⟨A, c, rfl, ho, hb⟩; have HO := Lib.hid ho; have HB := Lib.hid hb; clear ho hb; simp only [erO])
    have ho2 := HO.out
    rw [HML.out, ← HLL.out] at ho2
    have HS := Lib.hid (sorted_any A c (L.map fun x => x.1) w1 ho2 (by rw [HLL.out]; omega))
    rw [HLL.out] at HS
    have hsl : (Sp.sortI (L.map fun x => x.1)).length = L.length := by rw [Sp.sortI_len, HLL.out]
    generalize Sp.sortI (L.map fun x => x.1) = SL at *
    have HSL := Lib.hid hsl
    clear hsl ho2
    go_wp2_with (first
      | (go_at_call 52; refine HS.out.mono ?_; rintro e w3 ⟨A3, c3, rfl, ho3, hb3⟩; have HB3 := Lib.hid hb3; rw [← HSL.out] at ho3; have HK := Lib.hid (compactI_any A3 c3 SL w3 ho3 hb3.size (by rw [HSL.out]; omega)); rw [HSL.out] at HK; clear ho3 hb3)
      | (go_at_call 54; refine HK.out.mono ?_; rintro e w4 ⟨rfl, ho4, hb4⟩; have HO4 := Lib.hid ho4; have HB4 := Lib.hid hb4; clear ho4 hb4))
    have HF := Lib.hid (show P = Lib.compact SL from HP.out)
    refine bodyPost_ret (v := .tuple #[.slice A3 (Lib.compact SL).length c3, .nilIface]) (by simp [results, Tryz.results23, go_sem]) rfl ?_
    rw [HF.out]
    exact ⟨A3, c3, rfl, own_base HO4.out HB.out.size, (HB.out.trans (HB3.out.mono HB.out.size)).trans (HB4.out.mono HB.out.size)⟩
  · rw [if_neg (by simp)] at HP
    have HP0 := HP.out
    subst HP0
    go_enter Tryz.func23, Tryz.ntmps23
    go_wp2_with (go_at_call 49; refine HA.out.mono ?_; rintro e w1 ⟨A, c, rfl, ho, hb⟩; have HB := Lib.hid hb; clear ho hb; simp only [erO])
    refine bodyPost_ret (v := .tuple #[.slice none 0 0, erO (some k)]) (by simp [results, Tryz.results23, go_sem, erO]) rfl ⟨none, 0, rfl, own_nilV _ _ _ _, HB.out⟩
end Go.Proofs.YtlpmjeiogdlifaaGreat
namespace Go.Proofs.YtlpmjeiogdlifaaGreat
open Go.RowKit
attribute [local go_sem low] mk_extract
attribute [local go_sem] After.cell After.frozen mk_extract_end ByteArray.mk_append_mk
def renJoinV : Go.Shelf.Ren := ⟨fun | 156 => 98 | 165 => 158 | 166 => 159 | 169 => 160 | 240 => 209 | 241 => 210 | 276 => 241 | 277 => 242 | n => n, fun | 31 => 31 | 9 => 9 | 3 => 3 | 4 => 4 | 0 => 0 | 20 => 20 | 72 => 226 | 76 => 61 | 70 => 224 | 37 => 22 | 75 => 38 | 127 => 261 | 164 => 280 | 5 => 5 | 80 => 228 | n => n, fun | n => n⟩
theorem layJoinV : Lays.n156 Tryz.prog renJoinV := {
  mixed := by kernel_rfl
  f156 := Tryz.func98.trans (congrArg some (by kernel_rfl))
  f165 := Tryz.func158.trans (congrArg some (by kernel_rfl))
  f166 := Tryz.func159.trans (congrArg some (by kernel_rfl))
  f169 := Tryz.func160.trans (congrArg some (by kernel_rfl))
  f240 := Tryz.func209.trans (congrArg some (by kernel_rfl))
  f241 := Tryz.func210.trans (congrArg some (by kernel_rfl))
  f276 := Tryz.func241.trans (congrArg some (by kernel_rfl))
  f277 := Tryz.func242.trans (congrArg some (by kernel_rfl))
  t0 := Tryz.underlying0
  a0 := Tryz.isAgg0
  z0 := Tryz.sizeOf0
  v0 := Tryz.zeroValue0
  t3 := Tryz.underlying3
  a3 := Tryz.isAgg3
  z3 := Tryz.sizeOf3
  v3 := Tryz.zeroValue3
  t4 := Tryz.underlying4
  a4 := Tryz.isAgg4
  z4 := Tryz.sizeOf4
  v4 := Tryz.zeroValue4
  t9 := Tryz.underlying9
  a9 := Tryz.isAgg9
  z9 := Tryz.sizeOf9
  v9 := Tryz.zeroValue9
  t20 := Tryz.underlying20
  a20 := Tryz.isAgg20
  z20 := Tryz.sizeOf20
  v20 := Tryz.zeroValue20
  t31 := Tryz.underlying31
  a31 := Tryz.isAgg31
  z31 := Tryz.sizeOf31
  v31 := Tryz.zeroValue31
  t37 := Tryz.underlying22
  a37 := Tryz.isAgg22
  z37 := Tryz.sizeOf22
  v37 := Tryz.zeroValue22
  t70 := Tryz.underlying224
  a70 := Tryz.isAgg224
  z70 := Tryz.sizeOf224
  v70 := Tryz.zeroValue224
  t72 := Tryz.underlying226
  a72 := Tryz.isAgg226
  z72 := Tryz.sizeOf226
  v72 := Tryz.zeroValue226
  t75 := Tryz.underlying38
  a75 := Tryz.isAgg38
  z75 := Tryz.sizeOf38
  v75 := Tryz.zeroValue38
  t76 := Tryz.underlying61
  a76 := Tryz.isAgg61
  z76 := Tryz.sizeOf61
  v76 := Tryz.zeroValue61
  t127 := Tryz.underlying261
  a127 := Tryz.isAgg261
  z127 := Tryz.sizeOf261
  v127 := Tryz.zeroValue261
  t164 := Tryz.underlying280
  a164 := Tryz.isAgg280
  z164 := Tryz.sizeOf280
  v164 := Tryz.zeroValue280 }

theorem extJoinV : Builder.Extra Tryz.prog renJoinV := {
  sizeBuilder := by kernel_rfl
  liesBuilder := by kernel_rfl
  t5 := Tryz.underlying5
  a5 := Tryz.isAgg5
  z5 := Tryz.sizeOf5
  v5 := Tryz.zeroValue5
  infoByte := by kernel_rfl
  cellsByte := by kernel_rfl
  sizeByte := by kernel_rfl
  neB5 := by decide }
theorem join_joinS : ∀ l : List Txt, Lib.join l [32] = Sp.joinS l
  | [] => rfl
  | [x] => by simp [Lib.join, Sp.joinS, List.intercalate, List.intersperse]
  | x :: y :: l => by
    have h := join_joinS (y :: l)
    unfold Lib.join at h ⊢
    unfold Sp.joinS
    rw [← h]
    simp [List.intercalate, List.intersperse]
theorem joinS_len : ∀ {l : List Txt}, (∀ x ∈ l, x.length ≤ 8) → (Sp.joinS l).length ≤ 9 * l.length
  | [], _ => Nat.zero_le _
  | [x], h => by
    have := h x (by simp)
    show x.length ≤ 9
    omega
  | x :: y :: l, h => by
    have h1 := h x (by simp)
    have h2 := joinS_len (l := y :: l) fun z hz => h z (by simp [hz])
    show (x ++ 32 :: Sp.joinS (y :: l)).length ≤ _
    rw [List.length_append, List.length_cons]
    simp only [List.length_cons] at h2 ⊢
    omega
theorem joinT_any {B : Nat} (A : Option Addr) (c : Nat) (l : List Txt) (w : World) (ho : w.ownsRow B StrT 1 (.slice A l.length c) l.length (l.map tv)) (hl : l.length ≤ 1000) (hs : ∀ x ∈ l, x.length ≤ 8) :
    Calls Tryz.prog 98 #[.slice A l.length c, .string ⟨#[32]⟩] w fun e w' => e = .returned (.string ⟨(Sp.joinS l).toArray⟩) ∧ Below w.heap.size w w' := by
  rcases ho.2 with ⟨h1, h2⟩ | ⟨g, cap, cur, hv, hg, hh, hc1, hc2, hc3, ht⟩
  · have : l = [] := List.eq_nil_of_length_eq_zero h2
    subst this
    injection h1 with hA _ hc
    subst hA; subst hc
    refine (Any.strings_Join_none layJoinV extJoinV none 0 ⟨#[32]⟩ w).mono ?_
    rintro e w' ⟨rfl, rfl⟩
    exact ⟨rfl, Below.refl _ _⟩
  · injection hv with hA _ hc
    subst hA; subst hc
    have hb : Blk w g StrT cur := hh
    have hcell : ∀ (j : Nat) x, (l.map fun t : Txt => (⟨t.toArray⟩ : ByteArray))[j]? = some x → w.cell? ⟨g, 0 + j, none⟩ = some (.string x) := by
      rcases own_none ho with ⟨h0, _⟩ | ⟨g', cur', hA, _, _, hcg⟩
      · cases h0
      · injection hA with hA
        injection hA with hA
        subst hA
        intro j x hx
        refine hcg j _ ?_
        rw [List.getElem?_map] at hx ⊢
        rcases hq : l[j]? with _ | q
        · rw [hq] at hx; cases hx
        · rw [hq] at hx
          cases hx
          rfl
    have hjs : (l.map fun t : Txt => (⟨t.toArray⟩ : ByteArray)).map (·.data.toList) = l := by
      rw [List.map_map]
      conv => rhs; rw [← List.map_id l]
      rfl
    have hlen := joinS_len hs
    have h := Any.strings_Join layJoinV extJoinV g 0 c (l.map fun t : Txt => (⟨t.toArray⟩ : ByteArray)) ⟨#[32]⟩ w hcell hb.lt (by rw [List.length_map]; omega) (by rw [List.length_map]; exact hc1) (by rw [hjs, show (⟨#[32]⟩ : ByteArray).data.toList = [32] from rfl, join_joinS]; omega)
    rw [hjs, show (⟨#[32]⟩ : ByteArray).data.toList = [32] from rfl, join_joinS, List.length_map] at h
    exact h
end Go.Proofs.YtlpmjeiogdlifaaGreat
