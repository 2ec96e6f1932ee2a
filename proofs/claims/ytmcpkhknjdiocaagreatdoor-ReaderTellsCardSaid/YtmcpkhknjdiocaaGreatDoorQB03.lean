/- Reading: an item, of whatever kind. Reading: free pages of a transaction. Reading: free pages of a transaction, whole. Reading: the items of a leaf, one by one. Reading: the free pages of a page, one by one. -/
import Derived.Test.YtmcpkhknjdiocaaGreatDoorQB02
import Derived.Deep.RegionHeld3
set_option linter.unusedSimpArgs false
set_option linter.unusedVariables false
namespace Go.Proofs.YtmcpkhknjdiocaaGreatDoor
open Go.RowKit
attribute [local go_sem low] mk_extract
attribute [local go_sem] After.cell After.frozen mk_extract_end ByteArray.mk_append_mk
set_option maxRecDepth 100000 in
set_option maxHeartbeats 1600000 in
theorem rdItem5 (g : Nat) (c : Sp.Cut) (w : World) (hs : c.s.length ≤ 4611686018427387904) (hc : CutAt w g c.s c.bad) (hkd : ¬ c.text.2.num.1 = 1 ∧ ¬ c.text.2.num.1 = 2 ∧ ¬ c.text.2.num.1 = 3 ∧ ¬ c.text.2.num.1 = 4) :
    Calls Tryz.prog 188 #[.agg #[.pointer (some ⟨g, 0, none⟩)]] w fun e w' => ∃ V cv, e = .returned (.agg (itemV c.item.1 V cv).toArray) ∧ TRow w' w.heap.size StrT V (c.item.1.vals.map tv) ∧ CutAt w' g c.item.2.s c.item.2.bad ∧ Chg (OneM g) w w' := by
  have Hc := Lib.hid hc
  have hg := hc.lt
  have hn0 : ¬ w.heap.size = g := by omega
  have hn1 : ¬ w.heap.size + 1 = g := by omega
  have l1 := Nat.le_trans c.text_len hs
  have l2 := Nat.le_trans c.text.2.num_len l1
  have HI := Lib.hid (show c.item = (⟨c.text.1, c.text.2.num.1, [], 0, 0, [], 0, Sp.root0⟩, c.text.2.num.2) by unfold Sp.Cut.item; rw [if_neg hkd.1, if_neg hkd.2.1, if_neg hkd.2.2.1, if_neg hkd.2.2.2])
  clear hc
  have B0 := Lib.hid ((Blk.new w 270 #[.pointer (some ⟨g, 0, none⟩)]).alloc (.cells #[.string ⟨#[]⟩, .int .i64 0, .string ⟨#[]⟩, .int .i64 0, .int .i64 0, .slice none 0 0, .int .i64 0, .int .i64 0, .int .i64 0, .int .i64 0] 83))
  have L0 := Lib.hid (blk_second w (.cells #[.pointer (some ⟨g, 0, none⟩)] 270) 83 #[.string ⟨#[]⟩, .int .i64 0, .string ⟨#[]⟩, .int .i64 0, .int .i64 0, .slice none 0 0, .int .i64 0, .int .i64 0, .int .i64 0, .int .i64 0])
  have b0 := B0.out.at1
  have e1 : (c.text.2.num.1 == 1) = false := by rw [beq_eq_false_iff_ne]; omega
  have e2 : (c.text.2.num.1 == 2) = false := by rw [beq_eq_false_iff_ne]; omega
  have e3 : (c.text.2.num.1 == 3) = false := by rw [beq_eq_false_iff_ne]; omega
  have e4 : (c.text.2.num.1 == 4) = false := by rw [beq_eq_false_iff_ne]; omega
  clear hkd
  go_enter Tryz.func188, Tryz.ntmps188
  go_wp2_with fail
  refine (cutText_any g c.s c.bad _ hs ((Hc.out.alloc _).alloc _)).mono ?_
  rintro e w1 ⟨rfl, hc1, hk1⟩
  have B1 := Lib.hid ((B0.out.chg hk1 hn0).alloc (.cells #[.string ⟨c.text.1.toArray⟩, .int .i64 0, .string ⟨#[]⟩, .int .i64 0, .int .i64 0, .slice none 0 0, .int .i64 0, .int .i64 0, .int .i64 0, .int .i64 0] 83))
  have L1 := Lib.hid ((L0.out.chg hk1 hn1).alloc (.cells #[.string ⟨c.text.1.toArray⟩, .int .i64 0, .string ⟨#[]⟩, .int .i64 0, .int .i64 0, .slice none 0 0, .int .i64 0, .int .i64 0, .int .i64 0, .int .i64 0] 83))
  have b1 := (B0.out.chg hk1 hn0).at1
  have X1 := Lib.hid (Blk.new w1 83 #[.string ⟨c.text.1.toArray⟩, .int .i64 0, .string ⟨#[]⟩, .int .i64 0, .int .i64 0, .slice none 0 0, .int .i64 0, .int .i64 0, .int .i64 0, .int .i64 0])
  have Hc1 := Lib.hid (hc1.alloc (.cells #[.string ⟨c.text.1.toArray⟩, .int .i64 0, .string ⟨#[]⟩, .int .i64 0, .int .i64 0, .slice none 0 0, .int .i64 0, .int .i64 0, .int .i64 0, .int .i64 0] 83))
  have hz1 := hk1.size
  simp only [World.size_alloc] at hz1
  have hw1 : w.heap.size < w1.heap.size := by omega
  have hX : ¬ w1.heap.size = g := by omega
  have K1 := Lib.hid ((Chg.trans (((Chg.refl (OneM g) w).alloc _).alloc _) hk1).alloc (.cells #[.string ⟨c.text.1.toArray⟩, .int .i64 0, .string ⟨#[]⟩, .int .i64 0, .int .i64 0, .slice none 0 0, .int .i64 0, .int .i64 0, .int .i64 0, .int .i64 0] 83))
  clear hc1 hk1
  go_wp2_with fail
  refine (rdNum_any g c.text.2.s c.text.2.bad _ l1 Hc1.out).mono ?_
  rintro e w2 ⟨rfl, hc2, hk2⟩
  have B2 := Lib.hid (B1.out.chg hk2 hn0)
  have L2 := Lib.hid (L1.out.chg hk2 hn1)
  have X2 := Lib.hid (X1.out.chg hk2 hX)
  have b2 := B2.out.at1
  obtain ⟨⟨xa2, xb2, xc2, xd2, xe2, xf2, xg2, xh2, xi2, xj2⟩, ya2, yb2, yc2, yd2, ye2, yf2, yg2, yh2, yi2, yj2⟩ := X2.out.at10
  have Hc2 := Lib.hid hc2
  have K2 := Lib.hid (K1.out.trans hk2)
  have hxz2 : w1.heap.size < w2.heap.size := by have := hk2.size; simp only [World.size_alloc, World.size_setCell] at this; omega
  clear hc2 hk2
  have B2 := Lib.hid (B2.out.far (p := ⟨w1.heap.size, 1, none⟩) (by simp only; omega) (.int .i64 c.text.2.num.1))
  have L2 := Lib.hid (L2.out.far (p := ⟨w1.heap.size, 1, none⟩) (by simp only; omega) (.int .i64 c.text.2.num.1))
  have X2 := Lib.hid (X2.out.set_ 1 (.int .i64 c.text.2.num.1))
  have Hc2 := Lib.hid (Hc2.out.far (p := ⟨w1.heap.size, 1, none⟩) (fun e => hX e.symm) (.int .i64 c.text.2.num.1))
  have K2 := Lib.hid (K2.out.setCell (p := ⟨w1.heap.size, 1, none⟩) (.inr (by simp only; omega)) (.int .i64 c.text.2.num.1))
  obtain ⟨⟨za, zb, zc, zd, ze, zf, zg, zh, zi, zj⟩, wa, wb, wc, wd, we, wf, wg, wh, wi, wj⟩ := L2.out.at10
  go_wp2
  rw [HI.out]
  refine bodyPost_ret (v := .agg (itemV (⟨c.text.1, c.text.2.num.1, [], 0, 0, [], 0, Sp.root0⟩, c.text.2.num.2).1 none 0).toArray) (by simp [results, Tryz.results188, go_sem, za, zb, zc, zd, ze, zf, zg, zh, zi, zj, wa, wb, wc, wd, we, wf, wg, wh, wi, wj, itemV, Sp.root0]) rfl ⟨none, 0, rfl, ?_, ?_, ?_⟩
  · exact ⟨by simp, .inl rfl⟩
  · unfold CutAt; iterate 10 (refine Blk.far ?_ (fun e => hn1 e.symm) _)
    exact Hc2.out
  · iterate 10 (refine Chg.setCell ?_ (.inr (by simp only; omega)) _)
    exact K2.out
theorem rdItem_any (g : Nat) (c : Sp.Cut) (w : World) (hs : c.s.length ≤ 4611686018427387904) (hc : CutAt w g c.s c.bad) :
    Calls Tryz.prog 188 #[.agg #[.pointer (some ⟨g, 0, none⟩)]] w fun e w' => ∃ V cv, e = .returned (.agg (itemV c.item.1 V cv).toArray) ∧ TRow w' w.heap.size StrT V (c.item.1.vals.map tv) ∧ CutAt w' g c.item.2.s c.item.2.bad ∧ Chg (OneM g) w w' := by
  by_cases h1 : c.text.2.num.1 = 1
  · exact rdItem1 g c w hs hc h1
  · by_cases h2 : c.text.2.num.1 = 2
    · exact rdItem2 g c w hs hc h2
    · by_cases h3 : c.text.2.num.1 = 3
      · exact rdItem3 g c w hs hc h3
      · by_cases h4 : c.text.2.num.1 = 4
        · exact rdItem4 g c w hs hc h4
        · exact rdItem5 g c w hs hc ⟨h1, h2, h3, h4⟩
theorem Sp.Cut.item_len (c : Sp.Cut) : c.item.2.s.length ≤ c.s.length := by
  have h0 := c.text_len
  have h1 := c.text.2.num_len
  have a1 := c.text.2.num.2.text_len
  have a2 := c.text.2.num.2.num_len
  have a3 := c.text.2.num.2.num.2.num_len
  have a4 := c.text.2.num.2.vals_len
  have a5 := c.text.2.num.2.vals.2.num_len
  have a6 := c.text.2.num.2.root_len
  unfold Sp.Cut.item
  split
  · simp only; omega
  · split
    · simp only; omega
    · split
      · simp only; omega
      · split
        · simp only; omega
        · simp only; omega
end Go.Proofs.YtmcpkhknjdiocaaGreatDoor
namespace Go.Proofs.YtmcpkhknjdiocaaGreatDoor
open Go.RowKit
attribute [local go_sem low] mk_extract
attribute [local go_sem] After.cell After.frozen mk_extract_end ByteArray.mk_append_mk
theorem info_int : (Tryz.prog.info? 3).map (fun i => (i.zero, i.size, i.bytes)) = some (some (.int .i64 0), 1, 8) := by kernel_rfl
abbrev IntT : TypeId := 3
theorem Blk.at2 {w : World} {g : Nat} {t : TypeId} {a b : Value} (h : Blk w g t #[a, b]) : (w.cell? ⟨g, 0, none⟩ = some a ∧ w.cell? ⟨g, 1, none⟩ = some b) ∧ w.frozen? ⟨g, 0, none⟩ = false ∧ w.frozen? ⟨g, 1, none⟩ = false := by
  refine ⟨⟨?_, ?_⟩, h.frozen 0, h.frozen 1⟩
  · simpa using h.cell 0
  · simpa using h.cell 1
set_option maxRecDepth 100000 in
set_option maxHeartbeats 1600000 in
theorem freeC_any (g L R base : Nat) (l : List Int) (x v : Value) (s : Txt) (bad : Bool) (w : World) (hs : s.length ≤ 4611686018427387904) (hc : CutAt w g s bad) (hL : Blk w L 155 #[x, v])
    (hR : Blk w R 270 #[.pointer (some ⟨g, 0, none⟩)]) (own : w.ownsRow base IntT 1 v l.length (l.map iv)) (hgb : g < base) (hLb : L < base) (hbw : base ≤ w.heap.size) (hl : l.length ≤ 1073741824) :
    Calls Tryz.prog 202 #[.pointer (some ⟨L, 0, none⟩), .pointer (some ⟨R, 0, none⟩)] w fun e w' => e = .returned (.tuple #[]) ∧
      ∃ v', CutAt w' g (Sp.Cut.num ⟨s, bad⟩).2.s (Sp.Cut.num ⟨s, bad⟩).2.bad ∧ Blk w' L 155 #[x, v'] ∧
        w'.ownsRow base IntT 1 v' (l.length + 1) ((l ++ [(Sp.Cut.num ⟨s, bad⟩).1]).map iv) ∧ Chg (fun k => k = g ∨ k = L ∨ v.ownBlock = some k) w w' := by
  obtain ⟨i0, hi0, hz0, hz1, hz2⟩ := info_parts info_int
  have Hc := Lib.hid hc
  have Own := Lib.hid own
  have HL := Lib.hid hL
  have hLg : L ≠ g := fun e => Blk.not_ (t := 155) hL (by decide) _ (e ▸ hc)
  have hRg : R ≠ g := fun e => Blk.not_ (t := 270) hR (by decide) _ (e ▸ hc)
  obtain ⟨⟨hL0, hL1⟩, fL0, fL1⟩ := hL.at2
  have hR0 := hR.at1
  have HR := Lib.hid hR
  have hLw := hL.lt
  have hRw := hR.lt
  have hgw := Hc.out.lt
  clear hc own hL hR
  go_enter Tryz.func202, Tryz.ntmps202
  go_wp2
  go_region_law (first
    | (go_simp; go_at_call 185; refine (rdNum_any g s bad _ hs ?_).mono ?_; exact Hc.out.drew; rintro e w1 ⟨rfl, hc1, hk1⟩; have hk2 : Chg (OneM g) w w1 := Chg.trans ((Chg.refl _ _).drew) hk1; have HL1 := Lib.hid (HL.out.chg hk2 hLg); have qL := HL1.out.at2; have qL1 := qL.1.2; have fqL1 := qL.2.2; clear qL; have hzw := hk2.size; have hLw1 := Nat.lt_of_lt_of_le hLw hzw)
    | (refine step_append_lies _ rfl (.tmp 3) (.tmp 6) _ rfl base IntT i0 _ 1 8 Tryz.underlying77 hi0 hz0 hz1 hz2 rfl (by omega) v l.length (l.map iv) rfl ?_ _ 1 1 [iv (Sp.Cut.num ⟨s, bad⟩).1] rfl rfl ?_ ?_ (by omega) ?_ ?_ ?_ _ rfl ?_; (exact own_chg Own.out (hk2.alloc _) (fun k hk e => by unfold OneM at e; omega)); (exact cell_one_new _ _ _); (exact fun u hu => by rw [List.mem_singleton.1 hu]; rfl); (simp only [maxLen]; omega); (omega); (first | omega | (simp; done) | (simp; omega)); (intro g2 cap2 w4 hown4 hgr4 hat4 hlt4; have h4 := after_append Own.out hgr4 hLb HL1.out; have HL4 := Lib.hid h4.1; have hk4 := h4.2; clear h4; have qq := HL4.out.at2; have qL4 := qq.1.2; have fqL4 := qq.2.2; clear qq)))
  all_goals
    go_wp2
    go_end0
    refine ⟨rfl, .slice (some ⟨g2, 0, none⟩) (l.length + 1) cap2, ?_, ?_, ?_, ?_⟩
    · exact ((hc1.alloc _).chg hk4 (fun h => by have := (Own.out.lt _ h).1; omega)).far (p := ⟨L, 1, none⟩) (fun e => hLg e.symm) _
    · simpa using HL4.out.set_ 1 (.slice (some ⟨g2, 0, none⟩) (l.length + 1) cap2)
    · rw [List.map_append]; exact own_chg hown4 (Chg.set1 _ L 1 _) (fun k hk e => by unfold OneM at e; omega)
    · exact (Chg.step hk4 (fun i hi => .inl (.inr (.inr hi))) ((hk2.mono (T := fun k => k = g ∨ k = L ∨ v.ownBlock = some k) (fun k _ e => .inl e)).alloc _)).setCell (p := ⟨L, 1, none⟩) (.inl (.inr (.inl rfl))) _
namespace Sp
def numStep (l : List Int) (c : Cut) : List Int × Cut := (l ++ [c.num.1], c.num.2)
def Cut.u64 (c : Cut) : Int × Cut := (unle (c.take 8), c.rest 8)
def Cut.nums (c : Cut) : List Int × Cut := eachN numStep c.num.1.toNat ([], c.num.2)
def Cut.free (c : Cut) : Free × Cut := (⟨c.u64.1, c.u64.2.nums.1⟩, c.u64.2.nums.2)
theorem Cut.u64_len (c : Cut) : c.u64.2.s.length ≤ c.s.length := c.rest_len 8
theorem Cut.u64_rng (c : Cut) : 0 ≤ c.u64.1 ∧ c.u64.1 < 18446744073709551616 := by
  have hl8 : (c.take 8).length ≤ 8 := by
    unfold Cut.take
    split
    · simp
    · simp; omega
  exact unle_lt8 _ hl8
theorem eachN_len {α : Type} {f : α → Cut → α × Cut} (hf : ∀ a c, (f a c).2.s.length ≤ c.s.length) (s : α × Cut) : ∀ n, (eachN f n s).2.s.length ≤ s.2.s.length
  | 0 => Nat.le_refl _
  | n + 1 => by
    have ih := eachN_len hf s n
    have e : eachN f (n + 1) s = if (eachN f n s).2.bad = true then eachN f n s else f (eachN f n s).1 (eachN f n s).2 := rfl
    rw [e]
    split
    · exact ih
    · exact Nat.le_trans (hf _ _) ih
theorem Cut.free_len (c : Cut) : c.free.2.s.length ≤ c.s.length :=
  Nat.le_trans (eachN_len (f := numStep) (fun _ c => c.num_len) ([], c.u64.2.num.2) c.u64.2.num.1.toNat) (Nat.le_trans c.u64.2.num_len c.u64_len)
end Sp
/-- What is so behind k numbers of a transaction. -/
structure NumsI (g L R base : Nat) (x : Value) (w0 : World) (c1 : Sp.Cut) (k : Nat) (c : Sp.Cut) (w : World) : Prop where
  ex : ∃ l v, Sp.eachN Sp.numStep k ([], c1) = (l, c) ∧ l.length ≤ k ∧ Blk w L 155 #[x, v] ∧ w.ownsRow base IntT 1 v l.length (l.map iv)
  cut : CutAt w g c.s c.bad
  len : c.s.length ≤ 4611686018427387904
  box : Blk w R 270 #[.pointer (some ⟨g, 0, none⟩)]
  size : base ≤ w.heap.size
  chg : Chg (fun k => k = g ∨ k = L ∨ base ≤ k) w0 w
theorem NumsI.below {g L R base : Nat} {x : Value} {w0 : World} {c1 : Sp.Cut} {k : Nat} {c : Sp.Cut} {w w' : World} (h : NumsI g L R base x w0 c1 k c w) (hb : Below w.heap.size w w') : NumsI g L R base x w0 c1 k c w' := by
  obtain ⟨l, v, he, hl, hL, ho⟩ := h.ex
  have hk : Chg NoM w w' := .of_below hb
  exact ⟨⟨l, v, he, hl, hL.chg hk id, own_chg ho hk (fun _ _ => id)⟩, h.cut.chg hk id, h.len, h.box.chg hk id, Nat.le_trans h.size hb.size, h.chg.trans (hk.mono (fun _ _ e => e.elim))⟩
theorem NumsI.next {g L R base : Nat} {x : Value} {w0 : World} {c1 : Sp.Cut} {k : Nat} {c : Sp.Cut} {w : World} (hgb : g < base) (hLb : L < base) (hk30 : k ≤ 1073741823) (hbad : c.bad = false) (h : NumsI g L R base x w0 c1 k c w) :
    Calls Tryz.prog 202 #[.pointer (some ⟨L, 0, none⟩), .pointer (some ⟨R, 0, none⟩)] w fun e w' => e = .returned (.tuple #[]) ∧ ∃ c', NumsI g L R base x w0 c1 (k + 1) c' w' ∧ Rdk w w' := by
  obtain ⟨l, v, he, hl, hL, ho⟩ := h.ex
  refine (freeC_any g L R base l x v c.s c.bad w h.len h.cut hL h.box ho hgb hLb h.size (by omega)).mono ?_
  rintro e w' ⟨rfl, v', hc', hL', ho', hk⟩
  have hst : Sp.eachN Sp.numStep (k + 1) ([], c1) = Sp.numStep l c := by
    rw [Sp.eachN_succ _ _ _ (by rw [he]; exact hbad), he]
  have hnot : ∀ i, (i = g ∨ i = L ∨ v.ownBlock = some i) → ∀ cs, ¬ Blk w i 270 cs := fun i hi => by
    rcases hi with rfl | rfl | hi
    · exact Blk.not_ (t := 274) h.cut (by decide)
    · exact Blk.not_ hL (by decide)
    · exact own_not ho (by decide) i hi
  refine ⟨rfl, c.num.2, ⟨⟨l ++ [c.num.1], v', hst, by simp; omega, hL', by simpa using ho'⟩, hc', Nat.le_trans c.num_len h.len, ?_, Nat.le_trans h.size hk.size, ?_⟩, Rdk.of hk hnot⟩
  · exact h.box.chg hk (fun s => hnot R s _ h.box)
  · refine Chg.step hk (fun i hi => .inl ?_) h.chg
    rcases hi with rfl | rfl | hi
    · exact .inl rfl
    · exact .inr (.inl rfl)
    · exact .inr (.inr (ho.lt i hi).1)
theorem callFunc_free (cap : Array Value) (w : World) : (callFunc 202 cap).run Tryz.prog w = .ok (.enter 202 cap) w := by kernel_rfl
end Go.Proofs.YtmcpkhknjdiocaaGreatDoor
namespace Go.Proofs.YtmcpkhknjdiocaaGreatDoor
open Go.RowKit
attribute [local go_sem low] mk_extract
attribute [local go_sem] After.cell After.frozen mk_extract_end ByteArray.mk_append_mk
theorem NumsI.start {g L R base : Nat} {x : Value} {w0 w1 : World} {c1 : Sp.Cut} (hk : Chg (OneM g) w0 w1) (hL : Blk w0 L 155 #[x, .slice none 0 0]) (hR : Blk w0 R 270 #[.pointer (some ⟨g, 0, none⟩)]) (hLg : L ≠ g) (hRg : R ≠ g)
    (hb : base ≤ w0.heap.size) (hc : CutAt w1 g c1.s c1.bad) (hl : c1.s.length ≤ 4611686018427387904) : NumsI g L R base x w0 c1 0 c1 w1 :=
  ⟨⟨[], .slice none 0 0, rfl, Nat.le_refl _, hL.chg hk hLg, World.ownsRow_nil _ _ _ _⟩, hc, hl, hR.chg hk hRg, Nat.le_trans hb hk.size, hk.mono (fun _ _ e => .inl e)⟩
set_option maxRecDepth 100000 in
set_option maxHeartbeats 1600000 in
theorem rdFree_any (g : Nat) (c : Sp.Cut) (w : World) (hs : c.s.length ≤ 4611686018427387904) (hc : CutAt w g c.s c.bad) :
    Calls Tryz.prog 193 #[.agg #[.pointer (some ⟨g, 0, none⟩)]] w fun e w' => ∃ A cp, e = .returned (.agg #[.int .u64 c.free.1.txn, .slice A c.free.1.ids.length cp]) ∧
      TRow w' w.heap.size IntT A (c.free.1.ids.map iv) ∧ CutAt w' g c.free.2.s c.free.2.bad ∧ Chg (OneM g) w w' := by
  have Hc := Lib.hid hc
  have hg := hc.lt
  have hn0 : ¬ w.heap.size = g := by omega
  have hn1 : ¬ w.heap.size + 1 = g := by omega
  have l1 := Nat.le_trans c.u64_len hs
  have l2 := Nat.le_trans c.u64.2.num_len l1
  have hmf : ∀ (fn : Fn) (first cap : Array Value) (w : World), (Instr.makeFunc fn first cap).run Tryz.prog w = .ok (.func fn first cap) w := fun _ _ _ _ => rfl
  obtain ⟨hr0, hr1⟩ := Sp.Cut.num_rng c.u64.2
  clear hc
  have B0 := Lib.hid ((Blk.new w 270 #[.pointer (some ⟨g, 0, none⟩)]).alloc (.cells #[.int .u64 0, .slice none 0 0] 155))
  have L0 := Lib.hid (blk_second w (.cells #[.pointer (some ⟨g, 0, none⟩)] 270) 155 #[.int .u64 0, .slice none 0 0])
  have b0 := B0.out.at1
  go_enter Tryz.func193, Tryz.ntmps193
  go_wp2_with fail
  refine (cutNum_any g c.s c.bad _ hs ((Hc.out.alloc _).alloc _)).mono ?_
  rintro e w1 ⟨rfl, hc1, hk1⟩
  have hz1 := hk1.size
  simp only [World.size_alloc] at hz1
  have K1 := Lib.hid (Chg.trans (((Chg.refl (OneM g) w).alloc _).alloc _) hk1)
  have hU : Sp.unle (Sp.Cut.take ⟨c.s, c.bad⟩ 8) = c.u64.1 := rfl
  have hV : Sp.Cut.rest ⟨c.s, c.bad⟩ 8 = c.u64.2 := rfl
  rw [hU]
  rw [hV] at hc1
  clear hU hV
  generalize hu : c.u64.1 = u at *
  have HU := Lib.hid hu
  clear hu
  have B1 := Lib.hid ((B0.out.chg hk1 hn0).alloc (.cells #[.int .u64 u, .slice none 0 0] 155))
  have L1 := Lib.hid ((L0.out.chg hk1 hn1).alloc (.cells #[.int .u64 u, .slice none 0 0] 155))
  have X1 := Lib.hid (Blk.new w1 155 #[.int .u64 u, .slice none 0 0])
  have Hc1 := Lib.hid (hc1.alloc (.cells #[.int .u64 u, .slice none 0 0] 155))
  have b1 := (B0.out.chg hk1 hn0).at1
  have hw1 : w.heap.size < w1.heap.size := by omega
  have hX : w1.heap.size ≠ g := by omega
  clear hc1 hk1
  go_wp2
  go_region_held3 (fun w' => w'.cell? ⟨w.heap.size, 0, none⟩ = some (.pointer (some ⟨g, 0, none⟩))) (first | exact hbox2 | exact hbox1 | (simp [go_sem, hw1, b1]; done)) (first
    | (go_at_call 185; refine (rdNum_any g c.u64.2.s c.u64.2.bad _ l1 ?_).mono ?_; exact Hc1.out; rintro e w3 ⟨rfl, hc3, hk3⟩; have hI0 := Lib.hid (NumsI.start (base := w1.heap.size + 1) (c1 := c.u64.2.num.2) (Chg.of_drew hk3) X1.out B1.out hX hn0 (by simp) hc3 l2); have hbox1 : w3.cell? ⟨w.heap.size, 0, none⟩ = some (.pointer (some ⟨g, 0, none⟩)) := hI0.out.box.at1)
    | (go_at_call 186; refine (each_any _ hr0 hr1 g 202 _ (callFunc_free _) (NumsI g w1.heap.size w.heap.size (w1.heap.size + 1) (.int .u64 u) (w1.alloc (.cells #[.int .u64 u, .slice none 0 0] 155)) c.u64.2.num.2) (fun k c w h => h.cut) (fun k c w w' h hb => h.below hb) (fun k c w2 hk hb h => h.next (by omega) (by omega) (by omega) hb) c.u64.2.num.2 _ hI0.out).mono ?_; rintro e w2 ⟨rfl, k, d, hI, hkn, hend⟩; have hbox2 : w2.cell? ⟨w.heap.size, 0, none⟩ = some (.pointer (some ⟨g, 0, none⟩)) := hI.box.at1))
  all_goals
    obtain ⟨l, v, he, hl, hL, ho⟩ := hI.ex
    obtain ⟨A, cp, rfl⟩ := own_form ho
    have hnums : c.u64.2.nums = (l, d) := by
      unfold Sp.Cut.nums
      rw [Sp.eachN_end (k := k) (by omega) (by
        rcases hend with h | h
        · exact .inl (by omega)
        · exact .inr (by rw [he]; exact h)), he]
    have HE := Lib.hid (show c.free = (⟨u, l⟩, d) by unfold Sp.Cut.free; rw [hnums, HU.out])
    have HT := Lib.hid (TRow.of_own ho (by simp; omega))
    have HC := Lib.hid hI.cut
    have HK := Lib.hid ((K1.out.mono (T := fun k => k = g) (fun _ _ e => e)).alloc (.cells #[.int .u64 u, .slice none 0 0] 155))
    have HK2 := Lib.hid (Chg.step (S := OneM g) hI.chg (fun i hi => by
      rcases hi with h | h | h
      · exact .inl h
      · exact .inr (by omega)
      · exact .inr (by omega)) HK.out)
    obtain ⟨⟨q0, q1⟩, p0, p1⟩ := hL.at2
    have L2 := L1.out.chg hI.chg (by omega)
    obtain ⟨⟨z0, z1⟩, y0, y1⟩ := L2.at2
    clear hI he hend ho hL hnums L2
    go_wp2
    rw [HE.out]
    refine bodyPost_ret (v := .agg #[.int .u64 u, .slice A l.length cp]) (by simp [results, Tryz.results193, go_sem, z0, z1, y0, y1]) rfl ⟨A, cp, rfl, ?_, ?_, ?_⟩
    · refine TRow.less (base := w1.heap.size + 1) ?_ (by omega)
      iterate 2 (refine TRow.chg ?_ (Chg.set1 _ _ _ _) (fun k hb hi => by unfold OneM at hi; omega))
      exact HT.out
    · unfold CutAt
      iterate 2 (refine Blk.far ?_ (fun e => hn1 e.symm) _)
      exact HC.out
    · iterate 2 (refine Chg.setCell ?_ (.inr (by simp only; omega)) _)
      exact HK2.out
end Go.Proofs.YtmcpkhknjdiocaaGreatDoor
namespace Go.Proofs.YtmcpkhknjdiocaaGreatDoor
open Go.RowKit
attribute [local go_sem low] mk_extract
attribute [local go_sem] After.cell After.frozen mk_extract_end ByteArray.mk_append_mk
theorem info_item : (Tryz.prog.info? 83).map (fun i => (i.zero, i.size, i.bytes)) = some (some (.agg (itemV Sp.item0 none 0).toArray), 10, 112) := by kernel_rfl
abbrev ItemT : TypeId := 83
abbrev PageT : TypeId := 119
/-- The cells of items, one behind the other; the values of each lie in rows of texts from block b0 on. -/
def ItCells (w : World) (b0 : Nat) : List Sp.Item → List Value → Prop
  | [], xs => xs = []
  | x :: l, xs => ∃ V c ys, xs = itemV x V c ++ ys ∧ TRow w b0 StrT V (x.vals.map tv) ∧ ItCells w b0 l ys
theorem ItCells.chg {S : Nat → Prop} {w w' : World} {b0 : Nat} (hk : Chg S w w') (hS : ∀ k, b0 ≤ k → S k → ∀ cs, ¬ Blk w k StrT cs) : ∀ {l : List Sp.Item} {xs : List Value}, ItCells w b0 l xs → ItCells w' b0 l xs
  | [], _, h => h
  | _ :: _, _, ⟨V, c, ys, e, ht, h⟩ => ⟨V, c, ys, e, ht.chg hk hS, h.chg hk hS⟩
theorem ItCells.snoc {w : World} {b0 : Nat} {x : Sp.Item} {V : Option Addr} {c : Nat} (ht : TRow w b0 StrT V (x.vals.map tv)) : ∀ {l : List Sp.Item} {xs : List Value}, ItCells w b0 l xs → ItCells w b0 (l ++ [x]) (xs ++ itemV x V c)
  | [], xs, h => ⟨V, c, [], by rw [show xs = [] from h]; simp, ht, rfl⟩
  | _ :: _, _, ⟨V', c', ys, e, ht', h⟩ => ⟨V', c', ys ++ itemV x V c, by rw [e]; simp, ht', h.snoc ht⟩
theorem ItCells.len {w : World} {b0 : Nat} : ∀ {l : List Sp.Item} {xs : List Value}, ItCells w b0 l xs → xs.length = l.length * 10
  | [], _, h => by rw [show _ = [] from h]; rfl
  | _ :: l, _, ⟨V, c, ys, e, _, h⟩ => by
    rw [e, List.length_append, h.len]
    simp [itemV]
    omega
theorem ItCells.at_ {w : World} {b0 : Nat} : ∀ {l : List Sp.Item} {xs : List Value}, ItCells w b0 l xs → ∀ k, k < l.length → ∃ V c, TRow w b0 StrT V ((l.getD k Sp.item0).vals.map tv) ∧ ∀ j u, (itemV (l.getD k Sp.item0) V c)[j]? = some u → xs[k * 10 + j]? = some u
  | [], _, _, k, hk => absurd hk (by simp)
  | x :: l, _, ⟨V, c, ys, e, ht, h⟩, 0, _ => ⟨V, c, ht, fun j u hu => by
      rw [e, Nat.zero_mul, Nat.zero_add, List.getElem?_append_left]
      · exact hu
      · exact (List.getElem?_eq_some_iff.1 hu).1⟩
  | x :: l, _, ⟨V, c, ys, e, ht, h⟩, k + 1, hk => by
    obtain ⟨V', c', ht', hc⟩ := h.at_ k (by simpa using hk)
    refine ⟨V', c', by simpa using ht', fun j u hu => ?_⟩
    have := hc j u (by simpa using hu)
    rw [e, List.getElem?_append_right (by simp [itemV]; omega)]
    have e2 : (k + 1) * 10 + j - (itemV x V c).length = k * 10 + j := by simp [itemV]; omega
    rw [e2]
    exact this
theorem news_of (w : World) (cs : Array Value) (t : TypeId) : ∀ j u, cs.toList[j]? = some u → (w.alloc (.cells cs t)).cell? ((⟨w.heap.size, 0, none⟩ : Addr).add j) = some u :=
  World.news_of_block (heap_alloc_new w _)
set_option maxRecDepth 100000 in
set_option maxHeartbeats 1600000 in
theorem pageC1_any (g L R base : Nat) (n : Nat) (cs : Array Value) (v : Value) (xs : List Value) (c : Sp.Cut) (w : World) (hs : c.s.length ≤ 4611686018427387904) (hc : CutAt w g c.s c.bad) (hL : Blk w L PageT cs) (hv : cs[1]? = some v)
    (hR : Blk w R 270 #[.pointer (some ⟨g, 0, none⟩)]) (own : w.ownsRow base ItemT 10 v n xs) (hgb : g < base) (hLb : L < base) (hbw : base ≤ w.heap.size) (hn : n ≤ 1073741824) :
    Calls Tryz.prog 187 #[.pointer (some ⟨L, 0, none⟩), .pointer (some ⟨R, 0, none⟩)] w fun e w' => e = .returned (.tuple #[]) ∧
      ∃ v' V cv, CutAt w' g c.item.2.s c.item.2.bad ∧ Blk w' L PageT (cs.setIfInBounds 1 v') ∧ TRow w' w.heap.size StrT V (c.item.1.vals.map tv) ∧
        w'.ownsRow base ItemT 10 v' (n + 1) (xs ++ itemV c.item.1 V cv) ∧ Chg (fun k => k = g ∨ k = L ∨ v.ownBlock = some k) w w' := by
  obtain ⟨i0, hi0, hz0, hz1, hz2⟩ := info_parts info_item
  have Hc := Lib.hid hc
  have Own := Lib.hid own
  have HL := Lib.hid hL
  have HV := Lib.hid hv
  have hLg : L ≠ g := fun e => Blk.not_ (t := PageT) hL (by decide) _ (e ▸ hc)
  have hL1 := (hL.cell 1).trans hv
  have hR0 := hR.at1
  have hLw := hL.lt
  have hgw := Hc.out.lt
  clear hc own hL hR hv
  go_enter Tryz.func187, Tryz.ntmps187
  go_wp2
  go_region_law (first
    | (go_simp; go_at_call 188; refine (rdItem_any g c _ hs ?_).mono ?_; exact Hc.out.drew; rintro e w1 ⟨V, cv, rfl, ht1, hc1, hk1⟩; have hk2 : Chg (OneM g) w w1 := Chg.trans ((Chg.refl _ _).drew) hk1; have HT1 : Hid (TRow w1 w.heap.size StrT V (c.item.1.vals.map tv)) := Lib.hid ht1; clear ht1; have HL1 := Lib.hid (HL.out.chg hk2 hLg); have qL1 := (HL1.out.cell 1).trans HV.out; have fqL1 := HL1.out.frozen 1; have hzw := hk2.size; have hLw1 := Nat.lt_of_lt_of_le hLw hzw; simp only [itemV])
    | (refine step_append_lies _ rfl (.tmp 3) (.tmp 6) _ rfl base ItemT i0 _ 10 112 Tryz.underlying116 hi0 hz0 hz1 hz2 rfl (by omega) v n xs rfl ?_ _ 1 1 (itemV c.item.1 V cv) rfl rfl ?_ ?_ (by omega) ?_ ?_ ?_ _ rfl ?_; (exact own_chg Own.out (hk2.alloc _) (fun k hk e => by unfold OneM at e; omega)); (exact news_of _ _ _); (exact fun u hu => by simp only [itemV, List.mem_cons, List.not_mem_nil, or_false] at hu; rcases hu with rfl | rfl | rfl | rfl | rfl | rfl | rfl | rfl | rfl | rfl <;> rfl); (simp only [maxLen]; omega); (omega); (first | omega | (simp; done) | (simp; omega)); (intro g2 cap2 w4 hown4 hgr4 hat4 hlt4; have h4 := after_append Own.out hgr4 hLb HL1.out; have HL4 := Lib.hid h4.1; have hk4 := h4.2; clear h4; have qL4 := (HL4.out.cell 1).trans HV.out; have fqL4 := HL4.out.frozen 1)))
  all_goals
    go_wp2
    go_end0
    refine ⟨rfl, .slice (some ⟨g2, 0, none⟩) (n + 1) cap2, V, cv, ?_, ?_, ?_, ?_, ?_⟩
    · exact ((hc1.alloc _).chg hk4 (fun h => by have := (Own.out.lt _ h).1; omega)).far (p := ⟨L, 1, none⟩) (fun e => hLg e.symm) _
    · exact HL4.out.set_ 1 (.slice (some ⟨g2, 0, none⟩) (n + 1) cap2)
    · have hA := (Chg.refl NoM w1).alloc (.cells (itemV c.item.1 V cv).toArray ItemT)
      refine ((HT1.out.chg hA (fun _ _ h => h.elim)).chg hk4 (fun k hb hk => ?_)).chg (Chg.set1 w4 L 1 _) (fun k hb hi => by unfold OneM at hi; omega)
      exact own_not (own_chg Own.out (hk2.alloc _) (fun k hk e => by unfold OneM at e; omega)) (by decide) k hk
    · exact own_chg hown4 (Chg.set1 _ L 1 _) (fun k hk e => by unfold OneM at e; omega)
    · exact (Chg.step hk4 (fun i hi => .inl (.inr (.inr hi))) ((hk2.mono (T := fun k => k = g ∨ k = L ∨ v.ownBlock = some k) (fun k _ e => .inl e)).alloc _)).setCell (p := ⟨L, 1, none⟩) (.inl (.inr (.inl rfl))) _
end Go.Proofs.YtmcpkhknjdiocaaGreatDoor
namespace Go.Proofs.YtmcpkhknjdiocaaGreatDoor
open Go.RowKit
attribute [local go_sem low] mk_extract
attribute [local go_sem] After.cell After.frozen mk_extract_end ByteArray.mk_append_mk
theorem info_free : (Tryz.prog.info? 155).map (fun i => (i.zero, i.size, i.bytes)) = some (some (.agg #[.int .u64 0, .slice none 0 0]), 2, 32) := by kernel_rfl
abbrev FreeT : TypeId := 155
def frV (x : Sp.Free) (V : Option Addr) (c : Nat) : List Value := [.int .u64 x.txn, .slice V x.ids.length c]
/-- The cells of free pages, one behind the other; the numbers of each lie in rows from block b0 on. -/
def FrCells (w : World) (b0 : Nat) : List Sp.Free → List Value → Prop
  | [], xs => xs = []
  | x :: l, xs => ∃ V c ys, xs = frV x V c ++ ys ∧ TRow w b0 IntT V (x.ids.map iv) ∧ (0 ≤ x.txn ∧ x.txn < 18446744073709551616) ∧ FrCells w b0 l ys
theorem FrCells.chg {S : Nat → Prop} {w w' : World} {b0 : Nat} (hk : Chg S w w') (hS : ∀ k, b0 ≤ k → S k → ∀ cs, ¬ Blk w k IntT cs) : ∀ {l : List Sp.Free} {xs : List Value}, FrCells w b0 l xs → FrCells w' b0 l xs
  | [], _, h => h
  | _ :: _, _, ⟨V, c, ys, e, ht, hr, h⟩ => ⟨V, c, ys, e, ht.chg hk hS, hr, h.chg hk hS⟩
theorem FrCells.snoc {w : World} {b0 : Nat} {x : Sp.Free} {V : Option Addr} {c : Nat} (ht : TRow w b0 IntT V (x.ids.map iv)) (hr : 0 ≤ x.txn ∧ x.txn < 18446744073709551616) : ∀ {l : List Sp.Free} {xs : List Value}, FrCells w b0 l xs → FrCells w b0 (l ++ [x]) (xs ++ frV x V c)
  | [], xs, h => ⟨V, c, [], by rw [show xs = [] from h]; simp, ht, hr, rfl⟩
  | _ :: _, _, ⟨V', c', ys, e, ht', hr', h⟩ => ⟨V', c', ys ++ frV x V c, by rw [e]; simp, ht', hr', h.snoc ht hr⟩
theorem FrCells.len {w : World} {b0 : Nat} : ∀ {l : List Sp.Free} {xs : List Value}, FrCells w b0 l xs → xs.length = l.length * 2
  | [], _, h => by rw [show _ = [] from h]; rfl
  | _ :: l, _, ⟨V, c, ys, e, _, _, h⟩ => by
    rw [e, List.length_append, h.len]
    simp [frV]
    omega
theorem FrCells.at_ {w : World} {b0 : Nat} : ∀ {l : List Sp.Free} {xs : List Value}, FrCells w b0 l xs → ∀ k, k < l.length → ∃ V c, TRow w b0 IntT V ((l.getD k Sp.free0).ids.map iv) ∧ (0 ≤ (l.getD k Sp.free0).txn ∧ (l.getD k Sp.free0).txn < 18446744073709551616) ∧ ∀ j u, (frV (l.getD k Sp.free0) V c)[j]? = some u → xs[k * 2 + j]? = some u
  | [], _, _, k, hk => absurd hk (by simp)
  | x :: l, _, ⟨V, c, ys, e, ht, hr, h⟩, 0, _ => ⟨V, c, ht, hr, fun j u hu => by
      rw [e, Nat.zero_mul, Nat.zero_add, List.getElem?_append_left]
      · exact hu
      · exact (List.getElem?_eq_some_iff.1 hu).1⟩
  | x :: l, _, ⟨V, c, ys, e, ht, hr, h⟩, k + 1, hk => by
    obtain ⟨V', c', ht', hr', hc⟩ := h.at_ k (by simpa using hk)
    refine ⟨V', c', by simpa using ht', by simpa using hr', fun j u hu => ?_⟩
    have := hc j u (by simpa using hu)
    rw [e, List.getElem?_append_right (by simp [frV]; omega)]
    have e2 : (k + 1) * 2 + j - (frV x V c).length = k * 2 + j := by simp [frV]; omega
    rw [e2]
    exact this
set_option maxRecDepth 100000 in
set_option maxHeartbeats 1600000 in
theorem pageC3_any (g L R base : Nat) (n : Nat) (cs : Array Value) (v : Value) (xs : List Value) (c : Sp.Cut) (w : World) (hs : c.s.length ≤ 4611686018427387904) (hc : CutAt w g c.s c.bad) (hL : Blk w L PageT cs) (hv : cs[6]? = some v)
    (hR : Blk w R 270 #[.pointer (some ⟨g, 0, none⟩)]) (own : w.ownsRow base FreeT 2 v n xs) (hgb : g < base) (hLb : L < base) (hbw : base ≤ w.heap.size) (hn : n ≤ 1073741824) :
    Calls Tryz.prog 192 #[.pointer (some ⟨L, 0, none⟩), .pointer (some ⟨R, 0, none⟩)] w fun e w' => e = .returned (.tuple #[]) ∧
      ∃ v' V cv, CutAt w' g c.free.2.s c.free.2.bad ∧ Blk w' L PageT (cs.setIfInBounds 6 v') ∧ TRow w' w.heap.size IntT V (c.free.1.ids.map iv) ∧
        w'.ownsRow base FreeT 2 v' (n + 1) (xs ++ frV c.free.1 V cv) ∧ Chg (fun k => k = g ∨ k = L ∨ v.ownBlock = some k) w w' := by
  obtain ⟨i0, hi0, hz0, hz1, hz2⟩ := info_parts info_free
  have Hc := Lib.hid hc
  have Own := Lib.hid own
  have HL := Lib.hid hL
  have HV := Lib.hid hv
  have hLg : L ≠ g := fun e => Blk.not_ (t := PageT) hL (by decide) _ (e ▸ hc)
  have hL1 := (hL.cell 6).trans hv
  have hR0 := hR.at1
  have hLw := hL.lt
  have hgw := Hc.out.lt
  clear hc own hL hR hv
  go_enter Tryz.func192, Tryz.ntmps192
  go_wp2
  go_region_law (first
    | (go_simp; go_at_call 193; refine (rdFree_any g c _ hs ?_).mono ?_; exact Hc.out.drew; rintro e w1 ⟨V, cv, rfl, ht1, hc1, hk1⟩; have hk2 : Chg (OneM g) w w1 := Chg.trans ((Chg.refl _ _).drew) hk1; have HT1 : Hid (TRow w1 w.heap.size IntT V (c.free.1.ids.map iv)) := Lib.hid ht1; clear ht1; have HL1 := Lib.hid (HL.out.chg hk2 hLg); have qL1 := (HL1.out.cell 6).trans HV.out; have fqL1 := HL1.out.frozen 6; have hzw := hk2.size; have hLw1 := Nat.lt_of_lt_of_le hLw hzw)
    | (refine step_append_lies _ rfl (.tmp 3) (.tmp 6) _ rfl base FreeT i0 _ 2 32 Tryz.underlying117 hi0 hz0 hz1 hz2 rfl (by omega) v n xs rfl ?_ _ 1 1 (frV c.free.1 V cv) rfl rfl ?_ ?_ (by omega) ?_ ?_ ?_ _ rfl ?_; (exact own_chg Own.out (hk2.alloc _) (fun k hk e => by unfold OneM at e; omega)); (exact news_of _ _ _); (exact fun u hu => by simp only [frV, List.mem_cons, List.not_mem_nil, or_false] at hu; rcases hu with rfl | rfl <;> rfl); (simp only [maxLen]; omega); (omega); (first | omega | (simp; done) | (simp; omega)); (intro g2 cap2 w4 hown4 hgr4 hat4 hlt4; have h4 := after_append Own.out hgr4 hLb HL1.out; have HL4 := Lib.hid h4.1; have hk4 := h4.2; clear h4; have qL4 := (HL4.out.cell 6).trans HV.out; have fqL4 := HL4.out.frozen 6)))
  all_goals
    go_wp2
    go_end0
    refine ⟨rfl, .slice (some ⟨g2, 0, none⟩) (n + 1) cap2, V, cv, ?_, ?_, ?_, ?_, ?_⟩
    · exact ((hc1.alloc _).chg hk4 (fun h => by have := (Own.out.lt _ h).1; omega)).far (p := ⟨L, 6, none⟩) (fun e => hLg e.symm) _
    · exact HL4.out.set_ 6 (.slice (some ⟨g2, 0, none⟩) (n + 1) cap2)
    · have hA := (Chg.refl NoM w1).alloc (.cells (frV c.free.1 V cv).toArray FreeT)
      refine ((HT1.out.chg hA (fun _ _ h => h.elim)).chg hk4 (fun k hb hk => ?_)).chg (Chg.set1 w4 L 6 _) (fun k hb hi => by unfold OneM at hi; omega)
      exact own_not (own_chg Own.out (hk2.alloc _) (fun k hk e => by unfold OneM at e; omega)) (by decide) k hk
    · exact own_chg hown4 (Chg.set1 _ L 6 _) (fun k hk e => by unfold OneM at e; omega)
    · exact (Chg.step hk4 (fun i hi => .inl (.inr (.inr hi))) ((hk2.mono (T := fun k => k = g ∨ k = L ∨ v.ownBlock = some k) (fun k _ e => .inl e)).alloc _)).setCell (p := ⟨L, 6, none⟩) (.inl (.inr (.inl rfl))) _
end Go.Proofs.YtmcpkhknjdiocaaGreatDoor
