/- Reading: keys and kids of a branch, one by one. Reading: items, keys and kids, free pages of a page: what is so behind k of them; the plain reader of a page. Reading: a page; what all its kinds share. Reading: a page, kind 1. -/
import Derived.Test.YtmcpkhknjdiocaaGreatDoorQB03
import Derived.Deep.RegionHeld3
set_option linter.unusedSimpArgs false
set_option linter.unusedVariables false
namespace Go.Proofs.YtmcpkhknjdiocaaGreatDoor
open Go.RowKit
attribute [local go_sem low] mk_extract
attribute [local go_sem] After.cell After.frozen mk_extract_end ByteArray.mk_append_mk
theorem own_chg2 {S : Nat → Prop} {w w' : World} {base : Nat} {e : TypeId} {size : Nat} {v : Value} {n : Nat} {xs : List Value} (h : w.ownsRow base e size v n xs) (hk : Chg S w w') (hS : ∀ k, v.ownBlock = some k → ¬ S k) : w'.ownsRow base e size v n xs := by
  obtain ⟨h1, h2⟩ := h
  refine ⟨h1, ?_⟩
  rcases h2 with h2 | ⟨g, cap, cur, hv, hg, hh, r⟩
  · exact Or.inl h2
  · exact Or.inr ⟨g, cap, cur, hv, hg, by rw [hk.block g (Array.getElem?_eq_some_iff.1 hh).1 (hS g (by rw [hv]; rfl))]; exact hh, r⟩
set_option maxRecDepth 100000 in
set_option maxHeartbeats 1600000 in
theorem pageC2_any (g L R base : Nat) (l : List Txt) (l2 : List Int) (cs : Array Value) (v v2 : Value) (c : Sp.Cut) (w : World) (hs : c.s.length ≤ 4611686018427387904) (hc : CutAt w g c.s c.bad) (hL : Blk w L PageT cs) (hv : cs[2]? = some v) (hv2 : cs[3]? = some v2)
    (hR : Blk w R 270 #[.pointer (some ⟨g, 0, none⟩)]) (own : w.ownsRow base StrT 1 v l.length (l.map tv)) (own2 : w.ownsRow base IntT 1 v2 l2.length (l2.map iv)) (hgb : g < base) (hLb : L < base) (hbw : base ≤ w.heap.size) (hn : l.length ≤ 1073741824) (hn2 : l2.length ≤ 1073741824) :
    Calls Tryz.prog 189 #[.pointer (some ⟨L, 0, none⟩), .pointer (some ⟨R, 0, none⟩)] w fun e w' => e = .returned (.tuple #[]) ∧
      ∃ v' v2', CutAt w' g c.text.2.num.2.s c.text.2.num.2.bad ∧ Blk w' L PageT ((cs.setIfInBounds 2 v').setIfInBounds 3 v2') ∧
        w'.ownsRow base StrT 1 v' (l.length + 1) ((l ++ [c.text.1]).map tv) ∧ w'.ownsRow base IntT 1 v2' (l2.length + 1) ((l2 ++ [c.text.2.num.1]).map iv) ∧ Chg (fun k => k = g ∨ k = L ∨ v.ownBlock = some k ∨ v2.ownBlock = some k) w w' := by
  obtain ⟨i0, hi0, hz0, hz1, hz2⟩ := info_parts info_str
  obtain ⟨i2, hi2, hy0, hy1, hy2⟩ := info_parts info_int
  have Hc := Lib.hid hc
  have Own := Lib.hid own
  have Own2 := Lib.hid own2
  have HL := Lib.hid hL
  have HV := Lib.hid hv
  have HV2 := Lib.hid hv2
  have hLg : L ≠ g := fun e => Blk.not_ (t := PageT) hL (by decide) _ (e ▸ hc)
  have hRg : R ≠ g := fun e => Blk.not_ (t := 270) hR (by decide) _ (e ▸ hc)
  have hRL : R ≠ L := fun e => Blk.not_ (t := 270) hR (by decide) _ (e ▸ hL)
  have hRv : v.ownBlock ≠ some R := fun e => own_not own (by decide) _ e _ hR
  have hRv2 : v2.ownBlock ≠ some R := fun e => own_not own2 (by decide) _ e _ hR
  have hL1 := (hL.cell 2).trans hv
  have HR := Lib.hid hR
  have hR0 := hR.at1
  have hLw := hL.lt
  have hRw := hR.lt
  have hgw := Hc.out.lt
  have l1 := Nat.le_trans c.text_len hs
  have hv2w : ∀ k, v2.ownBlock = some k → ¬ v.ownBlock = some k := fun k e e2 => by
    obtain ⟨_, _, hb⟩ : ∃ _ : Unit, ∃ cs, Blk w k IntT cs := by
      rcases own2.2 with ⟨rfl, _⟩ | ⟨g', cap, cur, rfl, _, hh, _⟩
      · simp [Value.ownBlock] at e
      · have : g' = k := by simpa [Value.ownBlock] using e
        subst this
        exact ⟨(), _, hh⟩
    exact own_not own (by decide) k e2 _ hb
  have HW := Lib.hid hv2w
  clear hc own own2 hL hR hv hv2 hv2w
  go_enter Tryz.func189, Tryz.ntmps189
  go_wp2
  go_region_law (first
    | (go_simp; go_at_call 190; refine (cutText_any g c.s c.bad _ hs ?_).mono ?_; exact Hc.out.drew; rintro e w1 ⟨rfl, hc1, hk1⟩; have hk2 : Chg (OneM g) w w1 := Chg.trans ((Chg.refl _ _).drew) hk1; have HL1 := Lib.hid (HL.out.chg hk2 hLg); have qL1 := (HL1.out.cell 2).trans HV.out; have fqL1 := HL1.out.frozen 2; have hzw := hk2.size; have hLw1 := Nat.lt_of_lt_of_le hLw hzw)
    | (refine step_append_lies _ rfl (.tmp 3) (.tmp 7) _ rfl base StrT i0 _ 1 16 Tryz.underlying26 hi0 hz0 hz1 hz2 rfl (by omega) v l.length (l.map tv) rfl ?_ _ 1 1 [tv c.text.1] rfl rfl ?_ ?_ (by omega) ?_ ?_ ?_ _ rfl ?_; (exact own_chg Own.out (hk2.alloc _) (fun k hk e => by unfold OneM at e; omega)); (exact cell_one_new _ _ _); (exact fun u hu => by rw [List.mem_singleton.1 hu]; rfl); (simp only [maxLen]; omega); (omega); (first | omega | (simp; done) | (simp; omega)); (intro g2 cap2 w4 hown4 hgr4 hat4 hlt4; have h4 := after_append Own.out hgr4 hLb HL1.out; have HL4 := Lib.hid h4.1; have hk4 := h4.2; clear h4; have qL4 := (HL4.out.cell 2).trans HV.out; have fqL4 := HL4.out.frozen 2)))
  all_goals
    have HK5 := Lib.hid ((Chg.step hk4 (fun i hi => .inl (.inr (.inr (.inl hi)))) ((hk2.mono (T := fun k => k = g ∨ k = L ∨ v.ownBlock = some k ∨ v2.ownBlock = some k) (fun k _ e => .inl e)).alloc _)).setCell (p := ⟨L, 2, none⟩) (.inl (.inr (.inl rfl))) (.slice (some ⟨g2, 0, none⟩) (l.length + 1) cap2))
    have Hc5 := Lib.hid (((hc1.alloc _).chg hk4 (fun h => by have := (Own.out.lt _ h).1; omega)).far (p := ⟨L, 2, none⟩) (fun e => hLg e.symm) (.slice (some ⟨g2, 0, none⟩) (l.length + 1) cap2))
    have HL5 := Lib.hid (HL4.out.set_ 2 (.slice (some ⟨g2, 0, none⟩) (l.length + 1) cap2))
    have Own5 := Lib.hid (own_chg hown4 (Chg.set1 _ L 2 (.slice (some ⟨g2, 0, none⟩) (l.length + 1) cap2)) (fun k hk e => by unfold OneM at e; omega))
    have Own25 := Lib.hid (own_chg (own_chg2 (own_chg (own_chg Own2.out hk2 (fun k hk e => by unfold OneM at e; omega)) ((Chg.refl NoM w1).alloc (.cells #[tv c.text.1] StrT)) (fun _ _ h => h.elim)) hk4 HW.out) (Chg.set1 _ L 2 (.slice (some ⟨g2, 0, none⟩) (l.length + 1) cap2)) (fun k hk e => by unfold OneM at e; omega))
    have HR5 := Lib.hid ((((HR.out.chg hk2 hRg).alloc (.cells #[tv c.text.1] StrT)).chg hk4 hRv).far (p := ⟨L, 2, none⟩) hRL (.slice (some ⟨g2, 0, none⟩) (l.length + 1) cap2))
    have hsz5 : base ≤ (w4.setCell ⟨L, 2, none⟩ (.slice (some ⟨g2, 0, none⟩) (l.length + 1) cap2)).heap.size := by
      have := hk4.size
      simp only [World.size_alloc, World.size_setCell] at *
      omega
    have hcs5 : (cs.setIfInBounds 2 (.slice (some ⟨g2, 0, none⟩) (l.length + 1) cap2))[3]? = some v2 := by rw [Array.getElem?_setIfInBounds]; simpa using HV2.out
    have HCS5 := Lib.hid hcs5
    have qL5 := (HL5.out.cell 3).trans hcs5
    have qR5 := HR5.out.at1
    have hgL5 := HL5.out.lt
    have hg5 := Hc5.out.lt
    clear hc1 hk1 hk2 HL1 qL1 fqL1 hzw hLw1 hown4 hgr4 hat4 hlt4 HL4 hk4 qL4 fqL4 hL1 hR0 hcs5
    go_wp2
    generalize w4.setCell ⟨L, 2, none⟩ (.slice (some ⟨g2, 0, none⟩) (l.length + 1) cap2) = w5 at *
    go_region_law (first
      | (go_simp; go_at_call 185; refine (rdNum_any g c.text.2.s c.text.2.bad _ l1 ?_).mono ?_; exact Hc5.out.drew; rintro e w1 ⟨rfl, hc1, hk1⟩; have hk2 : Chg (OneM g) w5 w1 := Chg.trans ((Chg.refl _ _).drew) hk1; have HL1 := Lib.hid (HL5.out.chg hk2 hLg); have qL1 := (HL1.out.cell 3).trans HCS5.out; have fqL1 := HL1.out.frozen 3; have hzw := hk2.size; have hLw1 := Nat.lt_of_lt_of_le hgL5 hzw)
      | (refine step_append_lies _ rfl (.tmp 11) (.tmp 14) _ rfl base IntT i2 _ 1 8 Tryz.underlying77 hi2 hy0 hy1 hy2 rfl (by omega) v2 l2.length (l2.map iv) rfl ?_ _ 1 1 [iv c.text.2.num.1] rfl rfl ?_ ?_ (by omega) ?_ ?_ ?_ _ rfl ?_; (exact own_chg Own25.out (hk2.alloc _) (fun k hk e => by unfold OneM at e; omega)); (exact cell_one_new _ _ _); (exact fun u hu => by rw [List.mem_singleton.1 hu]; rfl); (simp only [maxLen]; omega); (omega); (first | omega | (simp; done) | (simp; omega)); (intro g6 cap6 w6 hown6 hgr6 hat6 hlt6; have h6 := after_append Own25.out hgr6 hLb HL1.out; have HL6 := Lib.hid h6.1; have hk6 := h6.2; clear h6; have qL6 := (HL6.out.cell 3).trans HCS5.out; have fqL6 := HL6.out.frozen 3)))
    all_goals
      go_wp2
      go_end0
      refine ⟨rfl, .slice (some ⟨g2, 0, none⟩) (l.length + 1) cap2, .slice (some ⟨g6, 0, none⟩) (l2.length + 1) cap6, ?_, ?_, ?_, ?_, ?_⟩
      · exact ((hc1.alloc _).chg hk6 (fun h => by have := (Own25.out.lt _ h).1; omega)).far (p := ⟨L, 3, none⟩) (fun e => hLg e.symm) _
      · exact HL6.out.set_ 3 (.slice (some ⟨g6, 0, none⟩) (l2.length + 1) cap6)
      · rw [List.map_append]
        refine own_chg (own_chg2 (own_chg (own_chg Own5.out hk2 (fun k hk e => by unfold OneM at e; omega)) ((Chg.refl NoM w1).alloc (.cells #[iv c.text.2.num.1] IntT)) (fun _ _ h => h.elim)) hk6 ?_) (Chg.set1 _ L 3 _) (fun k hk e => by unfold OneM at e; omega)
        intro k e e2
        have hq := own_chg Own5.out (hk2.alloc (.cells #[iv c.text.2.num.1] IntT)) (fun k hk e => by unfold OneM at e; omega)
        obtain ⟨cq, hb⟩ : ∃ cs, Blk (w1.alloc (.cells #[iv c.text.2.num.1] IntT)) k StrT cs := by
          rcases hq.2 with ⟨hq2, _⟩ | ⟨g', cap, cur, hq2, _, hh, _⟩
          · cases hq2
          · injection hq2 with hq2 _ _
            injection hq2 with hq2
            injection hq2 with hq2 _ _
            have : g2 = k := by simpa [Value.ownBlock] using e
            subst this
            subst hq2
            exact ⟨_, hh⟩
        exact own_not (own_chg Own25.out (hk2.alloc (.cells #[iv c.text.2.num.1] IntT)) (fun k hk e => by unfold OneM at e; omega)) (by decide) k e2 _ hb
      · rw [List.map_append]
        exact own_chg hown6 (Chg.set1 _ L 3 _) (fun k hk e => by unfold OneM at e; omega)
      · exact (Chg.step hk6 (fun i hi => .inl (.inr (.inr (.inr hi)))) ((HK5.out.trans (hk2.mono (T := fun k => k = g ∨ k = L ∨ v.ownBlock = some k ∨ v2.ownBlock = some k) (fun k _ e => .inl e))).alloc _)).setCell (p := ⟨L, 3, none⟩) (.inl (.inr (.inl rfl))) _
end Go.Proofs.YtmcpkhknjdiocaaGreatDoor
namespace Go.Proofs.YtmcpkhknjdiocaaGreatDoor
open Go.RowKit
attribute [local go_sem low] mk_extract
attribute [local go_sem] After.cell After.frozen mk_extract_end ByteArray.mk_append_mk
namespace Sp
def itemStep (l : List Item) (c : Cut) : List Item × Cut := (l ++ [c.item.1], c.item.2)
def keyStep (l : List Txt × List Int) (c : Cut) : (List Txt × List Int) × Cut := ((l.1 ++ [c.text.1], l.2 ++ [c.text.2.num.1]), c.text.2.num.2)
def freeStep (l : List Free) (c : Cut) : List Free × Cut := (l ++ [c.free.1], c.free.2)
def Cut.items (c : Cut) : List Item × Cut := eachN itemStep c.num.1.toNat ([], c.num.2)
def Cut.keys (c : Cut) : (List Txt × List Int) × Cut := eachN keyStep c.num.1.toNat (([], []), c.num.2)
def Cut.frees (c : Cut) : List Free × Cut := eachN freeStep c.num.1.toNat ([], c.num.2)
theorem Cut.frees_len (c : Cut) : c.frees.2.s.length ≤ c.s.length := Nat.le_trans (eachN_len (f := freeStep) (fun _ c => c.free_len) ([], c.num.2) c.num.1.toNat) c.num_len
def Cut.mt (c : Cut) : Mt × Cut := (⟨c.u64.1, c.u64.2.root.1, c.u64.2.root.2.num.1, c.u64.2.root.2.num.2.num.1⟩, c.u64.2.root.2.num.2.num.2)
def Cut.page (c : Cut) : Page × Cut :=
  if c.num.1 = 1 then (⟨c.num.1, c.num.2.items.1, [], [], [], [], [], 0, mt0⟩, c.num.2.items.2)
  else if c.num.1 = 2 then (⟨c.num.1, [], c.num.2.keys.1.1, c.num.2.keys.1.2, [], [], [], 0, mt0⟩, c.num.2.keys.2)
  else if c.num.1 = 3 then (⟨c.num.1, [], [], [], c.num.2.text.1, [], [], 0, mt0⟩, c.num.2.text.2)
  else if c.num.1 = 4 then (⟨c.num.1, [], [], [], [], c.num.2.vals.1, [], 0, mt0⟩, c.num.2.vals.2)
  else if c.num.1 = 5 then (⟨c.num.1, [], [], [], [], [], c.num.2.frees.1, c.num.2.frees.2.num.1, mt0⟩, c.num.2.frees.2.num.2)
  else if c.num.1 = 6 then (⟨c.num.1, [], [], [], [], [], [], 0, c.num.2.mt.1⟩, c.num.2.mt.2)
  else (⟨c.num.1, [], [], [], [], [], [], 0, mt0⟩, c.num.2)
end Sp
theorem Items.of_cells {w : World} {M : Nat → Prop} {base : Nat} {A : Option Addr} {l : List Sp.Item} {xs : List Value} (hT : TRow w base ItemT A xs) (hI : ItCells w base l xs) (hM : ∀ k, base ≤ k → ¬ M k) (hl : l.length ≤ 1073741824) : Items w M A l := by
  refine ⟨by omega, ?_⟩
  rcases (hT.row hM).2 with h | ⟨b, off, ha, hb, hm, hc⟩
  · have := hI.len
    rw [h] at this
    exact .inl (List.eq_nil_of_length_eq_zero (by simp at this; omega))
  · refine .inr ⟨b, off, ha, hb, hm, fun k hk => ?_⟩
    obtain ⟨V, c, ht, hx⟩ := hI.at_ k hk
    have hcell : ∀ j u, (itemV (l.getD k Sp.item0) V c)[j]? = some u → w.cell? ⟨b, off + k * 10 + j, none⟩ = some u := fun j u hu => by
      rw [Nat.add_assoc]
      exact hc _ u (hx j u hu)
    exact ⟨V, c, ⟨hcell 0 _ rfl, hcell 1 _ rfl, hcell 2 _ rfl, hcell 3 _ rfl, hcell 4 _ rfl, hcell 5 _ rfl, hcell 6 _ rfl, hcell 7 _ rfl, hcell 8 _ rfl, hcell 9 _ rfl⟩, ht.row hM⟩
theorem Frees.of_cells {w : World} {M : Nat → Prop} {base : Nat} {A : Option Addr} {l : List Sp.Free} {xs : List Value} (hT : TRow w base FreeT A xs) (hI : FrCells w base l xs) (hM : ∀ k, base ≤ k → ¬ M k) (hl : l.length ≤ 1073741824) : Frees w M A l := by
  refine ⟨by omega, ?_⟩
  rcases (hT.row hM).2 with h | ⟨b, off, ha, hb, hm, hc⟩
  · have := hI.len
    rw [h] at this
    exact .inl (List.eq_nil_of_length_eq_zero (by simp at this; omega))
  · refine .inr ⟨b, off, ha, hb, hm, fun k hk => ?_⟩
    obtain ⟨V, c, ht, hr, hx⟩ := hI.at_ k hk
    have hcell : ∀ j u, (frV (l.getD k Sp.free0) V c)[j]? = some u → w.cell? ⟨b, off + k * 2 + j, none⟩ = some u := fun j u hu => by
      rw [Nat.add_assoc]
      exact hc _ u (hx j u hu)
    exact ⟨V, c, ⟨hcell 0 _ rfl, hcell 1 _ rfl⟩, ht.row hM, hr⟩
/-- What is so behind k items. -/
structure ItemsI (g L R base : Nat) (cs0 : Array Value) (w0 : World) (c1 : Sp.Cut) (k : Nat) (c : Sp.Cut) (w : World) : Prop where
  ex : ∃ l v xs, Sp.eachN Sp.itemStep k ([], c1) = (l, c) ∧ l.length ≤ k ∧ Blk w L PageT (cs0.setIfInBounds 1 v) ∧ w.ownsRow base ItemT 10 v l.length xs ∧ ItCells w base l xs
  cut : CutAt w g c.s c.bad
  len : c.s.length ≤ 4611686018427387904
  box : Blk w R 270 #[.pointer (some ⟨g, 0, none⟩)]
  size : base ≤ w.heap.size
  chg : Chg (fun k => k = g ∨ k = L ∨ base ≤ k) w0 w
theorem ItemsI.below {g L R base : Nat} {cs0 : Array Value} {w0 : World} {c1 : Sp.Cut} {k : Nat} {c : Sp.Cut} {w w' : World} (h : ItemsI g L R base cs0 w0 c1 k c w) (hb : Below w.heap.size w w') : ItemsI g L R base cs0 w0 c1 k c w' := by
  have hk : Chg NoM w w' := .of_below hb
  refine ⟨?_, h.cut.chg hk id, h.len, h.box.chg hk id, Nat.le_trans h.size hb.size, h.chg.trans (hk.mono (fun _ _ e => e.elim))⟩
  obtain ⟨l, v, xs, he, hl, hL, ho, hi⟩ := h.ex
  exact ⟨l, v, xs, he, hl, hL.chg hk id, own_chg ho hk (fun _ _ => id), hi.chg hk (fun _ _ h => h.elim)⟩
theorem ItemsI.next {g L R base : Nat} {cs0 : Array Value} {w0 : World} {c1 : Sp.Cut} {k : Nat} {c : Sp.Cut} {w : World} (hcs : 6 < cs0.size) (hgb : g < base) (hLb : L < base) (hk30 : k ≤ 1073741823) (hbad : c.bad = false) (h : ItemsI g L R base cs0 w0 c1 k c w) :
    Calls Tryz.prog 187 #[.pointer (some ⟨L, 0, none⟩), .pointer (some ⟨R, 0, none⟩)] w fun e w' => e = .returned (.tuple #[]) ∧ ∃ c', ItemsI g L R base cs0 w0 c1 (k + 1) c' w' ∧ Rdk w w' := by
  obtain ⟨l, v, xs, he, hl, hL, ho, hi⟩ := h.ex
  refine (pageC1_any g L R base l.length (cs0.setIfInBounds 1 v) v xs c w h.len h.cut hL (by rw [Array.getElem?_setIfInBounds_self, if_pos (by omega)]) h.box ho hgb hLb h.size (by omega)).mono ?_
  rintro e w' ⟨rfl, v', V, cv, hc', hL', ht', ho', hk⟩
  have hst : Sp.eachN Sp.itemStep (k + 1) ([], c1) = Sp.itemStep l c := by
    rw [Sp.eachN_succ _ _ _ (by rw [he]; exact hbad), he]
  have hnot : ∀ (t : TypeId), 274 ≠ t → PageT ≠ t → ItemT ≠ t → ∀ i, (i = g ∨ i = L ∨ v.ownBlock = some i) → ∀ cs, ¬ Blk w i t cs := fun t t1 t2 t3 i hi => by
    rcases hi with rfl | rfl | hi
    · exact Blk.not_ (t := 274) h.cut t1
    · exact Blk.not_ hL t2
    · exact own_not ho t3 i hi
  rw [Array.setIfInBounds_setIfInBounds] at hL'
  refine ⟨rfl, c.item.2, ⟨⟨l ++ [c.item.1], v', xs ++ itemV c.item.1 V cv, hst, by simp; omega, hL', by simpa using ho', ?_⟩, hc', Nat.le_trans c.item_len h.len, ?_, Nat.le_trans h.size hk.size, ?_⟩, Rdk.of hk (hnot _ (by decide) (by decide) (by decide))⟩
  · exact (hi.chg hk (fun k _ s => hnot StrT (by decide) (by decide) (by decide) k s)).snoc (ht'.less h.size)
  · exact h.box.chg hk (fun s => hnot _ (by decide) (by decide) (by decide) R s _ h.box)
  · refine Chg.step hk (fun i hi => .inl ?_) h.chg
    rcases hi with rfl | rfl | hi
    · exact .inl rfl
    · exact .inr (.inl rfl)
    · exact .inr (.inr (ho.lt i hi).1)
theorem callFunc_ItemsI (cap : Array Value) (w : World) : (callFunc 187 cap).run Tryz.prog w = .ok (.enter 187 cap) w := by kernel_rfl
theorem ItemsI.start {g L R base : Nat} {cs0 : Array Value} {w0 w1 : World} {c1 : Sp.Cut} (hk : Chg (OneM g) w0 w1) (hL : Blk w0 L PageT (cs0.setIfInBounds 1 (.slice none 0 0))) (hR : Blk w0 R 270 #[.pointer (some ⟨g, 0, none⟩)]) (hLg : L ≠ g) (hRg : R ≠ g)
    (hb : base ≤ w0.heap.size) (hc : CutAt w1 g c1.s c1.bad) (hl : c1.s.length ≤ 4611686018427387904) : ItemsI g L R base cs0 w0 c1 0 c1 w1 :=
  ⟨⟨[], .slice none 0 0, [], rfl, Nat.le_refl _, hL.chg hk hLg, World.ownsRow_nil _ _ _ _, rfl⟩, hc, hl, hR.chg hk hRg, Nat.le_trans hb hk.size, hk.mono (fun _ _ e => .inl e)⟩
/-- What is so behind k free pages. -/
structure FreesI (g L R base : Nat) (cs0 : Array Value) (w0 : World) (c1 : Sp.Cut) (k : Nat) (c : Sp.Cut) (w : World) : Prop where
  ex : ∃ l v xs, Sp.eachN Sp.freeStep k ([], c1) = (l, c) ∧ l.length ≤ k ∧ Blk w L PageT (cs0.setIfInBounds 6 v) ∧ w.ownsRow base FreeT 2 v l.length xs ∧ FrCells w base l xs
  cut : CutAt w g c.s c.bad
  len : c.s.length ≤ 4611686018427387904
  box : Blk w R 270 #[.pointer (some ⟨g, 0, none⟩)]
  size : base ≤ w.heap.size
  chg : Chg (fun k => k = g ∨ k = L ∨ base ≤ k) w0 w
theorem FreesI.below {g L R base : Nat} {cs0 : Array Value} {w0 : World} {c1 : Sp.Cut} {k : Nat} {c : Sp.Cut} {w w' : World} (h : FreesI g L R base cs0 w0 c1 k c w) (hb : Below w.heap.size w w') : FreesI g L R base cs0 w0 c1 k c w' := by
  have hk : Chg NoM w w' := .of_below hb
  refine ⟨?_, h.cut.chg hk id, h.len, h.box.chg hk id, Nat.le_trans h.size hb.size, h.chg.trans (hk.mono (fun _ _ e => e.elim))⟩
  obtain ⟨l, v, xs, he, hl, hL, ho, hi⟩ := h.ex
  exact ⟨l, v, xs, he, hl, hL.chg hk id, own_chg ho hk (fun _ _ => id), hi.chg hk (fun _ _ h => h.elim)⟩
theorem FreesI.next {g L R base : Nat} {cs0 : Array Value} {w0 : World} {c1 : Sp.Cut} {k : Nat} {c : Sp.Cut} {w : World} (hcs : 6 < cs0.size) (hgb : g < base) (hLb : L < base) (hk30 : k ≤ 1073741823) (hbad : c.bad = false) (h : FreesI g L R base cs0 w0 c1 k c w) :
    Calls Tryz.prog 192 #[.pointer (some ⟨L, 0, none⟩), .pointer (some ⟨R, 0, none⟩)] w fun e w' => e = .returned (.tuple #[]) ∧ ∃ c', FreesI g L R base cs0 w0 c1 (k + 1) c' w' ∧ Rdk w w' := by
  obtain ⟨l, v, xs, he, hl, hL, ho, hi⟩ := h.ex
  refine (pageC3_any g L R base l.length (cs0.setIfInBounds 6 v) v xs c w h.len h.cut hL (by rw [Array.getElem?_setIfInBounds_self, if_pos (by omega)]) h.box ho hgb hLb h.size (by omega)).mono ?_
  rintro e w' ⟨rfl, v', V, cv, hc', hL', ht', ho', hk⟩
  have hst : Sp.eachN Sp.freeStep (k + 1) ([], c1) = Sp.freeStep l c := by
    rw [Sp.eachN_succ _ _ _ (by rw [he]; exact hbad), he]
  have hnot : ∀ (t : TypeId), 274 ≠ t → PageT ≠ t → FreeT ≠ t → ∀ i, (i = g ∨ i = L ∨ v.ownBlock = some i) → ∀ cs, ¬ Blk w i t cs := fun t t1 t2 t3 i hi => by
    rcases hi with rfl | rfl | hi
    · exact Blk.not_ (t := 274) h.cut t1
    · exact Blk.not_ hL t2
    · exact own_not ho t3 i hi
  rw [Array.setIfInBounds_setIfInBounds] at hL'
  refine ⟨rfl, c.free.2, ⟨⟨l ++ [c.free.1], v', xs ++ frV c.free.1 V cv, hst, by simp; omega, hL', by simpa using ho', ?_⟩, hc', Nat.le_trans c.free_len h.len, ?_, Nat.le_trans h.size hk.size, ?_⟩, Rdk.of hk (hnot _ (by decide) (by decide) (by decide))⟩
  · exact (hi.chg hk (fun k _ s => hnot IntT (by decide) (by decide) (by decide) k s)).snoc (ht'.less h.size) c.u64_rng
  · exact h.box.chg hk (fun s => hnot _ (by decide) (by decide) (by decide) R s _ h.box)
  · refine Chg.step hk (fun i hi => .inl ?_) h.chg
    rcases hi with rfl | rfl | hi
    · exact .inl rfl
    · exact .inr (.inl rfl)
    · exact .inr (.inr (ho.lt i hi).1)
theorem callFunc_FreesI (cap : Array Value) (w : World) : (callFunc 192 cap).run Tryz.prog w = .ok (.enter 192 cap) w := by kernel_rfl
theorem FreesI.start {g L R base : Nat} {cs0 : Array Value} {w0 w1 : World} {c1 : Sp.Cut} (hk : Chg (OneM g) w0 w1) (hL : Blk w0 L PageT (cs0.setIfInBounds 6 (.slice none 0 0))) (hR : Blk w0 R 270 #[.pointer (some ⟨g, 0, none⟩)]) (hLg : L ≠ g) (hRg : R ≠ g)
    (hb : base ≤ w0.heap.size) (hc : CutAt w1 g c1.s c1.bad) (hl : c1.s.length ≤ 4611686018427387904) : FreesI g L R base cs0 w0 c1 0 c1 w1 :=
  ⟨⟨[], .slice none 0 0, [], rfl, Nat.le_refl _, hL.chg hk hLg, World.ownsRow_nil _ _ _ _, rfl⟩, hc, hl, hR.chg hk hRg, Nat.le_trans hb hk.size, hk.mono (fun _ _ e => .inl e)⟩
/-- What is so behind k keys and kids. -/
structure KeysI (g L R base : Nat) (cs0 : Array Value) (w0 : World) (c1 : Sp.Cut) (k : Nat) (c : Sp.Cut) (w : World) : Prop where
  ex : ∃ l v v2, Sp.eachN Sp.keyStep k (([], []), c1) = (l, c) ∧ l.1.length ≤ k ∧ l.2.length ≤ k ∧ Blk w L PageT ((cs0.setIfInBounds 2 v).setIfInBounds 3 v2) ∧ w.ownsRow base StrT 1 v l.1.length (l.1.map tv) ∧ w.ownsRow base IntT 1 v2 l.2.length (l.2.map iv)
  cut : CutAt w g c.s c.bad
  len : c.s.length ≤ 4611686018427387904
  box : Blk w R 270 #[.pointer (some ⟨g, 0, none⟩)]
  size : base ≤ w.heap.size
  chg : Chg (fun k => k = g ∨ k = L ∨ base ≤ k) w0 w
theorem KeysI.below {g L R base : Nat} {cs0 : Array Value} {w0 : World} {c1 : Sp.Cut} {k : Nat} {c : Sp.Cut} {w w' : World} (h : KeysI g L R base cs0 w0 c1 k c w) (hb : Below w.heap.size w w') : KeysI g L R base cs0 w0 c1 k c w' := by
  have hk : Chg NoM w w' := .of_below hb
  refine ⟨?_, h.cut.chg hk id, h.len, h.box.chg hk id, Nat.le_trans h.size hb.size, h.chg.trans (hk.mono (fun _ _ e => e.elim))⟩
  obtain ⟨l, v, v2, he, hl, hl2, hL, ho, ho2⟩ := h.ex
  exact ⟨l, v, v2, he, hl, hl2, hL.chg hk id, own_chg ho hk (fun _ _ => id), own_chg ho2 hk (fun _ _ => id)⟩
theorem KeysI.next {g L R base : Nat} {cs0 : Array Value} {w0 : World} {c1 : Sp.Cut} {k : Nat} {c : Sp.Cut} {w : World} (hcs : 6 < cs0.size) (hgb : g < base) (hLb : L < base) (hk30 : k ≤ 1073741823) (hbad : c.bad = false) (h : KeysI g L R base cs0 w0 c1 k c w) :
    Calls Tryz.prog 189 #[.pointer (some ⟨L, 0, none⟩), .pointer (some ⟨R, 0, none⟩)] w fun e w' => e = .returned (.tuple #[]) ∧ ∃ c', KeysI g L R base cs0 w0 c1 (k + 1) c' w' ∧ Rdk w w' := by
  obtain ⟨l, v, v2, he, hl, hl2, hL, ho, ho2⟩ := h.ex
  refine (pageC2_any g L R base l.1 l.2 ((cs0.setIfInBounds 2 v).setIfInBounds 3 v2) v v2 c w h.len h.cut hL (by simp [Array.getElem?_setIfInBounds]; omega) (by simp [Array.getElem?_setIfInBounds]; omega) h.box ho ho2 hgb hLb h.size (by omega) (by omega)).mono ?_
  rintro e w' ⟨rfl, v', v2', hc', hL', ho', ho2', hk⟩
  have hst : Sp.eachN Sp.keyStep (k + 1) (([], []), c1) = Sp.keyStep l c := by
    rw [Sp.eachN_succ _ _ _ (by rw [he]; exact hbad), he]
  have hnot : ∀ (t : TypeId), 274 ≠ t → PageT ≠ t → StrT ≠ t → IntT ≠ t → ∀ i, (i = g ∨ i = L ∨ v.ownBlock = some i ∨ v2.ownBlock = some i) → ∀ cs, ¬ Blk w i t cs := fun t t1 t2 t3 t4 i hi => by
    rcases hi with rfl | rfl | hi | hi
    · exact Blk.not_ (t := 274) h.cut t1
    · exact Blk.not_ hL t2
    · exact own_not ho t3 i hi
    · exact own_not ho2 t4 i hi
  have hL2 : Blk w' L PageT ((cs0.setIfInBounds 2 v').setIfInBounds 3 v2') := by
    have e : (((cs0.setIfInBounds 2 v).setIfInBounds 3 v2).setIfInBounds 2 v').setIfInBounds 3 v2' = (cs0.setIfInBounds 2 v').setIfInBounds 3 v2' := by
      rw [Array.setIfInBounds_comm v2 v' (by decide), Array.setIfInBounds_setIfInBounds, Array.setIfInBounds_setIfInBounds]
    rw [e] at hL'
    exact hL'
  refine ⟨rfl, c.text.2.num.2, ⟨⟨(l.1 ++ [c.text.1], l.2 ++ [c.text.2.num.1]), v', v2', hst, by simp; omega, by simp; omega, hL2, by simpa using ho', by simpa using ho2'⟩, hc', Nat.le_trans (Nat.le_trans c.text.2.num_len c.text_len) h.len, ?_, Nat.le_trans h.size hk.size, ?_⟩, Rdk.of hk (hnot _ (by decide) (by decide) (by decide) (by decide))⟩
  · exact h.box.chg hk (fun s => hnot _ (by decide) (by decide) (by decide) (by decide) R s _ h.box)
  · refine Chg.step hk (fun i hi => .inl ?_) h.chg
    rcases hi with rfl | rfl | hi | hi
    · exact .inl rfl
    · exact .inr (.inl rfl)
    · exact .inr (.inr (ho.lt i hi).1)
    · exact .inr (.inr (ho2.lt i hi).1)
theorem callFunc_KeysI (cap : Array Value) (w : World) : (callFunc 189 cap).run Tryz.prog w = .ok (.enter 189 cap) w := by kernel_rfl
theorem KeysI.start {g L R base : Nat} {cs0 : Array Value} {w0 w1 : World} {c1 : Sp.Cut} (hk : Chg (OneM g) w0 w1) (hL : Blk w0 L PageT ((cs0.setIfInBounds 2 (.slice none 0 0)).setIfInBounds 3 (.slice none 0 0))) (hR : Blk w0 R 270 #[.pointer (some ⟨g, 0, none⟩)]) (hLg : L ≠ g) (hRg : R ≠ g)
    (hb : base ≤ w0.heap.size) (hc : CutAt w1 g c1.s c1.bad) (hl : c1.s.length ≤ 4611686018427387904) : KeysI g L R base cs0 w0 c1 0 c1 w1 :=
  ⟨⟨([], []), .slice none 0 0, .slice none 0 0, rfl, Nat.le_refl _, Nat.le_refl _, hL.chg hk hLg, World.ownsRow_nil _ _ _ _, World.ownsRow_nil _ _ _ _⟩, hc, hl, hR.chg hk hRg, Nat.le_trans hb hk.size, hk.mono (fun _ _ e => .inl e)⟩
end Go.Proofs.YtmcpkhknjdiocaaGreatDoor
namespace Go.Proofs.YtmcpkhknjdiocaaGreatDoor
open Go.RowKit
attribute [local go_sem low] mk_extract
attribute [local go_sem] After.cell After.frozen mk_extract_end ByteArray.mk_append_mk
abbrev zPage (k : Int) : Array Value := #[.int .i64 k, .slice none 0 0, .slice none 0 0, .slice none 0 0, .string ⟨#[]⟩, .slice none 0 0, .slice none 0 0, .int .i64 0, .int .u64 0, .int .i64 0, .int .i64 0, .int .i64 0, .int .i64 0, .int .i64 0]
theorem Blk.at14 {w : World} {g : Nat} {t : TypeId} {a b c d e f a' b' c' d' e' f' a2 b2 : Value} (h : Blk w g t #[a, b, c, d, e, f, a', b', c', d', e', f', a2, b2]) :
    (w.cell? ⟨g, 0, none⟩ = some a ∧ w.cell? ⟨g, 1, none⟩ = some b ∧ w.cell? ⟨g, 2, none⟩ = some c ∧ w.cell? ⟨g, 3, none⟩ = some d ∧ w.cell? ⟨g, 4, none⟩ = some e ∧ w.cell? ⟨g, 5, none⟩ = some f ∧ w.cell? ⟨g, 6, none⟩ = some a' ∧ w.cell? ⟨g, 7, none⟩ = some b' ∧ w.cell? ⟨g, 8, none⟩ = some c' ∧ w.cell? ⟨g, 9, none⟩ = some d' ∧ w.cell? ⟨g, 10, none⟩ = some e' ∧ w.cell? ⟨g, 11, none⟩ = some f' ∧ w.cell? ⟨g, 12, none⟩ = some a2 ∧ w.cell? ⟨g, 13, none⟩ = some b2) ∧
    (w.frozen? ⟨g, 0, none⟩ = false ∧ w.frozen? ⟨g, 1, none⟩ = false ∧ w.frozen? ⟨g, 2, none⟩ = false ∧ w.frozen? ⟨g, 3, none⟩ = false ∧ w.frozen? ⟨g, 4, none⟩ = false ∧ w.frozen? ⟨g, 5, none⟩ = false ∧ w.frozen? ⟨g, 6, none⟩ = false ∧ w.frozen? ⟨g, 7, none⟩ = false ∧ w.frozen? ⟨g, 8, none⟩ = false ∧ w.frozen? ⟨g, 9, none⟩ = false ∧ w.frozen? ⟨g, 10, none⟩ = false ∧ w.frozen? ⟨g, 11, none⟩ = false ∧ w.frozen? ⟨g, 12, none⟩ = false ∧ w.frozen? ⟨g, 13, none⟩ = false) := by
  refine ⟨⟨?_, ?_, ?_, ?_, ?_, ?_, ?_, ?_, ?_, ?_, ?_, ?_, ?_, ?_⟩, h.frozen 0, h.frozen 1, h.frozen 2, h.frozen 3, h.frozen 4, h.frozen 5, h.frozen 6, h.frozen 7, h.frozen 8, h.frozen 9, h.frozen 10, h.frozen 11, h.frozen 12, h.frozen 13⟩
  · simpa using h.cell 0
  · simpa using h.cell 1
  · simpa using h.cell 2
  · simpa using h.cell 3
  · simpa using h.cell 4
  · simpa using h.cell 5
  · simpa using h.cell 6
  · simpa using h.cell 7
  · simpa using h.cell 8
  · simpa using h.cell 9
  · simpa using h.cell 10
  · simpa using h.cell 11
  · simpa using h.cell 12
  · simpa using h.cell 13
/-- The contract of reading a page. -/
def PageOut (g : Nat) (c : Sp.Cut) (w : World) (e : Ending) (w' : World) : Prop :=
  ∃ r, e = .returned (.agg (pageV c.page.1 r).toArray) ∧ (∀ M : Nat → Prop, (∀ k, w.heap.size ≤ k → ¬ M k) → PageRd w' M c.page.1 r) ∧ CutAt w' g c.page.2.s c.page.2.bad ∧ Chg (OneM g) w w'
theorem Items.of_cells2 {S : Nat → Prop} {w w' : World} {M : Nat → Prop} {base : Nat} {A : Option Addr} {l : List Sp.Item} {xs : List Value} (hT : TRow w base ItemT A xs) (hI : ItCells w base l xs) (hM : ∀ k, base ≤ k → ¬ M k) (hl : l.length ≤ 1073741824) (hS : ∀ k, base ≤ k → ¬ S k) (hk : Chg S w w') : Items w' M A l :=
  Items.of_cells (hT.chg hk (fun k hb hs => absurd hs (hS k hb))) (hI.chg hk (fun k hb hs => absurd hs (hS k hb))) hM hl
theorem Frees.of_cells2 {S : Nat → Prop} {w w' : World} {M : Nat → Prop} {base : Nat} {A : Option Addr} {l : List Sp.Free} {xs : List Value} (hT : TRow w base FreeT A xs) (hI : FrCells w base l xs) (hM : ∀ k, base ≤ k → ¬ M k) (hl : l.length ≤ 1073741824) (hS : ∀ k, base ≤ k → ¬ S k) (hk : Chg S w w') : Frees w' M A l :=
  Frees.of_cells (hT.chg hk (fun k hb hs => absurd hs (hS k hb))) (hI.chg hk (fun k hb hs => absurd hs (hS k hb))) hM hl
theorem TRow.row2 {S : Nat → Prop} {w w' : World} {M : Nat → Prop} {base : Nat} {e : TypeId} {A : Option Addr} {xs : List Value} (hT : TRow w base e A xs) (hM : ∀ k, base ≤ k → ¬ M k) (hS : ∀ k, base ≤ k → ¬ S k) (hk : Chg S w w') : Row w' M A xs :=
  (hT.chg hk (fun k hb hs => absurd hs (hS k hb))).row hM
end Go.Proofs.YtmcpkhknjdiocaaGreatDoor
namespace Go.Proofs.YtmcpkhknjdiocaaGreatDoor
open Go.RowKit
attribute [local go_sem low] mk_extract
attribute [local go_sem] After.cell After.frozen mk_extract_end ByteArray.mk_append_mk
set_option maxRecDepth 100000 in
set_option maxHeartbeats 1600000 in
theorem rdPage1 (g : Nat) (c : Sp.Cut) (w : World) (hs : c.s.length ≤ 4611686018427387904) (hc : CutAt w g c.s c.bad) (hkd : c.num.1 = 1) :
    Calls Tryz.prog 177 #[.agg #[.pointer (some ⟨g, 0, none⟩)]] w fun e w' => PageOut g c w e w' := by
  have Hc := Lib.hid hc
  have hg := hc.lt
  have hn0 : ¬ w.heap.size = g := by omega
  have hn1 : ¬ w.heap.size + 1 = g := by omega
  have l1 := Nat.le_trans c.num_len hs
  have HI := Lib.hid (show c.page = (⟨c.num.1, c.num.2.items.1, [], [], [], [], [], 0, Sp.mt0⟩, c.num.2.items.2) by unfold Sp.Cut.page; rw [if_pos hkd])
  have hmf : ∀ (fn : Fn) (first cap : Array Value) (w : World), (Instr.makeFunc fn first cap).run Tryz.prog w = .ok (.func fn first cap) w := fun _ _ _ _ => rfl
  clear hc
  have B0 := Lib.hid ((Blk.new w 270 #[.pointer (some ⟨g, 0, none⟩)]).alloc (.cells #[.int .i64 0, .slice none 0 0, .slice none 0 0, .slice none 0 0, .string ⟨#[]⟩, .slice none 0 0, .slice none 0 0, .int .i64 0, .int .u64 0, .int .i64 0, .int .i64 0, .int .i64 0, .int .i64 0, .int .i64 0] PageT))
  have L0 := Lib.hid (blk_second w (.cells #[.pointer (some ⟨g, 0, none⟩)] 270) PageT #[.int .i64 0, .slice none 0 0, .slice none 0 0, .slice none 0 0, .string ⟨#[]⟩, .slice none 0 0, .slice none 0 0, .int .i64 0, .int .u64 0, .int .i64 0, .int .i64 0, .int .i64 0, .int .i64 0, .int .i64 0])
  have b0 := B0.out.at1
  have e1 : (c.num.1 == 1) = true := by rw [beq_iff_eq]; omega
  have HKD := Lib.hid hkd
  clear hkd
  have l2 := Nat.le_trans c.num.2.num_len l1
  obtain ⟨hr0, hr1⟩ := Sp.Cut.num_rng c.num.2
  go_enter Tryz.func177, Tryz.ntmps177
  go_wp2_with fail
  refine (rdNum_any g c.s c.bad _ hs ((Hc.out.alloc _).alloc _)).mono ?_
  rintro e w1 ⟨rfl, hc1, hk1⟩
  have B1 := Lib.hid ((B0.out.chg hk1 hn0).alloc (.cells #[.int .i64 c.num.1, .slice none 0 0, .slice none 0 0, .slice none 0 0, .string ⟨#[]⟩, .slice none 0 0, .slice none 0 0, .int .i64 0, .int .u64 0, .int .i64 0, .int .i64 0, .int .i64 0, .int .i64 0, .int .i64 0] PageT))
  have L1 := Lib.hid ((L0.out.chg hk1 hn1).alloc (.cells #[.int .i64 c.num.1, .slice none 0 0, .slice none 0 0, .slice none 0 0, .string ⟨#[]⟩, .slice none 0 0, .slice none 0 0, .int .i64 0, .int .u64 0, .int .i64 0, .int .i64 0, .int .i64 0, .int .i64 0, .int .i64 0] PageT))
  have b1 := (B0.out.chg hk1 hn0).at1
  have X1 := Lib.hid (Blk.new w1 PageT #[.int .i64 c.num.1, .slice none 0 0, .slice none 0 0, .slice none 0 0, .string ⟨#[]⟩, .slice none 0 0, .slice none 0 0, .int .i64 0, .int .u64 0, .int .i64 0, .int .i64 0, .int .i64 0, .int .i64 0, .int .i64 0])
  have Hc1 := Lib.hid (hc1.alloc (.cells #[.int .i64 c.num.1, .slice none 0 0, .slice none 0 0, .slice none 0 0, .string ⟨#[]⟩, .slice none 0 0, .slice none 0 0, .int .i64 0, .int .u64 0, .int .i64 0, .int .i64 0, .int .i64 0, .int .i64 0, .int .i64 0] PageT))
  have hz1 := hk1.size
  simp only [World.size_alloc] at hz1
  have hw1 : w.heap.size < w1.heap.size := by omega
  have hX : ¬ w1.heap.size = g := by omega
  have K1 := Lib.hid ((Chg.trans (((Chg.refl (OneM g) w).alloc _).alloc _) hk1).alloc (.cells #[.int .i64 c.num.1, .slice none 0 0, .slice none 0 0, .slice none 0 0, .string ⟨#[]⟩, .slice none 0 0, .slice none 0 0, .int .i64 0, .int .u64 0, .int .i64 0, .int .i64 0, .int .i64 0, .int .i64 0, .int .i64 0] PageT))
  clear hc1 hk1
  have Hc1' := Hc1
  go_wp2_with fail
  go_region_held3 (fun w' => w'.cell? ⟨w.heap.size, 0, none⟩ = some (.pointer (some ⟨g, 0, none⟩))) (first | exact hbox2 | exact hbox1 | (simp [go_sem, hw1, b1]; done)) (first
    | (go_at_call 185; refine (rdNum_any g c.num.2.s c.num.2.bad _ l1 ?_).mono ?_; exact Hc1.out; rintro e w3 ⟨rfl, hc3, hk3⟩; have hI0 := Lib.hid (ItemsI.start (base := w1.heap.size + 1) (cs0 := zPage c.num.1) (c1 := c.num.2.num.2) (Chg.of_drew hk3) X1.out B1.out hX hn0 (by simp) hc3 l2); have hbox1 : w3.cell? ⟨w.heap.size, 0, none⟩ = some (.pointer (some ⟨g, 0, none⟩)) := hI0.out.box.at1)
    | (go_at_call 186; refine (each_any _ hr0 hr1 g 187 _ (callFunc_ItemsI _) (ItemsI g w1.heap.size w.heap.size (w1.heap.size + 1) (zPage c.num.1) (w1.alloc (.cells #[.int .i64 c.num.1, .slice none 0 0, .slice none 0 0, .slice none 0 0, .string ⟨#[]⟩, .slice none 0 0, .slice none 0 0, .int .i64 0, .int .u64 0, .int .i64 0, .int .i64 0, .int .i64 0, .int .i64 0, .int .i64 0] PageT)) c.num.2.num.2) (fun k c w h => h.cut) (fun k c w w' h hb => h.below hb) (fun k d w2 hk hb h => h.next (by simp) (by omega) (by omega) (by omega) hb) c.num.2.num.2 _ hI0.out).mono ?_; rintro e w2 ⟨rfl, k, d, hI, hkn, hend⟩; have hbox2 : w2.cell? ⟨w.heap.size, 0, none⟩ = some (.pointer (some ⟨g, 0, none⟩)) := hI.box.at1))
  all_goals
    obtain ⟨l, v, xs, he, hl, hL, ho, hi⟩ := hI.ex
    obtain ⟨A, cp, rfl⟩ := own_form ho
    have hnums : c.num.2.items = (l, d) := by
      unfold Sp.Cut.items
      rw [Sp.eachN_end (k := k) (by omega) (by
        rcases hend with h | h
        · exact .inl (by omega)
        · exact .inr (by rw [he]; exact h)), he]
    have hll : l.length ≤ 1073741824 := by omega
    have HE := Lib.hid (show c.page = (⟨c.num.1, l, [], [], [], [], [], 0, Sp.mt0⟩, d) by rw [HI.out, hnums])
    have HT := Lib.hid (TRow.of_own ho (by rw [hi.len]; omega))
    have HX := Lib.hid hi
    have HC := Lib.hid hI.cut
    have HK2 := Lib.hid (Chg.step (S := OneM g) hI.chg (fun i hi => by
      rcases hi with h | h | h
      · exact .inl h
      · exact .inr (by omega)
      · exact .inr (by omega)) K1.out)
    have L2 := L1.out.chg hI.chg (by omega)
    obtain ⟨⟨za, zb, zc, zd, ze, zf, zg, zh, zi, zj, zk, zl, zm, zn⟩, qa, qb, qc, qd, qe, qf, qg, qh, qi, qj, qk, ql, qm, qn⟩ := L2.at14
    have hL' : Blk w2 w1.heap.size PageT #[.int .i64 c.num.1, .slice A l.length cp, .slice none 0 0, .slice none 0 0, .string ⟨#[]⟩, .slice none 0 0, .slice none 0 0, .int .i64 0, .int .u64 0, .int .i64 0, .int .i64 0, .int .i64 0, .int .i64 0, .int .i64 0] := hL
    obtain ⟨⟨xa, xb, xc, xd, xe, xf, xg, xh, xi, xj, xk, xl, xm, xn⟩, ya, yb, yc, yd, ye, yf, yg, yh, yi, yj, yk, yl, ym, yn⟩ := hL'.at14
    clear hI he hend ho hL hL' hnums L2 hi
    go_wp2
    refine bodyPost_ret (v := .agg (pageV ⟨c.num.1, l, [], [], [], [], [], 0, Sp.mt0⟩ ⟨A, none, none, none, none, cp, 0, 0, 0, 0⟩).toArray) (by simp [results, Tryz.results177, go_sem, za, zb, zc, zd, ze, zf, zg, zh, zi, zj, zk, zl, zm, zn, qa, qb, qc, qd, qe, qf, qg, qh, qi, qj, qk, ql, qm, qn, pageV, mtV, Sp.mt0, Sp.root0]) rfl ⟨⟨A, none, none, none, none, cp, 0, 0, 0, 0⟩, by rw [HE.out], ?_, ?_, ?_⟩
    · intro M hM
      rw [HE.out]
      refine ⟨Items.of_cells2 (S := OneM (w.heap.size + 1)) HT.out HX.out (fun k hk => hM k (by omega)) hll (fun k hb hs => by unfold OneM at hs; omega) ?_, Row.nil_, Row.nil_, Row.nil_, Frees.nil_, by simp [Sp.mt0]⟩
      iterate 14 (refine Chg.setCell ?_ (.inl (by simp only [OneM])) _)
      exact Chg.refl _ _
    · rw [HE.out]
      unfold CutAt
      iterate 14 (refine Blk.far ?_ (fun e => hn1 e.symm) _)
      exact HC.out
    · iterate 14 (refine Chg.setCell ?_ (.inr (by simp only; omega)) _)
      exact HK2.out
end Go.Proofs.YtmcpkhknjdiocaaGreatDoor
