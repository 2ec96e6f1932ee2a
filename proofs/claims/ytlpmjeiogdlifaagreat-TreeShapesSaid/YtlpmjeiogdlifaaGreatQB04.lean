/- Reading: the free pages of a page, one by one. Reading: items, keys and kids, free pages of a page: what is so behind k of them; the plain reader of a page. Reading: a page; what all its kinds share. Reading: a page, kind 1. Reading: a page, kind 2. -/
import Derived.Test.YtlpmjeiogdlifaaGreatQB03
import Derived.Deep.RegionHeld3
set_option linter.unusedSimpArgs false
set_option linter.unusedVariables false
namespace Go.Proofs.YtlpmjeiogdlifaaGreat
open Go.RowKit
attribute [local go_sem low] mk_extract
attribute [local go_sem] After.cell After.frozen mk_extract_end ByteArray.mk_append_mk
theorem info_free : (Tryz.prog.info? 119).map (fun i => (i.zero, i.size, i.bytes)) = some (some (.agg #[.int .u64 0, .slice none 0 0]), 2, 32) := by kernel_rfl
abbrev FreeT : TypeId := 119
def frV (x : Sp.Free) (V : Option Addr) (c : Nat) : List Value := [.int .u64 x.txn, .slice V x.ids.length c]
def FrCells (w : World) (b0 : Nat) : List Sp.Free → List Value → Prop
  | [], xs => xs = []
  | x :: l, xs => ∃ V c ys, xs = frV x V c ++ ys ∧ TRow w b0 IntT V (x.ids.map iv) ∧ (0 ≤ x.txn ∧ x.txn < 18446744073709551616) ∧ FrCells w b0 l ys
theorem FrCells.chg {S : Nat → Prop} {w w' : World} {b0 : Nat} (hk : Chg S w w') (hS : ∀ k, b0 ≤ k → S k → ∀ cs, ¬ Blk w k IntT cs) : ∀ {l : List Sp.Free} {xs : List Value}, FrCells w b0 l xs → FrCells w' b0 l xs
  | [], _, h => h
  | _ :: _, _, ⟨V, c, ys, e, ht, hr, h⟩ => ⟨V, c, ys, e, ht.chg hk hS, hr, h.chg hk hS⟩
theorem FrCells.snoc {w : World} {b0 : Nat} {x : Sp.Free} {V : Option Addr} {c : Nat} (ht : TRow w b0 IntT V (x.ids.map iv)) (hr : 0 ≤ x.txn ∧ x.txn < 18446744073709551616) : ∀ {l : List Sp.Free} {xs : List Value}, FrCells w b0 l xs → FrCells w b0 (l ++ [x]) (xs ++ frV x V c)
  | [], xs, h => ⟨V, c, [], by rw [show xs = [] from h]; simp, ht, hr, rfl⟩
  | _ :: _, _, ⟨V', c', ys, e, ht', hr', h⟩ => ⟨V', c', ys ++ frV x V c, by rw [e]; simp, ht', hr', h.snoc ht hr⟩
theorem FrCells.len {w : World} {b0 : Nat} : ∀ {l : List Sp.Free} {xs : List Value}, FrCells w b0 l xs → xs.length = l.length * 2
  | [], _, h => by rw [show _ = [] from h]; rfl
  | _ :: l, _, ⟨V, c, ys, e, _, _, h⟩ => by
    rw [e, List.length_append, h.len]
    simp [frV]
    omega
theorem FrCells.at_ {w : World} {b0 : Nat} : ∀ {l : List Sp.Free} {xs : List Value}, FrCells w b0 l xs → ∀ k, k < l.length → ∃ V c, TRow w b0 IntT V ((l.getD k Sp.free0).ids.map iv) ∧ (0 ≤ (l.getD k Sp.free0).txn ∧ (l.getD k Sp.free0).txn < 18446744073709551616) ∧ ∀ j u, (frV (l.getD k Sp.free0) V c)[j]? = some u → xs[k * 2 + j]? = some u
  | [], _, _, k, hk => absurd hk (by simp)
  | x :: l, _, ⟨V, c, ys, e, ht, hr, h⟩, 0, _ => ⟨V, c, ht, hr, fun j u hu => by
      rw [e, Nat.zero_mul, Nat.zero_add, List.getElem?_append_left]
      · exact hu
      · exact (List.getElem?_eq_some_iff.1 hu).1⟩
  | x :: l, _, ⟨V, c, ys, e, ht, hr, h⟩, k + 1, hk => by
    obtain ⟨V', c', ht', hr', hc⟩ := h.at_ k (by simpa using hk)
    refine ⟨V', c', by simpa using ht', by simpa using hr', fun j u hu => ?_⟩
    have := hc j u (by simpa using hu)
    rw [e, List.getElem?_append_right (by simp [frV]; omega)]
    have e2 : (k + 1) * 2 + j - (frV x V c).length = k * 2 + j := by simp [frV]; omega
    rw [e2]
    exact this
set_option maxRecDepth 100000 in
set_option maxHeartbeats 1600000 in
theorem pageC3_any (g L R base : Nat) (n : Nat) (cs : Array Value) (v : Value) (xs : List Value) (c : Sp.Cut) (w : World) (hs : c.s.length ≤ 4611686018427387904) (hc : CutAt w g c.s c.bad) (hL : Blk w L PageT cs) (hv : cs[6]? = some v)
    (hR : Blk w R 184 #[.pointer (some ⟨g, 0, none⟩)]) (own : w.ownsRow base FreeT 2 v n xs) (hgb : g < base) (hLb : L < base) (hbw : base ≤ w.heap.size) (hn : n ≤ 1073741824) :
    Calls Tryz.prog 179 #[.pointer (some ⟨L, 0, none⟩), .pointer (some ⟨R, 0, none⟩)] w fun e w' => e = .returned (.tuple #[]) ∧
      ∃ v' V cv, CutAt w' g c.free.2.s c.free.2.bad ∧ Blk w' L PageT (cs.setIfInBounds 6 v') ∧ TRow w' w.heap.size IntT V (c.free.1.ids.map iv) ∧
        w'.ownsRow base FreeT 2 v' (n + 1) (xs ++ frV c.free.1 V cv) ∧ Chg (fun k => k = g ∨ k = L ∨ v.ownBlock = some k) w w' := by
  obtain ⟨i0, hi0, hz0, hz1, hz2⟩ := info_parts info_free
  have Hc := Lib.hid hc
  have Own := Lib.hid own
  have HL := Lib.hid hL
  have HV := Lib.hid hv
  have hLg : L ≠ g := fun e => Blk.not_ (t := PageT) hL (by decide) _ (e ▸ hc)
  have hL1 := (hL.cell 6).trans hv
  have hR0 := hR.at1
  have hLw := hL.lt
  have hgw := Hc.out.lt
  clear hc own hL hR hv
  go_enter Tryz.func179, Tryz.ntmps179
  go_wp2
  go_region_law (first
    | (go_simp; go_at_call 180; refine (rdFree_any g c _ hs ?_).mono ?_; exact Hc.out.drew; rintro e w1 ⟨V, cv, rfl, ht1, hc1, hk1⟩; have hk2 : Chg (OneM g) w w1 := Chg.trans ((Chg.refl _ _).drew) hk1; have HT1 : Hid (TRow w1 w.heap.size IntT V (c.free.1.ids.map iv)) := Lib.hid ht1; clear ht1; have HL1 := Lib.hid (HL.out.chg hk2 hLg); have qL1 := (HL1.out.cell 6).trans HV.out; have fqL1 := HL1.out.frozen 6; have hzw := hk2.size; have hLw1 := Nat.lt_of_lt_of_le hLw hzw)
    | (refine step_append_lies _ rfl (.tmp 3) (.tmp 6) _ rfl base FreeT i0 _ 2 32 Tryz.underlying54 hi0 hz0 hz1 hz2 rfl (by omega) v n xs rfl ?_ _ 1 1 (frV c.free.1 V cv) rfl rfl ?_ ?_ (by omega) ?_ ?_ ?_ _ rfl ?_; (exact own_chg Own.out (hk2.alloc _) (fun k hk e => by unfold OneM at e; omega)); (exact news_of _ _ _); (exact fun u hu => by simp only [frV, List.mem_cons, List.not_mem_nil, or_false] at hu; rcases hu with rfl | rfl <;> rfl); (simp only [maxLen]; omega); (omega); (first | omega | (simp; done) | (simp; omega)); (intro g2 cap2 w4 hown4 hgr4 hat4 hlt4; have h4 := after_append Own.out hgr4 hLb HL1.out; have HL4 := Lib.hid h4.1; have hk4 := h4.2; clear h4; have qL4 := (HL4.out.cell 6).trans HV.out; have fqL4 := HL4.out.frozen 6)))
  all_goals
    go_wp2
    go_end0
    refine ⟨rfl, .slice (some ⟨g2, 0, none⟩) (n + 1) cap2, V, cv, ?_, ?_, ?_, ?_, ?_⟩
    · exact ((hc1.alloc _).chg hk4 (fun h => by have := (Own.out.lt _ h).1; omega)).far (p := ⟨L, 6, none⟩) (fun e => hLg e.symm) _
    · exact HL4.out.set_ 6 (.slice (some ⟨g2, 0, none⟩) (n + 1) cap2)
    · have hA := (Chg.refl NoM w1).alloc (.cells (frV c.free.1 V cv).toArray FreeT)
      refine ((HT1.out.chg hA (fun _ _ h => h.elim)).chg hk4 (fun k hb hk => ?_)).chg (Chg.set1 w4 L 6 _) (fun k hb hi => by unfold OneM at hi; omega)
      exact own_not (own_chg Own.out (hk2.alloc _) (fun k hk e => by unfold OneM at e; omega)) (by decide) k hk
    · exact own_chg hown4 (Chg.set1 _ L 6 _) (fun k hk e => by unfold OneM at e; omega)
    · exact (Chg.step hk4 (fun i hi => .inl (.inr (.inr hi))) ((hk2.mono (T := fun k => k = g ∨ k = L ∨ v.ownBlock = some k) (fun k _ e => .inl e)).alloc _)).setCell (p := ⟨L, 6, none⟩) (.inl (.inr (.inl rfl))) _
end Go.Proofs.YtlpmjeiogdlifaaGreat
namespace Go.Proofs.YtlpmjeiogdlifaaGreat
open Go.RowKit
attribute [local go_sem low] mk_extract
attribute [local go_sem] After.cell After.frozen mk_extract_end ByteArray.mk_append_mk
namespace Sp
def itemStep (l : List Item) (c : Cut) : List Item × Cut := (l ++ [c.item.1], c.item.2)
def keyStep (l : List Txt × List Int) (c : Cut) : (List Txt × List Int) × Cut := ((l.1 ++ [c.text.1], l.2 ++ [c.text.2.num.1]), c.text.2.num.2)
def freeStep (l : List Free) (c : Cut) : List Free × Cut := (l ++ [c.free.1], c.free.2)
def Cut.items (c : Cut) : List Item × Cut := eachN itemStep c.num.1.toNat ([], c.num.2)
def Cut.keys (c : Cut) : (List Txt × List Int) × Cut := eachN keyStep c.num.1.toNat (([], []), c.num.2)
def Cut.frees (c : Cut) : List Free × Cut := eachN freeStep c.num.1.toNat ([], c.num.2)
def Cut.mt (c : Cut) : Mt × Cut := (⟨c.u64.1, c.u64.2.root.1, c.u64.2.root.2.num.1, c.u64.2.root.2.num.2.num.1⟩, c.u64.2.root.2.num.2.num.2)
def Cut.page (c : Cut) : Page × Cut :=
  if c.num.1 = 1 then (⟨c.num.1, c.num.2.items.1, [], [], [], [], [], 0, mt0⟩, c.num.2.items.2)
  else if c.num.1 = 2 then (⟨c.num.1, [], c.num.2.keys.1.1, c.num.2.keys.1.2, [], [], [], 0, mt0⟩, c.num.2.keys.2)
  else if c.num.1 = 3 then (⟨c.num.1, [], [], [], c.num.2.text.1, [], [], 0, mt0⟩, c.num.2.text.2)
  else if c.num.1 = 4 then (⟨c.num.1, [], [], [], [], c.num.2.vals.1, [], 0, mt0⟩, c.num.2.vals.2)
  else if c.num.1 = 5 then (⟨c.num.1, [], [], [], [], [], c.num.2.frees.1, c.num.2.frees.2.num.1, mt0⟩, c.num.2.frees.2.num.2)
  else if c.num.1 = 6 then (⟨c.num.1, [], [], [], [], [], [], 0, c.num.2.mt.1⟩, c.num.2.mt.2)
  else (⟨c.num.1, [], [], [], [], [], [], 0, mt0⟩, c.num.2)
end Sp
theorem Items.of_cells {w : World} {M : Nat → Prop} {base : Nat} {A : Option Addr} {l : List Sp.Item} {xs : List Value} (hT : TRow w base ItemT A xs) (hI : ItCells w base l xs) (hM : ∀ k, base ≤ k → ¬ M k) (hl : l.length ≤ 1073741824) : Items w M A l := by
  refine ⟨by omega, ?_⟩
  rcases (hT.row hM).2 with h | ⟨b, off, ha, hb, hm, hc⟩
  · have := hI.len
    rw [h] at this
    exact .inl (List.eq_nil_of_length_eq_zero (by simp at this; omega))
  · refine .inr ⟨b, off, ha, hb, hm, fun k hk => ?_⟩
    obtain ⟨V, c, ht, hx⟩ := hI.at_ k hk
    have hcell : ∀ j u, (itemV (l.getD k Sp.item0) V c)[j]? = some u → w.cell? ⟨b, off + k * 10 + j, none⟩ = some u := fun j u hu => by
      rw [Nat.add_assoc]
      exact hc _ u (hx j u hu)
    exact ⟨V, c, ⟨hcell 0 _ rfl, hcell 1 _ rfl, hcell 2 _ rfl, hcell 3 _ rfl, hcell 4 _ rfl, hcell 5 _ rfl, hcell 6 _ rfl, hcell 7 _ rfl, hcell 8 _ rfl, hcell 9 _ rfl⟩, ht.row hM⟩
theorem Frees.of_cells {w : World} {M : Nat → Prop} {base : Nat} {A : Option Addr} {l : List Sp.Free} {xs : List Value} (hT : TRow w base FreeT A xs) (hI : FrCells w base l xs) (hM : ∀ k, base ≤ k → ¬ M k) (hl : l.length ≤ 1073741824) : Frees w M A l := by
  refine ⟨by omega, ?_⟩
  rcases (hT.row hM).2 with h | ⟨b, off, ha, hb, hm, hc⟩
  · have := hI.len
    rw [h] at this
    exact .inl (List.eq_nil_of_length_eq_zero (by simp at this; omega))
  · refine .inr ⟨b, off, ha, hb, hm, fun k hk => ?_⟩
    obtain ⟨V, c, ht, hr, hx⟩ := hI.at_ k hk
    have hcell : ∀ j u, (frV (l.getD k Sp.free0) V c)[j]? = some u → w.cell? ⟨b, off + k * 2 + j, none⟩ = some u := fun j u hu => by
      rw [Nat.add_assoc]
      exact hc _ u (hx j u hu)
    exact ⟨V, c, ⟨hcell 0 _ rfl, hcell 1 _ rfl⟩, ht.row hM, hr⟩
structure ItemsI (g L R base : Nat) (cs0 : Array Value) (w0 : World) (c1 : Sp.Cut) (k : Nat) (c : Sp.Cut) (w : World) : Prop where
  ex : ∃ l v xs, Sp.eachN Sp.itemStep k ([], c1) = (l, c) ∧ l.length ≤ k ∧ Blk w L PageT (cs0.setIfInBounds 1 v) ∧ w.ownsRow base ItemT 10 v l.length xs ∧ ItCells w base l xs
  cut : CutAt w g c.s c.bad
  len : c.s.length ≤ 4611686018427387904
  box : Blk w R 184 #[.pointer (some ⟨g, 0, none⟩)]
  size : base ≤ w.heap.size
  chg : Chg (fun k => k = g ∨ k = L ∨ base ≤ k) w0 w
theorem ItemsI.below {g L R base : Nat} {cs0 : Array Value} {w0 : World} {c1 : Sp.Cut} {k : Nat} {c : Sp.Cut} {w w' : World} (h : ItemsI g L R base cs0 w0 c1 k c w) (hb : Below w.heap.size w w') : ItemsI g L R base cs0 w0 c1 k c w' := by
  have hk : Chg NoM w w' := .of_below hb
  refine ⟨?_, h.cut.chg hk id, h.len, h.box.chg hk id, Nat.le_trans h.size hb.size, h.chg.trans (hk.mono (fun _ _ e => e.elim))⟩
  obtain ⟨l, v, xs, he, hl, hL, ho, hi⟩ := h.ex
  exact ⟨l, v, xs, he, hl, hL.chg hk id, own_chg ho hk (fun _ _ => id), hi.chg hk (fun _ _ h => h.elim)⟩
theorem ItemsI.next {g L R base : Nat} {cs0 : Array Value} {w0 : World} {c1 : Sp.Cut} {k : Nat} {c : Sp.Cut} {w : World} (hcs : 6 < cs0.size) (hgb : g < base) (hLb : L < base) (hk30 : k ≤ 1073741823) (hbad : c.bad = false) (h : ItemsI g L R base cs0 w0 c1 k c w) :
    Calls Tryz.prog 174 #[.pointer (some ⟨L, 0, none⟩), .pointer (some ⟨R, 0, none⟩)] w fun e w' => e = .returned (.tuple #[]) ∧ ∃ c', ItemsI g L R base cs0 w0 c1 (k + 1) c' w' ∧ Rdk w w' := by
  obtain ⟨l, v, xs, he, hl, hL, ho, hi⟩ := h.ex
  refine (pageC1_any g L R base l.length (cs0.setIfInBounds 1 v) v xs c w h.len h.cut hL (by rw [Array.getElem?_setIfInBounds_self, if_pos (by omega)]) h.box ho hgb hLb h.size (by omega)).mono ?_
  rintro e w' ⟨rfl, v', V, cv, hc', hL', ht', ho', hk⟩
  have hst : Sp.eachN Sp.itemStep (k + 1) ([], c1) = Sp.itemStep l c := by
    rw [Sp.eachN_succ _ _ _ (by rw [he]; exact hbad), he]
  have hnot : ∀ (t : TypeId), 238 ≠ t → PageT ≠ t → ItemT ≠ t → ∀ i, (i = g ∨ i = L ∨ v.ownBlock = some i) → ∀ cs, ¬ Blk w i t cs := fun t t1 t2 t3 i hi => by
    rcases hi with rfl | rfl | hi
    · exact Blk.not_ (t := 238) h.cut t1
    · exact Blk.not_ hL t2
    · exact own_not ho t3 i hi
  rw [Array.setIfInBounds_setIfInBounds] at hL'
  refine ⟨rfl, c.item.2, ⟨⟨l ++ [c.item.1], v', xs ++ itemV c.item.1 V cv, hst, by simp; omega, hL', by simpa using ho', ?_⟩, hc', Nat.le_trans c.item_len h.len, ?_, Nat.le_trans h.size hk.size, ?_⟩, Rdk.of hk (hnot _ (by decide) (by decide) (by decide))⟩
  · exact (hi.chg hk (fun k _ s => hnot StrT (by decide) (by decide) (by decide) k s)).snoc (ht'.less h.size)
  · exact h.box.chg hk (fun s => hnot _ (by decide) (by decide) (by decide) R s _ h.box)
  · refine Chg.step hk (fun i hi => .inl ?_) h.chg
    rcases hi with rfl | rfl | hi
    · exact .inl rfl
    · exact .inr (.inl rfl)
    · exact .inr (.inr (ho.lt i hi).1)
theorem callFunc_ItemsI (cap : Array Value) (w : World) : (callFunc 174 cap).run Tryz.prog w = .ok (.enter 174 cap) w := by kernel_rfl
theorem ItemsI.start {g L R base : Nat} {cs0 : Array Value} {w0 w1 : World} {c1 : Sp.Cut} (hk : Chg (OneM g) w0 w1) (hL : Blk w0 L PageT (cs0.setIfInBounds 1 (.slice none 0 0))) (hR : Blk w0 R 184 #[.pointer (some ⟨g, 0, none⟩)]) (hLg : L ≠ g) (hRg : R ≠ g)
    (hb : base ≤ w0.heap.size) (hc : CutAt w1 g c1.s c1.bad) (hl : c1.s.length ≤ 4611686018427387904) : ItemsI g L R base cs0 w0 c1 0 c1 w1 :=
  ⟨⟨[], .slice none 0 0, [], rfl, Nat.le_refl _, hL.chg hk hLg, World.ownsRow_nil _ _ _ _, rfl⟩, hc, hl, hR.chg hk hRg, Nat.le_trans hb hk.size, hk.mono (fun _ _ e => .inl e)⟩
structure FreesI (g L R base : Nat) (cs0 : Array Value) (w0 : World) (c1 : Sp.Cut) (k : Nat) (c : Sp.Cut) (w : World) : Prop where
  ex : ∃ l v xs, Sp.eachN Sp.freeStep k ([], c1) = (l, c) ∧ l.length ≤ k ∧ Blk w L PageT (cs0.setIfInBounds 6 v) ∧ w.ownsRow base FreeT 2 v l.length xs ∧ FrCells w base l xs
  cut : CutAt w g c.s c.bad
  len : c.s.length ≤ 4611686018427387904
  box : Blk w R 184 #[.pointer (some ⟨g, 0, none⟩)]
  size : base ≤ w.heap.size
  chg : Chg (fun k => k = g ∨ k = L ∨ base ≤ k) w0 w
theorem FreesI.below {g L R base : Nat} {cs0 : Array Value} {w0 : World} {c1 : Sp.Cut} {k : Nat} {c : Sp.Cut} {w w' : World} (h : FreesI g L R base cs0 w0 c1 k c w) (hb : Below w.heap.size w w') : FreesI g L R base cs0 w0 c1 k c w' := by
  have hk : Chg NoM w w' := .of_below hb
  refine ⟨?_, h.cut.chg hk id, h.len, h.box.chg hk id, Nat.le_trans h.size hb.size, h.chg.trans (hk.mono (fun _ _ e => e.elim))⟩
  obtain ⟨l, v, xs, he, hl, hL, ho, hi⟩ := h.ex
  exact ⟨l, v, xs, he, hl, hL.chg hk id, own_chg ho hk (fun _ _ => id), hi.chg hk (fun _ _ h => h.elim)⟩
theorem FreesI.next {g L R base : Nat} {cs0 : Array Value} {w0 : World} {c1 : Sp.Cut} {k : Nat} {c : Sp.Cut} {w : World} (hcs : 6 < cs0.size) (hgb : g < base) (hLb : L < base) (hk30 : k ≤ 1073741823) (hbad : c.bad = false) (h : FreesI g L R base cs0 w0 c1 k c w) :
    Calls Tryz.prog 179 #[.pointer (some ⟨L, 0, none⟩), .pointer (some ⟨R, 0, none⟩)] w fun e w' => e = .returned (.tuple #[]) ∧ ∃ c', FreesI g L R base cs0 w0 c1 (k + 1) c' w' ∧ Rdk w w' := by
  obtain ⟨l, v, xs, he, hl, hL, ho, hi⟩ := h.ex
  refine (pageC3_any g L R base l.length (cs0.setIfInBounds 6 v) v xs c w h.len h.cut hL (by rw [Array.getElem?_setIfInBounds_self, if_pos (by omega)]) h.box ho hgb hLb h.size (by omega)).mono ?_
  rintro e w' ⟨rfl, v', V, cv, hc', hL', ht', ho', hk⟩
  have hst : Sp.eachN Sp.freeStep (k + 1) ([], c1) = Sp.freeStep l c := by
    rw [Sp.eachN_succ _ _ _ (by rw [he]; exact hbad), he]
  have hnot : ∀ (t : TypeId), 238 ≠ t → PageT ≠ t → FreeT ≠ t → ∀ i, (i = g ∨ i = L ∨ v.ownBlock = some i) → ∀ cs, ¬ Blk w i t cs := fun t t1 t2 t3 i hi => by
    rcases hi with rfl | rfl | hi
    · exact Blk.not_ (t := 238) h.cut t1
    · exact Blk.not_ hL t2
    · exact own_not ho t3 i hi
  rw [Array.setIfInBounds_setIfInBounds] at hL'
  refine ⟨rfl, c.free.2, ⟨⟨l ++ [c.free.1], v', xs ++ frV c.free.1 V cv, hst, by simp; omega, hL', by simpa using ho', ?_⟩, hc', Nat.le_trans c.free_len h.len, ?_, Nat.le_trans h.size hk.size, ?_⟩, Rdk.of hk (hnot _ (by decide) (by decide) (by decide))⟩
  · exact (hi.chg hk (fun k _ s => hnot IntT (by decide) (by decide) (by decide) k s)).snoc (ht'.less h.size) c.u64_rng
  · exact h.box.chg hk (fun s => hnot _ (by decide) (by decide) (by decide) R s _ h.box)
  · refine Chg.step hk (fun i hi => .inl ?_) h.chg
    rcases hi with rfl | rfl | hi
    · exact .inl rfl
    · exact .inr (.inl rfl)
    · exact .inr (.inr (ho.lt i hi).1)
theorem callFunc_FreesI (cap : Array Value) (w : World) : (callFunc 179 cap).run Tryz.prog w = .ok (.enter 179 cap) w := by kernel_rfl
theorem FreesI.start {g L R base : Nat} {cs0 : Array Value} {w0 w1 : World} {c1 : Sp.Cut} (hk : Chg (OneM g) w0 w1) (hL : Blk w0 L PageT (cs0.setIfInBounds 6 (.slice none 0 0))) (hR : Blk w0 R 184 #[.pointer (some ⟨g, 0, none⟩)]) (hLg : L ≠ g) (hRg : R ≠ g)
    (hb : base ≤ w0.heap.size) (hc : CutAt w1 g c1.s c1.bad) (hl : c1.s.length ≤ 4611686018427387904) : FreesI g L R base cs0 w0 c1 0 c1 w1 :=
  ⟨⟨[], .slice none 0 0, [], rfl, Nat.le_refl _, hL.chg hk hLg, World.ownsRow_nil _ _ _ _, rfl⟩, hc, hl, hR.chg hk hRg, Nat.le_trans hb hk.size, hk.mono (fun _ _ e => .inl e)⟩
structure KeysI (g L R base : Nat) (cs0 : Array Value) (w0 : World) (c1 : Sp.Cut) (k : Nat) (c : Sp.Cut) (w : World) : Prop where
  ex : ∃ l v v2, Sp.eachN Sp.keyStep k (([], []), c1) = (l, c) ∧ l.1.length ≤ k ∧ l.2.length ≤ k ∧ Blk w L PageT ((cs0.setIfInBounds 2 v).setIfInBounds 3 v2) ∧ w.ownsRow base StrT 1 v l.1.length (l.1.map tv) ∧ w.ownsRow base IntT 1 v2 l.2.length (l.2.map iv)
  cut : CutAt w g c.s c.bad
  len : c.s.length ≤ 4611686018427387904
  box : Blk w R 184 #[.pointer (some ⟨g, 0, none⟩)]
  size : base ≤ w.heap.size
  chg : Chg (fun k => k = g ∨ k = L ∨ base ≤ k) w0 w
theorem KeysI.below {g L R base : Nat} {cs0 : Array Value} {w0 : World} {c1 : Sp.Cut} {k : Nat} {c : Sp.Cut} {w w' : World} (h : KeysI g L R base cs0 w0 c1 k c w) (hb : Below w.heap.size w w') : KeysI g L R base cs0 w0 c1 k c w' := by
  have hk : Chg NoM w w' := .of_below hb
  refine ⟨?_, h.cut.chg hk id, h.len, h.box.chg hk id, Nat.le_trans h.size hb.size, h.chg.trans (hk.mono (fun _ _ e => e.elim))⟩
  obtain ⟨l, v, v2, he, hl, hl2, hL, ho, ho2⟩ := h.ex
  exact ⟨l, v, v2, he, hl, hl2, hL.chg hk id, own_chg ho hk (fun _ _ => id), own_chg ho2 hk (fun _ _ => id)⟩
theorem KeysI.next {g L R base : Nat} {cs0 : Array Value} {w0 : World} {c1 : Sp.Cut} {k : Nat} {c : Sp.Cut} {w : World} (hcs : 6 < cs0.size) (hgb : g < base) (hLb : L < base) (hk30 : k ≤ 1073741823) (hbad : c.bad = false) (h : KeysI g L R base cs0 w0 c1 k c w) :
    Calls Tryz.prog 176 #[.pointer (some ⟨L, 0, none⟩), .pointer (some ⟨R, 0, none⟩)] w fun e w' => e = .returned (.tuple #[]) ∧ ∃ c', KeysI g L R base cs0 w0 c1 (k + 1) c' w' ∧ Rdk w w' := by
  obtain ⟨l, v, v2, he, hl, hl2, hL, ho, ho2⟩ := h.ex
  refine (pageC2_any g L R base l.1 l.2 ((cs0.setIfInBounds 2 v).setIfInBounds 3 v2) v v2 c w h.len h.cut hL (by simp [Array.getElem?_setIfInBounds]; omega) (by simp [Array.getElem?_setIfInBounds]; omega) h.box ho ho2 hgb hLb h.size (by omega) (by omega)).mono ?_
  rintro e w' ⟨rfl, v', v2', hc', hL', ho', ho2', hk⟩
  have hst : Sp.eachN Sp.keyStep (k + 1) (([], []), c1) = Sp.keyStep l c := by
    rw [Sp.eachN_succ _ _ _ (by rw [he]; exact hbad), he]
  have hnot : ∀ (t : TypeId), 238 ≠ t → PageT ≠ t → StrT ≠ t → IntT ≠ t → ∀ i, (i = g ∨ i = L ∨ v.ownBlock = some i ∨ v2.ownBlock = some i) → ∀ cs, ¬ Blk w i t cs := fun t t1 t2 t3 t4 i hi => by
    rcases hi with rfl | rfl | hi | hi
    · exact Blk.not_ (t := 238) h.cut t1
    · exact Blk.not_ hL t2
    · exact own_not ho t3 i hi
    · exact own_not ho2 t4 i hi
  have hL2 : Blk w' L PageT ((cs0.setIfInBounds 2 v').setIfInBounds 3 v2') := by
    have e : (((cs0.setIfInBounds 2 v).setIfInBounds 3 v2).setIfInBounds 2 v').setIfInBounds 3 v2' = (cs0.setIfInBounds 2 v').setIfInBounds 3 v2' := by
      rw [Array.setIfInBounds_comm v2 v' (by decide), Array.setIfInBounds_setIfInBounds, Array.setIfInBounds_setIfInBounds]
    rw [e] at hL'
    exact hL'
  refine ⟨rfl, c.text.2.num.2, ⟨⟨(l.1 ++ [c.text.1], l.2 ++ [c.text.2.num.1]), v', v2', hst, by simp; omega, by simp; omega, hL2, by simpa using ho', by simpa using ho2'⟩, hc', Nat.le_trans (Nat.le_trans c.text.2.num_len c.text_len) h.len, ?_, Nat.le_trans h.size hk.size, ?_⟩, Rdk.of hk (hnot _ (by decide) (by decide) (by decide) (by decide))⟩
  · exact h.box.chg hk (fun s => hnot _ (by decide) (by decide) (by decide) (by decide) R s _ h.box)
  · refine Chg.step hk (fun i hi => .inl ?_) h.chg
    rcases hi with rfl | rfl | hi | hi
    · exact .inl rfl
    · exact .inr (.inl rfl)
    · exact .inr (.inr (ho.lt i hi).1)
    · exact .inr (.inr (ho2.lt i hi).1)
theorem callFunc_KeysI (cap : Array Value) (w : World) : (callFunc 176 cap).run Tryz.prog w = .ok (.enter 176 cap) w := by kernel_rfl
theorem KeysI.start {g L R base : Nat} {cs0 : Array Value} {w0 w1 : World} {c1 : Sp.Cut} (hk : Chg (OneM g) w0 w1) (hL : Blk w0 L PageT ((cs0.setIfInBounds 2 (.slice none 0 0)).setIfInBounds 3 (.slice none 0 0))) (hR : Blk w0 R 184 #[.pointer (some ⟨g, 0, none⟩)]) (hLg : L ≠ g) (hRg : R ≠ g)
    (hb : base ≤ w0.heap.size) (hc : CutAt w1 g c1.s c1.bad) (hl : c1.s.length ≤ 4611686018427387904) : KeysI g L R base cs0 w0 c1 0 c1 w1 :=
  ⟨⟨([], []), .slice none 0 0, .slice none 0 0, rfl, Nat.le_refl _, Nat.le_refl _, hL.chg hk hLg, World.ownsRow_nil _ _ _ _, World.ownsRow_nil _ _ _ _⟩, hc, hl, hR.chg hk hRg, Nat.le_trans hb hk.size, hk.mono (fun _ _ e => .inl e)⟩
end Go.Proofs.YtlpmjeiogdlifaaGreat
namespace Go.Proofs.YtlpmjeiogdlifaaGreat
open Go.RowKit
attribute [local go_sem low] mk_extract
attribute [local go_sem] After.cell After.frozen mk_extract_end ByteArray.mk_append_mk
abbrev zPage (k : Int) : Array Value := #[.int .i64 k, .slice none 0 0, .slice none 0 0, .slice none 0 0, .string ⟨#[]⟩, .slice none 0 0, .slice none 0 0, .int .i64 0, .int .u64 0, .int .i64 0, .int .i64 0, .int .i64 0, .int .i64 0, .int .i64 0]
theorem Blk.at14 {w : World} {g : Nat} {t : TypeId} {a b c d e f a' b' c' d' e' f' a2 b2 : Value} (h : Blk w g t #[a, b, c, d, e, f, a', b', c', d', e', f', a2, b2]) :
    (w.cell? ⟨g, 0, none⟩ = some a ∧ w.cell? ⟨g, 1, none⟩ = some b ∧ w.cell? ⟨g, 2, none⟩ = some c ∧ w.cell? ⟨g, 3, none⟩ = some d ∧ w.cell? ⟨g, 4, none⟩ = some e ∧ w.cell? ⟨g, 5, none⟩ = some f ∧ w.cell? ⟨g, 6, none⟩ = some a' ∧ w.cell? ⟨g, 7, none⟩ = some b' ∧ w.cell? ⟨g, 8, none⟩ = some c' ∧ w.cell? ⟨g, 9, none⟩ = some d' ∧ w.cell? ⟨g, 10, none⟩ = some e' ∧ w.cell? ⟨g, 11, none⟩ = some f' ∧ w.cell? ⟨g, 12, none⟩ = some a2 ∧ w.cell? ⟨g, 13, none⟩ = some b2) ∧
    (w.frozen? ⟨g, 0, none⟩ = false ∧ w.frozen? ⟨g, 1, none⟩ = false ∧ w.frozen? ⟨g, 2, none⟩ = false ∧ w.frozen? ⟨g, 3, none⟩ = false ∧ w.frozen? ⟨g, 4, none⟩ = false ∧ w.frozen? ⟨g, 5, none⟩ = false ∧ w.frozen? ⟨g, 6, none⟩ = false ∧ w.frozen? ⟨g, 7, none⟩ = false ∧ w.frozen? ⟨g, 8, none⟩ = false ∧ w.frozen? ⟨g, 9, none⟩ = false ∧ w.frozen? ⟨g, 10, none⟩ = false ∧ w.frozen? ⟨g, 11, none⟩ = false ∧ w.frozen? ⟨g, 12, none⟩ = false ∧ w.frozen? ⟨g, 13, none⟩ = false) := by
  refine ⟨⟨?_, ?_, ?_, ?_, ?_, ?_, ?_, ?_, ?_, ?_, ?_, ?_, ?_, ?_⟩, h.frozen 0, h.frozen 1, h.frozen 2, h.frozen 3, h.frozen 4, h.frozen 5, h.frozen 6, h.frozen 7, h.frozen 8, h.frozen 9, h.frozen 10, h.frozen 11, h.frozen 12, h.frozen 13⟩
  · simpa using h.cell 0
  · simpa using h.cell 1
  · simpa using h.cell 2
  · simpa using h.cell 3
  · simpa using h.cell 4
  · simpa using h.cell 5
  · simpa using h.cell 6
  · simpa using h.cell 7
  · simpa using h.cell 8
  · simpa using h.cell 9
  · simpa using h.cell 10
  · simpa using h.cell 11
  · simpa using h.cell 12
  · simpa using h.cell 13
def PageOut (g : Nat) (c : Sp.Cut) (w : World) (e : Ending) (w' : World) : Prop :=
  ∃ r, e = .returned (.agg (pageV c.page.1 r).toArray) ∧ (∀ M : Nat → Prop, (∀ k, w.heap.size ≤ k → ¬ M k) → PageRd w' M c.page.1 r) ∧ CutAt w' g c.page.2.s c.page.2.bad ∧ Chg (OneM g) w w'
theorem Items.of_cells2 {S : Nat → Prop} {w w' : World} {M : Nat → Prop} {base : Nat} {A : Option Addr} {l : List Sp.Item} {xs : List Value} (hT : TRow w base ItemT A xs) (hI : ItCells w base l xs) (hM : ∀ k, base ≤ k → ¬ M k) (hl : l.length ≤ 1073741824) (hS : ∀ k, base ≤ k → ¬ S k) (hk : Chg S w w') : Items w' M A l :=
  Items.of_cells (hT.chg hk (fun k hb hs => absurd hs (hS k hb))) (hI.chg hk (fun k hb hs => absurd hs (hS k hb))) hM hl
theorem Frees.of_cells2 {S : Nat → Prop} {w w' : World} {M : Nat → Prop} {base : Nat} {A : Option Addr} {l : List Sp.Free} {xs : List Value} (hT : TRow w base FreeT A xs) (hI : FrCells w base l xs) (hM : ∀ k, base ≤ k → ¬ M k) (hl : l.length ≤ 1073741824) (hS : ∀ k, base ≤ k → ¬ S k) (hk : Chg S w w') : Frees w' M A l :=
  Frees.of_cells (hT.chg hk (fun k hb hs => absurd hs (hS k hb))) (hI.chg hk (fun k hb hs => absurd hs (hS k hb))) hM hl
theorem TRow.row2 {S : Nat → Prop} {w w' : World} {M : Nat → Prop} {base : Nat} {e : TypeId} {A : Option Addr} {xs : List Value} (hT : TRow w base e A xs) (hM : ∀ k, base ≤ k → ¬ M k) (hS : ∀ k, base ≤ k → ¬ S k) (hk : Chg S w w') : Row w' M A xs :=
  (hT.chg hk (fun k hb hs => absurd hs (hS k hb))).row hM
end Go.Proofs.YtlpmjeiogdlifaaGreat
namespace Go.Proofs.YtlpmjeiogdlifaaGreat
open Go.RowKit
attribute [local go_sem low] mk_extract
attribute [local go_sem] After.cell After.frozen mk_extract_end ByteArray.mk_append_mk
set_option maxRecDepth 100000 in
set_option maxHeartbeats 1600000 in
theorem rdPage1 (g : Nat) (c : Sp.Cut) (w : World) (hs : c.s.length ≤ 4611686018427387904) (hc : CutAt w g c.s c.bad) (hkd : c.num.1 = 1) :
    Calls Tryz.prog 121 #[.agg #[.pointer (some ⟨g, 0, none⟩)]] w fun e w' => PageOut g c w e w' := by
  have Hc := Lib.hid hc
  have hg := hc.lt
  have hn0 : ¬ w.heap.size = g := by omega
  have hn1 : ¬ w.heap.size + 1 = g := by omega
  have l1 := Nat.le_trans c.num_len hs
  have HI := Lib.hid (show c.page = (⟨c.num.1, c.num.2.items.1, [], [], [], [], [], 0, Sp.mt0⟩, c.num.2.items.2) by unfold Sp.Cut.page; rw [if_pos hkd])
  have hmf : ∀ (fn : Fn) (first cap : Array Value) (w : World), (Instr.makeFunc fn first cap).run Tryz.prog w = .ok (.func fn first cap) w := fun _ _ _ _ => rfl
  clear hc
  have B0 := Lib.hid ((Blk.new w 184 #[.pointer (some ⟨g, 0, none⟩)]).alloc (.cells #[.int .i64 0, .slice none 0 0, .slice none 0 0, .slice none 0 0, .string ⟨#[]⟩, .slice none 0 0, .slice none 0 0, .int .i64 0, .int .u64 0, .int .i64 0, .int .i64 0, .int .i64 0, .int .i64 0, .int .i64 0] PageT))
  have L0 := Lib.hid (blk_second w (.cells #[.pointer (some ⟨g, 0, none⟩)] 184) PageT #[.int .i64 0, .slice none 0 0, .slice none 0 0, .slice none 0 0, .string ⟨#[]⟩, .slice none 0 0, .slice none 0 0, .int .i64 0, .int .u64 0, .int .i64 0, .int .i64 0, .int .i64 0, .int .i64 0, .int .i64 0])
  have b0 := B0.out.at1
  have e1 : (c.num.1 == 1) = true := by rw [beq_iff_eq]; omega
  have HKD := Lib.hid hkd
  clear hkd
  have l2 := Nat.le_trans c.num.2.num_len l1
  obtain ⟨hr0, hr1⟩ := Sp.Cut.num_rng c.num.2
  go_enter Tryz.func121, Tryz.ntmps121
  go_wp2_with fail
  refine (rdNum_any g c.s c.bad _ hs ((Hc.out.alloc _).alloc _)).mono ?_
  rintro e w1 ⟨rfl, hc1, hk1⟩
  have B1 := Lib.hid ((B0.out.chg hk1 hn0).alloc (.cells #[.int .i64 c.num.1, .slice none 0 0, .slice none 0 0, .slice none 0 0, .string ⟨#[]⟩, .slice none 0 0, .slice none 0 0, .int .i64 0, .int .u64 0, .int .i64 0, .int .i64 0, .int .i64 0, .int .i64 0, .int .i64 0] PageT))
  have L1 := Lib.hid ((L0.out.chg hk1 hn1).alloc (.cells #[.int .i64 c.num.1, .slice none 0 0, .slice none 0 0, .slice none 0 0, .string ⟨#[]⟩, .slice none 0 0, .slice none 0 0, .int .i64 0, .int .u64 0, .int .i64 0, .int .i64 0, .int .i64 0, .int .i64 0, .int .i64 0] PageT))
  have b1 := (B0.out.chg hk1 hn0).at1
  have X1 := Lib.hid (Blk.new w1 PageT #[.int .i64 c.num.1, .slice none 0 0, .slice none 0 0, .slice none 0 0, .string ⟨#[]⟩, .slice none 0 0, .slice none 0 0, .int .i64 0, .int .u64 0, .int .i64 0, .int .i64 0, .int .i64 0, .int .i64 0, .int .i64 0])
  have Hc1 := Lib.hid (hc1.alloc (.cells #[.int .i64 c.num.1, .slice none 0 0, .slice none 0 0, .slice none 0 0, .string ⟨#[]⟩, .slice none 0 0, .slice none 0 0, .int .i64 0, .int .u64 0, .int .i64 0, .int .i64 0, .int .i64 0, .int .i64 0, .int .i64 0] PageT))
  have hz1 := hk1.size
  simp only [World.size_alloc] at hz1
  have hw1 : w.heap.size < w1.heap.size := by omega
  have hX : ¬ w1.heap.size = g := by omega
  have K1 := Lib.hid ((Chg.trans (((Chg.refl (OneM g) w).alloc _).alloc _) hk1).alloc (.cells #[.int .i64 c.num.1, .slice none 0 0, .slice none 0 0, .slice none 0 0, .string ⟨#[]⟩, .slice none 0 0, .slice none 0 0, .int .i64 0, .int .u64 0, .int .i64 0, .int .i64 0, .int .i64 0, .int .i64 0, .int .i64 0] PageT))
  clear hc1 hk1
  have Hc1' := Hc1
  go_wp2_with fail
  go_region_held3 (fun w' => w'.cell? ⟨w.heap.size, 0, none⟩ = some (.pointer (some ⟨g, 0, none⟩))) (first | exact hbox2 | exact hbox1 | (simp [go_sem, hw1, b1]; done)) (first
    | (go_at_call 172; refine (rdNum_any g c.num.2.s c.num.2.bad _ l1 ?_).mono ?_; exact Hc1.out; rintro e w3 ⟨rfl, hc3, hk3⟩; have hI0 := Lib.hid (ItemsI.start (base := w1.heap.size + 1) (cs0 := zPage c.num.1) (c1 := c.num.2.num.2) (Chg.of_drew hk3) X1.out B1.out hX hn0 (by simp) hc3 l2); have hbox1 : w3.cell? ⟨w.heap.size, 0, none⟩ = some (.pointer (some ⟨g, 0, none⟩)) := hI0.out.box.at1)
    | (go_at_call 173; refine (each_any _ hr0 hr1 g 174 _ (callFunc_ItemsI _) (ItemsI g w1.heap.size w.heap.size (w1.heap.size + 1) (zPage c.num.1) (w1.alloc (.cells #[.int .i64 c.num.1, .slice none 0 0, .slice none 0 0, .slice none 0 0, .string ⟨#[]⟩, .slice none 0 0, .slice none 0 0, .int .i64 0, .int .u64 0, .int .i64 0, .int .i64 0, .int .i64 0, .int .i64 0, .int .i64 0] PageT)) c.num.2.num.2) (fun k c w h => h.cut) (fun k c w w' h hb => h.below hb) (fun k d w2 hk hb h => h.next (by simp) (by omega) (by omega) (by omega) hb) c.num.2.num.2 _ hI0.out).mono ?_; rintro e w2 ⟨rfl, k, d, hI, hkn, hend⟩; have hbox2 : w2.cell? ⟨w.heap.size, 0, none⟩ = some (.pointer (some ⟨g, 0, none⟩)) := hI.box.at1))
  all_goals
    obtain ⟨l, v, xs, he, hl, hL, ho, hi⟩ := hI.ex
    obtain ⟨A, cp, rfl⟩ := own_form ho
    have hnums : c.num.2.items = (l, d) := by
      unfold Sp.Cut.items
      rw [Sp.eachN_end (k := k) (by omega) (by
        rcases hend with h | h
        · exact .inl (by omega)
        · exact .inr (by rw [he]; exact h)), he]
    have hll : l.length ≤ 1073741824 := by omega
    have HE := Lib.hid (show c.page = (⟨c.num.1, l, [], [], [], [], [], 0, Sp.mt0⟩, d) by rw [HI.out, hnums])
    have HT := Lib.hid (TRow.of_own ho (by rw [hi.len]; omega))
    have HX := Lib.hid hi
    have HC := Lib.hid hI.cut
    have HK2 := Lib.hid (Chg.step (S := OneM g) hI.chg (fun i hi => by
      rcases hi with h | h | h
      · exact .inl h
      · exact .inr (by omega)
      · exact .inr (by omega)) K1.out)
    have L2 := L1.out.chg hI.chg (by omega)
    obtain ⟨⟨za, zb, zc, zd, ze, zf, zg, zh, zi, zj, zk, zl, zm, zn⟩, qa, qb, qc, qd, qe, qf, qg, qh, qi, qj, qk, ql, qm, qn⟩ := L2.at14
    have hL' : Blk w2 w1.heap.size PageT #[.int .i64 c.num.1, .slice A l.length cp, .slice none 0 0, .slice none 0 0, .string ⟨#[]⟩, .slice none 0 0, .slice none 0 0, .int .i64 0, .int .u64 0, .int .i64 0, .int .i64 0, .int .i64 0, .int .i64 0, .int .i64 0] := hL
    obtain ⟨⟨xa, xb, xc, xd, xe, xf, xg, xh, xi, xj, xk, xl, xm, xn⟩, ya, yb, yc, yd, ye, yf, yg, yh, yi, yj, yk, yl, ym, yn⟩ := hL'.at14
    clear hI he hend ho hL hL' hnums L2 hi
    go_wp2
    refine bodyPost_ret (v := .agg (pageV ⟨c.num.1, l, [], [], [], [], [], 0, Sp.mt0⟩ ⟨A, none, none, none, none, cp, 0, 0, 0, 0⟩).toArray) (by simp [results, Tryz.results121, go_sem, za, zb, zc, zd, ze, zf, zg, zh, zi, zj, zk, zl, zm, zn, qa, qb, qc, qd, qe, qf, qg, qh, qi, qj, qk, ql, qm, qn, pageV, mtV, Sp.mt0, Sp.root0]) rfl ⟨⟨A, none, none, none, none, cp, 0, 0, 0, 0⟩, by rw [HE.out], ?_, ?_, ?_⟩
    · intro M hM
      rw [HE.out]
      refine ⟨Items.of_cells2 (S := OneM (w.heap.size + 1)) HT.out HX.out (fun k hk => hM k (by omega)) hll (fun k hb hs => by unfold OneM at hs; omega) ?_, Row.nil_, Row.nil_, Row.nil_, Frees.nil_, by simp [Sp.mt0]⟩
      iterate 14 (refine Chg.setCell ?_ (.inl (by simp only [OneM])) _)
      exact Chg.refl _ _
    · rw [HE.out]
      unfold CutAt
      iterate 14 (refine Blk.far ?_ (fun e => hn1 e.symm) _)
      exact HC.out
    · iterate 14 (refine Chg.setCell ?_ (.inr (by simp only; omega)) _)
      exact HK2.out
end Go.Proofs.YtlpmjeiogdlifaaGreat
namespace Go.Proofs.YtlpmjeiogdlifaaGreat
open Go.RowKit
attribute [local go_sem low] mk_extract
attribute [local go_sem] After.cell After.frozen mk_extract_end ByteArray.mk_append_mk
set_option maxRecDepth 100000 in
set_option maxHeartbeats 1600000 in
theorem rdPage2 (g : Nat) (c : Sp.Cut) (w : World) (hs : c.s.length ≤ 4611686018427387904) (hc : CutAt w g c.s c.bad) (hkd : c.num.1 = 2) :
    Calls Tryz.prog 121 #[.agg #[.pointer (some ⟨g, 0, none⟩)]] w fun e w' => PageOut g c w e w' := by
  have Hc := Lib.hid hc
  have hg := hc.lt
  have hn0 : ¬ w.heap.size = g := by omega
  have hn1 : ¬ w.heap.size + 1 = g := by omega
  have l1 := Nat.le_trans c.num_len hs
  have HI := Lib.hid (show c.page = (⟨c.num.1, [], c.num.2.keys.1.1, c.num.2.keys.1.2, [], [], [], 0, Sp.mt0⟩, c.num.2.keys.2) by unfold Sp.Cut.page; rw [if_neg (by omega), if_pos hkd])
  have hmf : ∀ (fn : Fn) (first cap : Array Value) (w : World), (Instr.makeFunc fn first cap).run Tryz.prog w = .ok (.func fn first cap) w := fun _ _ _ _ => rfl
  clear hc
  have B0 := Lib.hid ((Blk.new w 184 #[.pointer (some ⟨g, 0, none⟩)]).alloc (.cells #[.int .i64 0, .slice none 0 0, .slice none 0 0, .slice none 0 0, .string ⟨#[]⟩, .slice none 0 0, .slice none 0 0, .int .i64 0, .int .u64 0, .int .i64 0, .int .i64 0, .int .i64 0, .int .i64 0, .int .i64 0] PageT))
  have L0 := Lib.hid (blk_second w (.cells #[.pointer (some ⟨g, 0, none⟩)] 184) PageT #[.int .i64 0, .slice none 0 0, .slice none 0 0, .slice none 0 0, .string ⟨#[]⟩, .slice none 0 0, .slice none 0 0, .int .i64 0, .int .u64 0, .int .i64 0, .int .i64 0, .int .i64 0, .int .i64 0, .int .i64 0])
  have b0 := B0.out.at1
  have e1 : (c.num.1 == 1) = false := by rw [beq_eq_false_iff_ne]; omega
  have e2 : (c.num.1 == 2) = true := by rw [beq_iff_eq]; omega
  have HKD := Lib.hid hkd
  clear hkd
  have l2 := Nat.le_trans c.num.2.num_len l1
  obtain ⟨hr0, hr1⟩ := Sp.Cut.num_rng c.num.2
  go_enter Tryz.func121, Tryz.ntmps121
  go_wp2_with fail
  refine (rdNum_any g c.s c.bad _ hs ((Hc.out.alloc _).alloc _)).mono ?_
  rintro e w1 ⟨rfl, hc1, hk1⟩
  have B1 := Lib.hid ((B0.out.chg hk1 hn0).alloc (.cells #[.int .i64 c.num.1, .slice none 0 0, .slice none 0 0, .slice none 0 0, .string ⟨#[]⟩, .slice none 0 0, .slice none 0 0, .int .i64 0, .int .u64 0, .int .i64 0, .int .i64 0, .int .i64 0, .int .i64 0, .int .i64 0] PageT))
  have L1 := Lib.hid ((L0.out.chg hk1 hn1).alloc (.cells #[.int .i64 c.num.1, .slice none 0 0, .slice none 0 0, .slice none 0 0, .string ⟨#[]⟩, .slice none 0 0, .slice none 0 0, .int .i64 0, .int .u64 0, .int .i64 0, .int .i64 0, .int .i64 0, .int .i64 0, .int .i64 0] PageT))
  have b1 := (B0.out.chg hk1 hn0).at1
  have X1 := Lib.hid (Blk.new w1 PageT #[.int .i64 c.num.1, .slice none 0 0, .slice none 0 0, .slice none 0 0, .string ⟨#[]⟩, .slice none 0 0, .slice none 0 0, .int .i64 0, .int .u64 0, .int .i64 0, .int .i64 0, .int .i64 0, .int .i64 0, .int .i64 0])
  have Hc1 := Lib.hid (hc1.alloc (.cells #[.int .i64 c.num.1, .slice none 0 0, .slice none 0 0, .slice none 0 0, .string ⟨#[]⟩, .slice none 0 0, .slice none 0 0, .int .i64 0, .int .u64 0, .int .i64 0, .int .i64 0, .int .i64 0, .int .i64 0, .int .i64 0] PageT))
  have hz1 := hk1.size
  simp only [World.size_alloc] at hz1
  have hw1 : w.heap.size < w1.heap.size := by omega
  have hX : ¬ w1.heap.size = g := by omega
  have K1 := Lib.hid ((Chg.trans (((Chg.refl (OneM g) w).alloc _).alloc _) hk1).alloc (.cells #[.int .i64 c.num.1, .slice none 0 0, .slice none 0 0, .slice none 0 0, .string ⟨#[]⟩, .slice none 0 0, .slice none 0 0, .int .i64 0, .int .u64 0, .int .i64 0, .int .i64 0, .int .i64 0, .int .i64 0, .int .i64 0] PageT))
  clear hc1 hk1
  have Hc1' := Hc1
  go_wp2_with fail
  go_region_held3 (fun w' => w'.cell? ⟨w.heap.size, 0, none⟩ = some (.pointer (some ⟨g, 0, none⟩))) (first | exact hbox2 | exact hbox1 | (simp [go_sem, hw1, b1]; done)) (first
    | (go_at_call 172; refine (rdNum_any g c.num.2.s c.num.2.bad _ l1 ?_).mono ?_; exact Hc1.out; rintro e w3 ⟨rfl, hc3, hk3⟩; have hI0 := Lib.hid (KeysI.start (base := w1.heap.size + 1) (cs0 := zPage c.num.1) (c1 := c.num.2.num.2) (Chg.of_drew hk3) X1.out B1.out hX hn0 (by simp) hc3 l2); have hbox1 : w3.cell? ⟨w.heap.size, 0, none⟩ = some (.pointer (some ⟨g, 0, none⟩)) := hI0.out.box.at1)
    | (go_at_call 173; refine (each_any _ hr0 hr1 g 176 _ (callFunc_KeysI _) (KeysI g w1.heap.size w.heap.size (w1.heap.size + 1) (zPage c.num.1) (w1.alloc (.cells #[.int .i64 c.num.1, .slice none 0 0, .slice none 0 0, .slice none 0 0, .string ⟨#[]⟩, .slice none 0 0, .slice none 0 0, .int .i64 0, .int .u64 0, .int .i64 0, .int .i64 0, .int .i64 0, .int .i64 0, .int .i64 0] PageT)) c.num.2.num.2) (fun k c w h => h.cut) (fun k c w w' h hb => h.below hb) (fun k d w2 hk hb h => h.next (by simp) (by omega) (by omega) (by omega) hb) c.num.2.num.2 _ hI0.out).mono ?_; rintro e w2 ⟨rfl, k, d, hI, hkn, hend⟩; have hbox2 : w2.cell? ⟨w.heap.size, 0, none⟩ = some (.pointer (some ⟨g, 0, none⟩)) := hI.box.at1))
  all_goals
    obtain ⟨l, v, v2, he, hl, hl2, hL, ho, ho2⟩ := hI.ex
    obtain ⟨A, cp, rfl⟩ := own_form ho
    have hnums : c.num.2.keys = (l, d) := by
      unfold Sp.Cut.keys
      rw [Sp.eachN_end (k := k) (by omega) (by
        rcases hend with h | h
        · exact .inl (by omega)
        · exact .inr (by rw [he]; exact h)), he]
    obtain ⟨A2, cp2, rfl⟩ := own_form ho2
    have hll : l.1.length ≤ 1073741824 := by omega
    have HE := Lib.hid (show c.page = (⟨c.num.1, [], l.1, l.2, [], [], [], 0, Sp.mt0⟩, d) by rw [HI.out, hnums])
    have HT := Lib.hid (TRow.of_own ho (by simp; omega))
    have HX := Lib.hid (TRow.of_own ho2 (by simp; omega))
    have HC := Lib.hid hI.cut
    have HK2 := Lib.hid (Chg.step (S := OneM g) hI.chg (fun i hi => by
      rcases hi with h | h | h
      · exact .inl h
      · exact .inr (by omega)
      · exact .inr (by omega)) K1.out)
    have L2 := L1.out.chg hI.chg (by omega)
    obtain ⟨⟨za, zb, zc, zd, ze, zf, zg, zh, zi, zj, zk, zl, zm, zn⟩, qa, qb, qc, qd, qe, qf, qg, qh, qi, qj, qk, ql, qm, qn⟩ := L2.at14
    have hL' : Blk w2 w1.heap.size PageT #[.int .i64 c.num.1, .slice none 0 0, .slice A l.1.length cp, .slice A2 l.2.length cp2, .string ⟨#[]⟩, .slice none 0 0, .slice none 0 0, .int .i64 0, .int .u64 0, .int .i64 0, .int .i64 0, .int .i64 0, .int .i64 0, .int .i64 0] := hL
    obtain ⟨⟨xa, xb, xc, xd, xe, xf, xg, xh, xi, xj, xk, xl, xm, xn⟩, ya, yb, yc, yd, ye, yf, yg, yh, yi, yj, yk, yl, ym, yn⟩ := hL'.at14
    clear hI he hend ho hL hL' hnums L2 ho2
    go_wp2
    refine bodyPost_ret (v := .agg (pageV ⟨c.num.1, [], l.1, l.2, [], [], [], 0, Sp.mt0⟩ ⟨none, A, A2, none, none, 0, cp, cp2, 0, 0⟩).toArray) (by simp [results, Tryz.results121, go_sem, za, zb, zc, zd, ze, zf, zg, zh, zi, zj, zk, zl, zm, zn, qa, qb, qc, qd, qe, qf, qg, qh, qi, qj, qk, ql, qm, qn, pageV, mtV, Sp.mt0, Sp.root0]) rfl ⟨⟨none, A, A2, none, none, 0, cp, cp2, 0, 0⟩, by rw [HE.out], ?_, ?_, ?_⟩
    · intro M hM
      rw [HE.out]
      refine ⟨Items.nil_, TRow.row2 (S := OneM (w.heap.size + 1)) HT.out (fun k hk => hM k (by omega)) (fun k hb hs => by unfold OneM at hs; omega) ?_, TRow.row2 (S := OneM (w.heap.size + 1)) HX.out (fun k hk => hM k (by omega)) (fun k hb hs => by unfold OneM at hs; omega) ?_, Row.nil_, Frees.nil_, by simp [Sp.mt0]⟩
      · iterate 14 (refine Chg.setCell ?_ (.inl (by simp only [OneM])) _)
        exact Chg.refl _ _
      · iterate 14 (refine Chg.setCell ?_ (.inl (by simp only [OneM])) _)
        exact Chg.refl _ _
    · rw [HE.out]
      unfold CutAt
      iterate 14 (refine Blk.far ?_ (fun e => hn1 e.symm) _)
      exact HC.out
    · iterate 14 (refine Chg.setCell ?_ (.inr (by simp only; omega)) _)
      exact HK2.out
end Go.Proofs.YtlpmjeiogdlifaaGreat
