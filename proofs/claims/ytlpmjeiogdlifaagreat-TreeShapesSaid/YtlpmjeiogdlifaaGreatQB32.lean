/- The document's put: the branch that is made anew: what is held. -/
import Derived.Test.YtlpmjeiogdlifaaGreatQB09
import Derived.Test.YtlpmjeiogdlifaaGreatQB31
set_option linter.unusedSimpArgs false
set_option linter.unusedVariables false
namespace Go.Proofs.YtlpmjeiogdlifaaGreat
open Go.RowKit
attribute [local go_sem low] mk_extract
attribute [local go_sem] After.cell After.frozen mk_extract_end ByteArray.mk_append_mk
theorem own_ge {w : World} {base n : Nat} {e : TypeId} {size g cap : Nat} {xs : List Value} (h : w.ownsRow base e size (.slice (some ⟨g, 0, none⟩) n cap) n xs) : base ≤ g := by
  rcases h.2 with ⟨h', _⟩ | ⟨g2, _, _, hv, hb, _⟩
  · cases h'
  · simp only [Value.slice.injEq, Option.some.injEq, Addr.mk.injEq] at hv
    omega
theorem own_to_row {w : World} {base n : Nat} {e : TypeId} {g cap s : Nat} {xs : List Value} (h : w.ownsRow base e 1 (.slice (some ⟨g, 0, none⟩) n cap) n xs) (hs : s < base) (hn : n ≤ 1000) : Row w (OneM s) (some ⟨g, 0, none⟩) xs := by
  have hge := own_ge h
  have hl : xs.length = n := by simpa using h.1
  refine ⟨by omega, ?_⟩
  rcases Nat.eq_zero_or_pos n with rfl | hpos
  · exact .inl (List.length_eq_zero_iff.1 hl)
  · obtain ⟨g', cap', e', hg, hc⟩ := own_some h hpos
    obtain ⟨rfl, rfl⟩ : g = g' ∧ cap = cap' := by simpa using e'
    refine .inr ⟨g, 0, rfl, hg, fun e => ?_, fun j u hu => ?_⟩
    · unfold OneM at e
      omega
    · rw [Nat.zero_add]
      exact hc j u hu
theorem own_cells {w : World} {base n : Nat} {e : TypeId} {size g cap : Nat} {xs : List Value} (h : w.ownsRow base e size (.slice (some ⟨g, 0, none⟩) n cap) n xs) : ∀ j u, xs[j]? = some u → w.cell? ⟨g, j, none⟩ = some u := by
  intro j u hu
  have hl := h.1
  rcases Nat.eq_zero_or_pos n with rfl | hn
  · have : xs = [] := List.length_eq_zero_iff.1 (by simpa using hl)
    rw [this] at hu
    simp at hu
  · obtain ⟨g', cap', e', hg, hc⟩ := own_some h hn
    obtain ⟨rfl, rfl⟩ : g = g' ∧ cap = cap' := by simpa using e'
    exact hc j u hu
structure QkS (w0 W : World) (b g gc d dc : Nat) (ks : List Txt) (is : List Int) : Prop where
  hb : Below w0.heap.size w0 W
  bh : Blk W b PageT (pageV (Sp.branchPg ks is) (refsB (some ⟨g, 0, none⟩) gc (some ⟨d, 0, none⟩) dc)).toArray
  ok_ : W.ownsRow w0.heap.size StrT 1 (.slice (some ⟨g, 0, none⟩) ks.length gc) ks.length (ks.map tv)
  od : W.ownsRow w0.heap.size IntT 1 (.slice (some ⟨d, 0, none⟩) is.length dc) is.length (is.map iv)
  ge : w0.heap.size ≤ b
theorem QkS.go {w0 W W' : World} {b g gc d dc : Nat} {ks : List Txt} {is : List Int} (h : QkS w0 W b g gc d dc ks is) (hb : Below W.heap.size W W') : QkS w0 W' b g gc d dc ks is :=
  ⟨h.hb.trans (hb.mono h.hb.size), h.bh.below hb h.bh.lt, own_chg2 (S := NoM) h.ok_ (Chg.of_below hb) (fun _ _ h => h), own_chg2 (S := NoM) h.od (Chg.of_below hb) (fun _ _ h => h), h.ge⟩
theorem below_set {w0 W : World} {B : Nat} (h : Below B w0 W) {b o : Nat} (hb : B ≤ b) (u : Value) : Below B w0 (W.setCell ⟨b, o, none⟩ u) := Below.setCell h hb u
theorem QkS.keys {w0 W W' : World} {b g gc d dc g' gc' : Nat} {ks ks' : List Txt} {is : List Int} (h : QkS w0 W b g gc d dc ks is) (hb : Below W.heap.size W W')
    (hv : W'.ownsRow W.heap.size StrT 1 (.slice (some ⟨g', 0, none⟩) ks'.length gc') ks'.length (ks'.map tv)) : QkS w0 (W'.setCell ⟨b, 2, none⟩ (.slice (some ⟨g', 0, none⟩) ks'.length gc')) b g' gc' d dc ks' is := by
  have h1 := h.go hb
  have hk := Chg.set1 W' b 2 (.slice (some ⟨g', 0, none⟩) ks'.length gc')
  refine ⟨below_set h1.hb h.ge _, h1.bh.set_ 2 _, own_baseU (own_chg2 hv hk fun k hk h' => ?_) h.hb.size, own_chg2 h1.od hk fun k hk h' => ?_, h.ge⟩
  · have h' : k = b := h'
    exact own_not hv (t := PageT) (by decide) k hk _ (h'.symm ▸ h1.bh)
  · have h' : k = b := h'
    exact own_not h1.od (t := PageT) (by decide) k hk _ (h'.symm ▸ h1.bh)
theorem QkS.kids {w0 W W' : World} {b g gc d dc d' dc' : Nat} {ks : List Txt} {is is' : List Int} (h : QkS w0 W b g gc d dc ks is) (hb : Below W.heap.size W W')
    (hv : W'.ownsRow W.heap.size IntT 1 (.slice (some ⟨d', 0, none⟩) is'.length dc') is'.length (is'.map iv)) : QkS w0 (W'.setCell ⟨b, 3, none⟩ (.slice (some ⟨d', 0, none⟩) is'.length dc')) b g gc d' dc' ks is' := by
  have h1 := h.go hb
  have hk := Chg.set1 W' b 3 (.slice (some ⟨d', 0, none⟩) is'.length dc')
  refine ⟨below_set h1.hb h.ge _, h1.bh.set_ 3 _, own_chg2 h1.ok_ hk fun k hk h' => ?_, own_baseU (own_chg2 hv hk fun k hk h' => ?_) h.hb.size, h.ge⟩
  · have h' : k = b := h'
    exact own_not h1.ok_ (t := PageT) (by decide) k hk _ (h'.symm ▸ h1.bh)
  · have h' : k = b := h'
    exact own_not hv (t := PageT) (by decide) k hk _ (h'.symm ▸ h1.bh)
theorem own_blk_lt {w : World} {base n : Nat} {e : TypeId} {size g cap : Nat} {xs : List Value} (h : w.ownsRow base e size (.slice (some ⟨g, 0, none⟩) n cap) n xs) : ∃ cur, Blk w g e cur := by
  obtain ⟨cur, h1, _⟩ := own_blk h
  exact ⟨cur, h1⟩
theorem QkS.kid {w0 W : World} {b g gc d dc : Nat} {ks : List Txt} {is : List Int} (h : QkS w0 W b g gc d dc ks is) (k : Nat) (i : Int) : QkS w0 (W.setCell ⟨d, k, none⟩ (.int .i64 i)) b g gc d dc ks (is.set k i) := by
  have hk := Chg.set1 W d k (.int .i64 i)
  have hge := own_ge h.od
  obtain ⟨cur, hd⟩ := own_blk_lt h.od
  refine ⟨below_set h.hb hge _, ?_, own_chg2 h.ok_ hk fun j hj h' => ?_, ?_, h.ge⟩
  · have := h.bh.chg hk fun e => ?_
    · simp only [pageV, Sp.branchPg, List.length_set] at *
      exact this
    · have e : b = d := e
      exact Blk.not_ hd (t' := PageT) (by decide) _ (e ▸ h.bh)
  · have h' : j = d := h'
    exact own_not h.ok_ (t := IntT) (by decide) j hj _ (h'.symm ▸ hd)
  · have := own_set h.od (j := k) (.int .i64 i)
    rw [List.length_set, List.map_set]
    exact this
theorem QkS.rd {w0 W : World} {b g gc d dc s : Nat} {ks : List Txt} {is : List Int} (h : QkS w0 W b g gc d dc ks is) (hs : s < w0.heap.size) (hk : ks.length ≤ 1000) (hi : is.length ≤ 1000) : Txts W (OneM s) (some ⟨g, 0, none⟩) ks ∧ Ints W (OneM s) (some ⟨d, 0, none⟩) is :=
  ⟨own_to_row h.ok_ hs hk, own_to_row h.od hs hi⟩
set_option maxHeartbeats 4000000 in
theorem QkS.filled {w0 w3 W : World} {b g gc d dc : Nat} {ks : List Txt} {is : List Int} (hb : Below w0.heap.size w0 w3) (hn : Blk w3 b PageT pgZ) (ge : w0.heap.size ≤ b)
    (hk : w3.ownsRow w0.heap.size StrT 1 (.slice (some ⟨g, 0, none⟩) ks.length gc) ks.length (ks.map tv)) (hi : w3.ownsRow w0.heap.size IntT 1 (.slice (some ⟨d, 0, none⟩) is.length dc) is.length (is.map iv))  (hW : W = ((((((((((((((w3.setCell ⟨b, 0, none⟩ (.int .i64 2)).setCell ⟨b, 1, none⟩ (.slice none 0 0)).setCell ⟨b, 2, none⟩ (.slice (some ⟨g, 0, none⟩) ks.length gc)).setCell ⟨b, 3, none⟩ (.slice (some ⟨d, 0, none⟩) is.length dc)).setCell ⟨b, 4, none⟩ (.string ⟨#[]⟩)).setCell ⟨b, 5, none⟩ (.slice none 0 0)).setCell ⟨b, 6, none⟩ (.slice none 0 0)).setCell ⟨b, 7, none⟩ (.int .i64 0)).setCell ⟨b, 8, none⟩ (.int .u64 0)).setCell ⟨b, 9, none⟩ (.int .i64 0)).setCell ⟨b, 10, none⟩ (.int .i64 0)).setCell ⟨b, 11, none⟩ (.int .i64 0)).setCell ⟨b, 12, none⟩ (.int .i64 0)).setCell ⟨b, 13, none⟩ (.int .i64 0))) :
    QkS w0 W b g gc d dc ks is := by
  subst hW
  have hbl := ((((((((((((((hn.set_ 0 (.int .i64 2)).set_ 1 (.slice none 0 0)).set_ 2 (.slice (some ⟨g, 0, none⟩) ks.length gc)).set_ 3 (.slice (some ⟨d, 0, none⟩) is.length dc)).set_ 4 (.string ⟨#[]⟩)).set_ 5 (.slice none 0 0)).set_ 6 (.slice none 0 0)).set_ 7 (.int .i64 0)).set_ 8 (.int .u64 0)).set_ 9 (.int .i64 0)).set_ 10 (.int .i64 0)).set_ 11 (.int .i64 0)).set_ 12 (.int .i64 0)).set_ 13 (.int .i64 0))
  simp only [pgZ, List.setIfInBounds_toArray, List.set_cons_succ, List.set_cons_zero] at hbl
  have ck := (((((((((((((((Chg.refl (OneM b) w3).setCell (p := ⟨b, 0, none⟩) (.inl rfl) (.int .i64 2)).setCell (p := ⟨b, 1, none⟩) (.inl rfl) (.slice none 0 0)).setCell (p := ⟨b, 2, none⟩) (.inl rfl) (.slice (some ⟨g, 0, none⟩) ks.length gc)).setCell (p := ⟨b, 3, none⟩) (.inl rfl) (.slice (some ⟨d, 0, none⟩) is.length dc)).setCell (p := ⟨b, 4, none⟩) (.inl rfl) (.string ⟨#[]⟩)).setCell (p := ⟨b, 5, none⟩) (.inl rfl) (.slice none 0 0)).setCell (p := ⟨b, 6, none⟩) (.inl rfl) (.slice none 0 0)).setCell (p := ⟨b, 7, none⟩) (.inl rfl) (.int .i64 0)).setCell (p := ⟨b, 8, none⟩) (.inl rfl) (.int .u64 0)).setCell (p := ⟨b, 9, none⟩) (.inl rfl) (.int .i64 0)).setCell (p := ⟨b, 10, none⟩) (.inl rfl) (.int .i64 0)).setCell (p := ⟨b, 11, none⟩) (.inl rfl) (.int .i64 0)).setCell (p := ⟨b, 12, none⟩) (.inl rfl) (.int .i64 0)).setCell (p := ⟨b, 13, none⟩) (.inl rfl) (.int .i64 0))
  refine ⟨(below_set (below_set (below_set (below_set (below_set (below_set (below_set (below_set (below_set (below_set (below_set (below_set (below_set (below_set hb ge (.int .i64 2)) ge (.slice none 0 0)) ge (.slice (some ⟨g, 0, none⟩) ks.length gc)) ge (.slice (some ⟨d, 0, none⟩) is.length dc)) ge (.string ⟨#[]⟩)) ge (.slice none 0 0)) ge (.slice none 0 0)) ge (.int .i64 0)) ge (.int .u64 0)) ge (.int .i64 0)) ge (.int .i64 0)) ge (.int .i64 0)) ge (.int .i64 0)) ge (.int .i64 0)), hbl, own_chg2 hk ck fun k hk' h' => ?_, own_chg2 hi ck fun k hk' h' => ?_, ge⟩
  · have h' : k = b := h'
    exact own_not hk (t := PageT) (by decide) k hk' _ (h'.symm ▸ hn)
  · have h' : k = b := h'
    exact own_not hi (t := PageT) (by decide) k hk' _ (h'.symm ▸ hn)
theorem QkS.made {w0 w3 W : World} {b : Nat} {g gc d dc : Nat} {ks : List Txt} {is : List Int} (hb : Below w0.heap.size w0 w3)
    (hk : w3.ownsRow w0.heap.size StrT 1 (.slice (some ⟨g, 0, none⟩) ks.length gc) ks.length (ks.map tv)) (hi : w3.ownsRow w0.heap.size IntT 1 (.slice (some ⟨d, 0, none⟩) is.length dc) is.length (is.map iv))  (hW : W = w3.alloc (.cells #[.int .i64 2, .slice none 0 0, .slice (some ⟨g, 0, none⟩) ks.length gc, .slice (some ⟨d, 0, none⟩) is.length dc, .string ⟨#[]⟩, .slice none 0 0, .slice none 0 0, .int .i64 0, .int .u64 0, .int .i64 0, .int .i64 0, .int .i64 0, .int .i64 0, .int .i64 0] PageT)) (hb' : b = w3.heap.size) :
    QkS w0 W b g gc d dc ks is := by
  subst hW
  subst hb'
  have hal : Below w3.heap.size w3 (w3.alloc (.cells (pageV (Sp.branchPg ks is) (refsB (some ⟨g, 0, none⟩) gc (some ⟨d, 0, none⟩) dc)).toArray PageT)) := (Below.refl _ _).alloc (Nat.le_refl _) _
  exact ⟨hb.trans (hal.mono hb.size), Blk.new _ _ _, own_chg2 (S := NoM) hk (Chg.of_below hal) (fun _ _ h => h), own_chg2 (S := NoM) hi (Chg.of_below hal) (fun _ _ h => h), hb.size⟩
theorem lit_own {w : World} {g base : Nat} {u : Value} (h : Blk w g StrT #[u]) (hb : base ≤ g) : w.ownsRow base StrT 1 (.slice (some ⟨g, 0, none⟩) 1 1) 1 [u] :=
  ⟨rfl, .inr ⟨g, 1, #[u], rfl, hb, h, Nat.le_refl _, by simp [maxLen], rfl, rfl⟩⟩
theorem blk_grown {w w' : World} {base n b : Nat} {e : TypeId} {size : Nat} {v : Value} {xs : List Value} {cs : Array Value} (own : w.ownsRow base e size v n xs) (hgr : w.grownBy w' v.ownBlock) (hb : Blk w b PageT cs) (hne : PageT ≠ e) : Blk w' b PageT cs :=
  hb.chg (S := fun k => v.ownBlock = some k) (Chg.of_grown hgr (fun k hk => .inl hk)) fun h => own_not own (t := PageT) (fun e => hne e.symm) b h _ hb
theorem QkS.row {w0 X : World} {b g gc d dc : Nat} {ks : List Txt} {is : List Int} {old : Array Value} (hb : Below w0.heap.size w0 X) (hn : Blk X b PageT old) (ge : w0.heap.size ≤ b)
    (hk : X.ownsRow w0.heap.size StrT 1 (.slice (some ⟨g, 0, none⟩) ks.length gc) ks.length (ks.map tv)) (hi : X.ownsRow w0.heap.size IntT 1 (.slice (some ⟨d, 0, none⟩) is.length dc) is.length (is.map iv)) :
    QkS w0 (X.setRow b (pageV (Sp.branchPg ks is) (refsB (some ⟨g, 0, none⟩) gc (some ⟨d, 0, none⟩) dc)).toArray) b g gc d dc ks is :=
  ⟨below_setRow hb ge _, hn.row, own_chg2 hk (chg_setRow1' X b _) fun k hk' h' => own_not hk (t := PageT) (by decide) k hk' _ ((show k = b from h').symm ▸ hn),
    own_chg2 hi (chg_setRow1' X b _) fun k hk' h' => own_not hi (t := PageT) (by decide) k hk' _ ((show k = b from h').symm ▸ hn), ge⟩
end Go.Proofs.YtlpmjeiogdlifaaGreat
