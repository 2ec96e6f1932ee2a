/- A page that comes in: what can be read as data lies in memory as a page does. -/
import Derived.Test.YtkcfmjlcijhieaaGreatQB00
import Derived.Test.YtkcfmjlcijhieaaGreatQB04
import Derived.SizedLaws
import Derived.SliceStrings
import Derived.ChangeSlices
import Derived.Deep.Slices
set_option linter.unusedSimpArgs false
set_option linter.unusedVariables false
namespace Go.Proofs.YtkcfmjlcijhieaaGreat
open Go.RowKit Go.WideShapes Go.ChangeShapes Go.Deep
theorem cellsStr : Tryz.prog.cellsOf 9 = 1 := by kernel_rfl
theorem cellsInt : Tryz.prog.cellsOf 3 = 1 := by kernel_rfl
theorem cellsU64 : Tryz.prog.cellsOf 25 = 1 := by kernel_rfl
theorem cellsStrs : Tryz.prog.cellsOf 32 = 1 := by kernel_rfl
theorem cellsInts : Tryz.prog.cellsOf 26 = 1 := by kernel_rfl
theorem cellsItems : Tryz.prog.cellsOf 33 = 1 := by kernel_rfl
theorem cellsFrees : Tryz.prog.cellsOf 24 = 1 := by kernel_rfl
theorem cellsRoot : Tryz.prog.cellsOf 35 = 3 := by kernel_rfl
theorem cellsItem : Tryz.prog.cellsOf 90 = 10 := by kernel_rfl
theorem cellsFree : Tryz.prog.cellsOf 28 = 2 := by kernel_rfl
theorem cellsMeta : Tryz.prog.cellsOf 37 = 6 := by kernel_rfl
theorem cellsPage : Tryz.prog.cellsOf 39 = 14 := by kernel_rfl
theorem bytesItem : Tryz.prog.bytesOf 90 = 112 := by kernel_rfl
theorem bytesFree : Tryz.prog.bytesOf 28 = 32 := by kernel_rfl
theorem addr_of {w : World} {a : Addr} {u : Value} (h : w.cell? (a.add 0) = some u) : ∃ b off, a = ⟨b, off, none⟩ ∧ b < w.heap.size := by
  obtain ⟨b, off, spot⟩ := a
  have hspot : spot = none := by simpa [Addr.add] using World.cell?_spot h
  subst hspot
  refine ⟨b, off, rfl, ?_⟩
  have := block_lt_of_cell h
  simpa [Go.WideShapes.add_plain] using this
theorem row_of {w : World} {a : Addr} {cs : List Value} (hl : cs.length ≤ 9223372036854775807) (h : ∀ i u, cs[i]? = some u → w.cell? (a.add i) = some u) : Row w NoM (some a) cs := by
  refine ⟨hl, ?_⟩
  rcases cs with _ | ⟨c, cs⟩
  · exact .inl rfl
  · obtain ⟨b, off, rfl, hb⟩ := addr_of (h 0 c rfl)
    exact .inr ⟨b, off, rfl, hb, id, fun j u hu => by rw [← Go.WideShapes.add_plain]; exact h j u hu⟩
section
variable {H : Type} {enc : TypeId × Value → H} {w : World} {base : Nat} {spare : Nat → Bool} {held : Bool}
theorem tr_txts {n : Nat} {c : Value} {y : DataW H × List MemPlace} (h : DataW.trod enc Tryz.prog w base spare held n 32 [c] = some y) : ∃ A l cap, c = .slice A (List.length l) cap ∧ Txts w NoM A l := by
  rcases open_strings Tryz.underlying32 Tryz.underlying9 cellsStr h with ⟨hc, _⟩ | ⟨a, len, cap, ss, hc, _, hl, hm, hs, _, hcell, _⟩
  · simp only [List.cons.injEq, and_true] at hc
    exact ⟨none, [], 0, hc, Row.nil_⟩
  · simp only [List.cons.injEq, and_true] at hc
    have hle : len ≤ ss.length := by rw [hs]; split <;> omega
    unfold maxLen at hm
    refine ⟨some a, (ss.take len).map (fun s => s.data.toList), cap, ?_, row_of ?_ fun i u hu => ?_⟩
    · rw [hc, List.length_map, List.length_take, Nat.min_eq_left hle]
    · simp; omega
    · rw [List.getElem?_map, List.getElem?_map, List.getElem?_take] at hu
      split at hu
      · rename_i hi
        have hcl := hcell i (by omega)
        have hlt : i < ss.length := by omega
        rw [hcl]
        simp only [List.getElem?_eq_getElem hlt, Option.map_some, Option.some.injEq] at hu
        rw [← hu]
        simp [List.getD, hlt, tv]
      · simp at hu
theorem tr_ints {n : Nat} {c : Value} {y : DataW H × List MemPlace} (h : DataW.trod enc Tryz.prog w base spare held n 26 [c] = some y) : ∃ A l cap, c = .slice A (List.length l) cap ∧ Ints w NoM A l := by
  rcases open_ints Tryz.underlying26 Tryz.underlying3 cellsInt h with ⟨hc, _⟩ | ⟨a, len, cap, zs, hc, _, hl, hm, hs, _, hcell, _⟩
  · simp only [List.cons.injEq, and_true] at hc
    exact ⟨none, [], 0, hc, Row.nil_⟩
  · simp only [List.cons.injEq, and_true] at hc
    have hle : len ≤ zs.length := by rw [hs]; split <;> omega
    unfold maxLen at hm
    refine ⟨some a, zs.take len, cap, ?_, row_of ?_ fun i u hu => ?_⟩
    · rw [hc, List.length_take, Nat.min_eq_left hle]
    · simp; omega
    · rw [List.getElem?_map, List.getElem?_take] at hu
      split at hu
      · rename_i hi
        have hcl := hcell i (by omega)
        have hlt : i < zs.length := by omega
        rw [hcl]
        simp only [List.getElem?_eq_getElem hlt, Option.map_some, Option.some.injEq] at hu
        rw [← hu]
        simp [List.getD, hlt, iv]
      · simp at hu
theorem tr_int {n : Nat} {c : Value} {y : DataW H × List MemPlace} (h : DataW.trod enc Tryz.prog w base spare held n 3 [c] = some y) : ∃ k : Int, c = .int .i64 k := by
  obtain ⟨k, hc, _⟩ := DataW.trod_int Tryz.underlying3 h
  simp only [List.cons.injEq, and_true] at hc
  exact ⟨k, hc⟩
theorem tr_u64 {n : Nat} {c : Value} {y : DataW H × List MemPlace} (h : DataW.trod enc Tryz.prog w base spare held n 25 [c] = some y) : ∃ k : Int, c = .int .u64 k ∧ 0 ≤ k ∧ k < 18446744073709551616 := by
  obtain ⟨k, hc, _, hw⟩ := DataW.trod_int Tryz.underlying25 h
  simp only [List.cons.injEq, and_true] at hc
  refine ⟨k, hc, ?_⟩
  simp [Lit.wf, IntKind.min, IntKind.max, IntKind.signed, IntKind.bits] at hw
  omega
theorem tr_str {n : Nat} {c : Value} {y : DataW H × List MemPlace} (h : DataW.trod enc Tryz.prog w base spare held n 9 [c] = some y) : ∃ s : Txt, c = .string ⟨s.toArray⟩ ∧ s.length ≤ 9223372036854775807 := by
  obtain ⟨s, hc, _, hw⟩ := DataW.trod_string Tryz.underlying9 h
  simp only [List.cons.injEq, and_true] at hc
  refine ⟨s.data.toList, hc, ?_⟩
  unfold maxLen at hw
  exact hw
theorem fld {fs : Array Field} {n : Nat} {cs : List Value} {xs : List (DataW H × List MemPlace)} (hlen : xs.length = fs.size)
    (hg : ∀ (i : Nat) (f : Field), fs[i]? = some f → DataW.trod enc Tryz.prog w base spare held n f.type ((cs.drop f.offset).take (Tryz.prog.cellsOf f.type)) = xs[i]?) (i : Nat) (T : TypeId) (off : Nat) (hf : (fs[i]?).map (fun f => (f.type, f.offset)) = some (T, off)) :
    ∃ y, xs[i]? = some y ∧ DataW.trod enc Tryz.prog w base spare held n T ((cs.drop off).take (Tryz.prog.cellsOf T)) = some y := by
  obtain ⟨f, hf1, hf2⟩ := Option.map_eq_some_iff.1 hf
  simp only [Prod.mk.injEq] at hf2
  obtain ⟨rfl, rfl⟩ := hf2
  have hi : i < xs.length := by
    rw [hlen]
    exact (Array.getElem?_eq_some_iff.1 hf1).1
  exact ⟨xs[i], List.getElem?_eq_getElem hi, (hg i f hf1).trans (List.getElem?_eq_getElem hi)⟩
set_option maxRecDepth 100000 in
theorem tr_root {n : Nat} {cs : List Value} {y : DataW H × List MemPlace} (h : DataW.trod enc Tryz.prog w base spare held n 35 cs = some y) : ∃ r : Sp.Root, cs = rootV r := by
  obtain ⟨xs, m, _, _, hl, hlen, hg⟩ := DataW.trod_struct Tryz.underlying35 h
  rw [cellsRoot] at hl
  match cs, hl with
  | [c0, c1, c2], _ =>
    obtain ⟨_, _, g0⟩ := fld hlen hg 0 3 0 rfl
    obtain ⟨_, _, g1⟩ := fld hlen hg 1 3 1 rfl
    obtain ⟨_, _, g2⟩ := fld hlen hg 2 3 2 rfl
    simp only [cellsInt, List.drop_zero, List.drop_succ_cons, List.take_succ_cons, List.take_zero] at g0 g1 g2
    obtain ⟨a, rfl⟩ := tr_int g0
    obtain ⟨b, rfl⟩ := tr_int g1
    obtain ⟨c, rfl⟩ := tr_int g2
    exact ⟨⟨a, b, c⟩, rfl⟩
set_option maxRecDepth 100000 in
theorem tr_meta {n : Nat} {cs : List Value} {y : DataW H × List MemPlace} (h : DataW.trod enc Tryz.prog w base spare held n 37 cs = some y) : ∃ m : Sp.Mt, cs = mtV m ∧ 0 ≤ m.txn ∧ m.txn < 18446744073709551616 := by
  obtain ⟨xs, k, _, _, hl, hlen, hg⟩ := DataW.trod_struct Tryz.underlying37 h
  rw [cellsMeta] at hl
  match cs, hl with
  | [c0, c1, c2, c3, c4, c5], _ =>
    obtain ⟨_, _, g0⟩ := fld hlen hg 0 25 0 rfl
    obtain ⟨_, _, g1⟩ := fld hlen hg 1 35 1 rfl
    obtain ⟨_, _, g2⟩ := fld hlen hg 2 3 4 rfl
    obtain ⟨_, _, g3⟩ := fld hlen hg 3 3 5 rfl
    simp only [cellsInt, cellsU64, cellsRoot, List.drop_zero, List.drop_succ_cons, List.take_succ_cons, List.take_zero] at g0 g1 g2 g3
    obtain ⟨a, rfl, ha⟩ := tr_u64 g0
    obtain ⟨r, hr⟩ := tr_root g1
    obtain ⟨b, rfl⟩ := tr_int g2
    obtain ⟨c, rfl⟩ := tr_int g3
    simp only [rootV, List.cons.injEq, and_true] at hr
    obtain ⟨rfl, rfl, rfl⟩ := hr
    exact ⟨⟨a, r, b, c⟩, rfl, ha⟩
set_option maxRecDepth 100000 in
theorem tr_item {n : Nat} {cs : List Value} {y : DataW H × List MemPlace} (h : DataW.trod enc Tryz.prog w base spare held n 90 cs = some y) : ∃ x V c, cs = itemV x V c ∧ Txts w NoM V x.vals := by
  obtain ⟨xs, k, _, _, hl, hlen, hg⟩ := DataW.trod_struct Tryz.underlying90 h
  rw [cellsItem] at hl
  match cs, hl with
  | [c0, c1, c2, c3, c4, c5, c6, c7, c8, c9], _ =>
    obtain ⟨_, _, g0⟩ := fld hlen hg 0 9 0 rfl
    obtain ⟨_, _, g1⟩ := fld hlen hg 1 3 1 rfl
    obtain ⟨_, _, g2⟩ := fld hlen hg 2 9 2 rfl
    obtain ⟨_, _, g3⟩ := fld hlen hg 3 3 3 rfl
    obtain ⟨_, _, g4⟩ := fld hlen hg 4 3 4 rfl
    obtain ⟨_, _, g5⟩ := fld hlen hg 5 32 5 rfl
    obtain ⟨_, _, g6⟩ := fld hlen hg 6 3 6 rfl
    obtain ⟨_, _, g7⟩ := fld hlen hg 7 35 7 rfl
    simp only [cellsInt, cellsStr, cellsStrs, cellsRoot, List.drop_zero, List.drop_succ_cons, List.take_succ_cons, List.take_zero] at g0 g1 g2 g3 g4 g5 g6 g7
    obtain ⟨a0, rfl, _⟩ := tr_str g0
    obtain ⟨a1, rfl⟩ := tr_int g1
    obtain ⟨a2, rfl, _⟩ := tr_str g2
    obtain ⟨a3, rfl⟩ := tr_int g3
    obtain ⟨a4, rfl⟩ := tr_int g4
    obtain ⟨V, l, cap, rfl, hv⟩ := tr_txts g5
    obtain ⟨a6, rfl⟩ := tr_int g6
    obtain ⟨r, hr⟩ := tr_root g7
    simp only [rootV, List.cons.injEq, and_true] at hr
    obtain ⟨rfl, rfl, rfl⟩ := hr
    exact ⟨⟨a0, a1, a2, a3, a4, l, a6, r⟩, V, cap, rfl, hv⟩
set_option maxRecDepth 100000 in
theorem tr_free {n : Nat} {cs : List Value} {y : DataW H × List MemPlace} (h : DataW.trod enc Tryz.prog w base spare held n 28 cs = some y) : ∃ (f : Sp.Free) (V : Option Addr) (c : Nat), cs = [.int .u64 f.txn, .slice V f.ids.length c] ∧ Ints w NoM V f.ids ∧ 0 ≤ f.txn ∧ f.txn < 18446744073709551616 := by
  obtain ⟨xs, k, _, _, hl, hlen, hg⟩ := DataW.trod_struct Tryz.underlying28 h
  rw [cellsFree] at hl
  match cs, hl with
  | [c0, c1], _ =>
    obtain ⟨_, _, g0⟩ := fld hlen hg 0 25 0 rfl
    obtain ⟨_, _, g1⟩ := fld hlen hg 1 26 1 rfl
    simp only [cellsU64, cellsInts, List.drop_zero, List.drop_succ_cons, List.take_succ_cons, List.take_zero] at g0 g1
    obtain ⟨a0, rfl, ha⟩ := tr_u64 g0
    obtain ⟨V, l, cap, rfl, hv⟩ := tr_ints g1
    exact ⟨⟨a0, l⟩, V, cap, rfl, hv, ha⟩
theorem cells_at {a : Addr} {n : Nat} {cs : List Value} (h : w.cells? base a n = some cs) : ∀ j u, cs[j]? = some u → w.cell? (a.add j) = some u := fun j u hu => by
  obtain ⟨_, hl, hc⟩ := World.cells?_some h
  have hj : j < n := by
    rw [← hl]
    exact (List.getElem?_eq_some_iff.1 hu).1
  exact (hc j hj).trans hu
theorem getD_map {α : Type} (F : Nat → α) (d : α) {n k : Nat} (h : k < n) : ((List.range n).map F).getD k d = F k := by
  simp [List.getD, h]
theorem tr_items {n : Nat} {c : Value} {y : DataW H × List MemPlace} (h : DataW.trod enc Tryz.prog w base spare held n 33 [c] = some y) : ∃ A l cap, c = .slice A (List.length l) cap ∧ (List.length l ≤ 288230376151711744 → Items w NoM A l) ∧ (l = [] ∨ ∃ es sp, y.1 = .slice es sp ∧ es.length = List.length l) := by
  rcases open_slice Tryz.underlying33 h with ⟨hc, _⟩ | ⟨a, len, cap, m, n', D, Pl, hc, _, hl, hm, hmm, hx, hi⟩
  · simp only [List.cons.injEq, and_true] at hc
    exact ⟨none, [], 0, hc, fun _ => Items.nil_, .inl rfl⟩
  · simp only [List.cons.injEq, and_true] at hc
    have hle : len ≤ m := by rw [hmm]; split <;> omega
    have hex : ∀ i : Nat, ∃ x : Sp.Item, i < m → ∃ V c, (∀ j u, (itemV x V c)[j]? = some u → w.cell? (a.add (i * 10 + j)) = some u) ∧ Txts w NoM V x.vals := fun i => by
      by_cases him : i < m
      · obtain ⟨cs', hcs, ht⟩ := hi i him
        rw [cellsItem] at hcs
        obtain ⟨x, V, c', rfl, hv⟩ := tr_item ht
        refine ⟨x, fun _ => ⟨V, c', fun j u hu => ?_, hv⟩⟩
        rw [← Go.Deep.add_add]
        exact cells_at hcs j u hu
      · exact ⟨Sp.item0, fun h => absurd h him⟩
    obtain ⟨F, hF⟩ := Classical.axiomOfChoice hex
    refine ⟨some a, (List.range len).map F, cap, by rw [hc]; simp, fun hb => ⟨hb, ?_⟩, .inr ⟨_, _, congrArg Prod.fst hx, by simp⟩⟩
    rcases Nat.eq_zero_or_pos len with h0 | h0
    · left; rw [h0]; rfl
    · right
      obtain ⟨V, c', hcell, _⟩ := hF 0 (by omega)
      obtain ⟨b, off, rfl, hbl⟩ := addr_of (hcell 0 _ rfl)
      refine ⟨b, off, rfl, hbl, id, fun k hk => ?_⟩
      rw [List.length_map, List.length_range] at hk
      rw [getD_map F _ hk]
      obtain ⟨V, c', hcell, ht⟩ := hF k (by omega)
      have hc2 : ∀ j u, (itemV (F k) V c')[j]? = some u → w.cell? ⟨b, off + k * 10 + j, none⟩ = some u := fun j u hu => by
        have := hcell j u hu
        rw [Go.WideShapes.add_plain, ← Nat.add_assoc] at this
        exact this
      exact ⟨V, c', ⟨hc2 0 _ rfl, hc2 1 _ rfl, hc2 2 _ rfl, hc2 3 _ rfl, hc2 4 _ rfl, hc2 5 _ rfl, hc2 6 _ rfl, hc2 7 _ rfl, hc2 8 _ rfl, hc2 9 _ rfl⟩, ht⟩
theorem tr_frees {n : Nat} {c : Value} {y : DataW H × List MemPlace} (h : DataW.trod enc Tryz.prog w base spare held n 24 [c] = some y) : ∃ A l cap, c = .slice A (List.length l) cap ∧ (List.length l ≤ 1152921504606846 → Frees w NoM A l) ∧ (l = [] ∨ ∃ es sp, y.1 = .slice es sp ∧ es.length = List.length l) := by
  rcases open_slice Tryz.underlying24 h with ⟨hc, _⟩ | ⟨a, len, cap, m, n', D, Pl, hc, _, hl, hm, hmm, hx, hi⟩
  · simp only [List.cons.injEq, and_true] at hc
    exact ⟨none, [], 0, hc, fun _ => Frees.nil_, .inl rfl⟩
  · simp only [List.cons.injEq, and_true] at hc
    have hle : len ≤ m := by rw [hmm]; split <;> omega
    have hex : ∀ i : Nat, ∃ x : Sp.Free, i < m → ∃ (V : Option Addr) (c : Nat), (∀ j u, ([.int .u64 x.txn, .slice V x.ids.length c] : List Value)[j]? = some u → w.cell? (a.add (i * 2 + j)) = some u) ∧ Ints w NoM V x.ids ∧ 0 ≤ x.txn ∧ x.txn < 18446744073709551616 := fun i => by
      by_cases him : i < m
      · obtain ⟨cs', hcs, ht⟩ := hi i him
        rw [cellsFree] at hcs
        obtain ⟨x, V, c', rfl, hv, hr⟩ := tr_free ht
        refine ⟨x, fun _ => ⟨V, c', fun j u hu => ?_, hv, hr⟩⟩
        rw [← Go.Deep.add_add]
        exact cells_at hcs j u hu
      · exact ⟨Sp.free0, fun h => absurd h him⟩
    obtain ⟨F, hF⟩ := Classical.axiomOfChoice hex
    refine ⟨some a, (List.range len).map F, cap, by rw [hc]; simp, fun hb => ⟨hb, ?_⟩, .inr ⟨_, _, congrArg Prod.fst hx, by simp⟩⟩
    rcases Nat.eq_zero_or_pos len with h0 | h0
    · left; rw [h0]; rfl
    · right
      obtain ⟨V, c', hcell, _⟩ := hF 0 (by omega)
      obtain ⟨b, off, rfl, hbl⟩ := addr_of (hcell 0 _ rfl)
      refine ⟨b, off, rfl, hbl, id, fun k hk => ?_⟩
      rw [List.length_map, List.length_range] at hk
      rw [getD_map F _ hk]
      obtain ⟨V, c', hcell, ht, hr⟩ := hF k (by omega)
      have hc2 : ∀ j u, ([.int .u64 (F k).txn, .slice V (F k).ids.length c'] : List Value)[j]? = some u → w.cell? ⟨b, off + k * 2 + j, none⟩ = some u := fun j u hu => by
        have := hcell j u hu
        rw [Go.WideShapes.add_plain, ← Nat.add_assoc] at this
        exact this
      exact ⟨V, c', ⟨hc2 0 _ rfl, hc2 1 _ rfl⟩, ht, hr⟩
set_option maxRecDepth 100000 in
theorem open_page {r : Reach} {b0 : Nat} {v : Value} {d : DataW H} {ps : List MemPlace} (hv : Value.okWide Tryz.prog w r b0 39 v) (h : DataW.Trod enc Tryz.prog w base spare held 39 v d ps)
    (hwt : ∀ n ∈ d.weights Tryz.prog 39, n ≤ reachBytes) : ∃ p rf, v = .agg (pageV p rf).toArray ∧ PageRd w NoM p rf := by
  obtain ⟨cs, rfl, hsz⟩ := okWide_struct Tryz.underlying39 hv
  obtain ⟨fuel, hf⟩ := h
  obtain ⟨xs, k, _, hx, hl, hlen, hg⟩ := DataW.trod_struct Tryz.underlying39 hf
  rw [cellsPage] at hl
  obtain ⟨l⟩ := cs
  simp only [Value.cells] at hl hg hf
  match l, hl with
  | [c0, c1, c2, c3, c4, c5, c6, c7, c8, c9, c10, c11, c12, c13], _ =>
    obtain ⟨_, _, g0⟩ := fld hlen hg 0 3 0 rfl
    obtain ⟨y1, e1, g1⟩ := fld hlen hg 1 33 1 rfl
    obtain ⟨_, _, g2⟩ := fld hlen hg 2 32 2 rfl
    obtain ⟨_, _, g3⟩ := fld hlen hg 3 26 3 rfl
    obtain ⟨_, _, g4⟩ := fld hlen hg 4 9 4 rfl
    obtain ⟨_, _, g5⟩ := fld hlen hg 5 32 5 rfl
    obtain ⟨y6, e6, g6⟩ := fld hlen hg 6 24 6 rfl
    obtain ⟨_, _, g7⟩ := fld hlen hg 7 3 7 rfl
    obtain ⟨_, _, g8⟩ := fld hlen hg 8 37 8 rfl
    simp only [cellsInt, cellsStr, cellsStrs, cellsInts, cellsItems, cellsFrees, cellsMeta, List.drop_zero, List.drop_succ_cons, List.take_succ_cons, List.take_zero] at g0 g1 g2 g3 g4 g5 g6 g7 g8
    obtain ⟨a0, rfl⟩ := tr_int g0
    obtain ⟨I, li, ci, rfl, hI, hI2⟩ := tr_items g1
    obtain ⟨K, lk, ck, rfl, hK⟩ := tr_txts g2
    obtain ⟨D, ld, cd, rfl, hD⟩ := tr_ints g3
    obtain ⟨a4, rfl, _⟩ := tr_str g4
    obtain ⟨V, lv, cv, rfl, hV⟩ := tr_txts g5
    obtain ⟨F, lf, cf, rfl, hF, hF2⟩ := tr_frees g6
    obtain ⟨a7, rfl⟩ := tr_int g7
    obtain ⟨m, hm, hmt⟩ := tr_meta g8
    simp only [mtV, List.cons.injEq, and_true] at hm
    obtain ⟨rfl, rfl, rfl, rfl, rfl, rfl⟩ := hm
    have hw : ∀ (i : Nat) (t : TypeId) (y : DataW H × List MemPlace) (es sp : List (DataW H)) (e : TypeId), xs[i]? = some y → y.1 = .slice es sp → ([3, 33, 32, 26, 9, 32, 24, 3, 37] : List TypeId)[i]? = some t → Tryz.prog.underlying t = some (.slice e) → (es.length + sp.length) * Tryz.prog.bytesOf e ≤ reachBytes := by
      intro i t y es sp e hy hes hti hu
      refine hwt _ ?_
      have hd : d = .agg (xs.map (·.1)) := congrArg Prod.fst hx
      rw [hd]
      simp only [DataW.weights, Tryz.underlying39]
      refine DataW.weights_mem_each (j := i) (t := t) (d := .slice es sp) hti (by rw [List.getElem?_map, hy, ← hes]; rfl) _ ?_
      simp [DataW.weights, hu]
    refine ⟨⟨a0, li, lk, ld, a4, lv, lf, a7, m⟩, ⟨I, K, D, V, F, ci, ck, cd, cv, cf⟩, rfl, hI ?_, hK, hD, hV, hF ?_, hmt⟩
    · rcases hI2 with rfl | ⟨es, sp, he, hel⟩
      · simp
      · have := hw 1 _ _ es sp _ e1 he rfl Tryz.underlying33
        rw [bytesItem] at this
        unfold reachBytes at this
        omega
    · rcases hF2 with rfl | ⟨es, sp, he, hel⟩
      · simp
      · have := hw 6 _ _ es sp _ e6 he rfl Tryz.underlying24
        rw [bytesFree] at this
        unfold reachBytes at this
        omega
end
end Go.Proofs.YtkcfmjlcijhieaaGreat
