/- Rows of pages, rows of steps in a store that come in. Rows of numbers asked for one; a file's length, its loose pages; a new file's map is empty. -/
import Derived.Test.YtkcfmjlcijhieaaGreatQB16
import Derived.Test.YtkcfmjlcijhieaaGreatQB21
import Derived.Test.YtkcfmjlcijhieaaGreatQB23
import Derived.Test.YtkcfmjlcijhieaaGreatQB25
import Derived.Test.YtkcfmjlcijhieaaGreatQPKeeps01
import Derived.Deep.Grids
set_option linter.unusedSimpArgs false
set_option linter.unusedVariables false
namespace Go.Proofs.YtkcfmjlcijhieaaGreat
open Go.RowKit Go.WideShapes Go.ChangeShapes Go.Deep
theorem wAll_mem {H : Type} {P : Program} {e : TypeId} : ∀ {l : List (DataW H)} {d : DataW H}, d ∈ l → ∀ n ∈ d.weights P e, n ∈ DataW.weightsAll P e l
  | [], _, h, _, _ => by cases h
  | x :: l, d, h, n, hn => by
    simp only [DataW.weightsAll, List.mem_append]
    rcases List.mem_cons.1 h with rfl | h
    · exact .inl hn
    · exact .inr (wAll_mem h n hn)
section
variable {H : Type} {enc : TypeId × Value → H} {w : World} {base : Nat} {spare : Nat → Bool} {held : Bool}
set_option maxRecDepth 100000 in
theorem tr_page {n : Nat} {cs : List Value} {y0 : DataW H × List MemPlace} (hf : DataW.trod enc Tryz.prog w base spare held n 39 cs = some y0)
    (hwt : ∀ n ∈ y0.1.weights Tryz.prog 39, n ≤ reachBytes) : ∃ p rf, cs = pageV p rf ∧ PageRd w NoM p rf := by
  obtain ⟨xs, k, _, hx, hl, hlen, hg⟩ := DataW.trod_struct Tryz.underlying39 hf
  rw [cellsPage] at hl
  match cs, hl with
  | [c0, c1, c2, c3, c4, c5, c6, c7, c8, c9, c10, c11, c12, c13], _ =>
    obtain ⟨_, _, g0⟩ := fld hlen hg 0 3 0 rfl
    obtain ⟨y1, e1, g1⟩ := fld hlen hg 1 33 1 rfl
    obtain ⟨_, _, g2⟩ := fld hlen hg 2 32 2 rfl
    obtain ⟨_, _, g3⟩ := fld hlen hg 3 26 3 rfl
    obtain ⟨_, _, g4⟩ := fld hlen hg 4 9 4 rfl
    obtain ⟨_, _, g5⟩ := fld hlen hg 5 32 5 rfl
    obtain ⟨y6, e6, g6⟩ := fld hlen hg 6 24 6 rfl
    obtain ⟨_, _, g7⟩ := fld hlen hg 7 3 7 rfl
    obtain ⟨_, _, g8⟩ := fld hlen hg 8 37 8 rfl
    simp only [cellsInt, cellsStr, cellsStrs, cellsInts, cellsItems, cellsFrees, cellsMeta, List.drop_zero, List.drop_succ_cons, List.take_succ_cons, List.take_zero] at g0 g1 g2 g3 g4 g5 g6 g7 g8
    obtain ⟨a0, rfl⟩ := tr_int g0
    obtain ⟨I, li, ci, rfl, hI, hI2⟩ := tr_items g1
    obtain ⟨K, lk, ck, rfl, hK⟩ := tr_txts g2
    obtain ⟨D, ld, cd, rfl, hD⟩ := tr_ints g3
    obtain ⟨a4, rfl, _⟩ := tr_str g4
    obtain ⟨V, lv, cv, rfl, hV⟩ := tr_txts g5
    obtain ⟨F, lf, cf, rfl, hF, hF2⟩ := tr_frees g6
    obtain ⟨a7, rfl⟩ := tr_int g7
    obtain ⟨m, hm, hmt⟩ := tr_meta g8
    simp only [mtV, List.cons.injEq, and_true] at hm
    obtain ⟨rfl, rfl, rfl, rfl, rfl, rfl⟩ := hm
    have hw : ∀ (i : Nat) (t : TypeId) (y : DataW H × List MemPlace) (es sp : List (DataW H)) (e : TypeId), xs[i]? = some y → y.1 = .slice es sp → ([3, 33, 32, 26, 9, 32, 24, 3, 37] : List TypeId)[i]? = some t → Tryz.prog.underlying t = some (.slice e) → (es.length + sp.length) * Tryz.prog.bytesOf e ≤ reachBytes := by
      intro i t y es sp e hy hes hti hu
      refine hwt _ ?_
      have hd : y0.1 = .agg (xs.map (·.1)) := congrArg Prod.fst hx
      rw [hd]
      simp only [DataW.weights, Tryz.underlying39]
      refine DataW.weights_mem_each (j := i) (t := t) (d := .slice es sp) hti (by rw [List.getElem?_map, hy, ← hes]; rfl) _ ?_
      simp [DataW.weights, hu]
    refine ⟨⟨a0, li, lk, ld, a4, lv, lf, a7, m⟩, ⟨I, K, D, V, F, ci, ck, cd, cv, cf⟩, rfl, hI ?_, hK, hD, hV, hF ?_, hmt⟩
    · rcases hI2 with rfl | ⟨es, sp, he, hel⟩
      · simp
      · have := hw 1 _ _ es sp _ e1 he rfl Tryz.underlying33
        rw [bytesItem] at this
        unfold reachBytes at this
        omega
    · rcases hF2 with rfl | ⟨es, sp, he, hel⟩
      · simp
      · have := hw 6 _ _ es sp _ e6 he rfl Tryz.underlying24
        rw [bytesFree] at this
        unfold reachBytes at this
        omega
end
/-- A slice that reads as a list of pages. -/
def Pgs (w : World) (A : Option Addr) (l : List Sp.Page) : Prop :=
  l.length ≤ 9223372036854775807 ∧ (l = [] ∨ ∃ b off, A = some ⟨b, off, none⟩ ∧ b < w.heap.size ∧ ∀ k, k < l.length → ∃ r, PageRd w NoM (l.getD k Sp.pg0) r ∧ ∀ j u, (pageV (l.getD k Sp.pg0) r)[j]? = some u → w.cell? ⟨b, off + k * 14 + j, none⟩ = some u)
theorem Pgs.go {w w' : World} {A : Option Addr} {l : List Sp.Page} (h : Pgs w A l) (hb : Below w.heap.size w w') : Pgs w' A l := by
  refine ⟨h.1, ?_⟩
  rcases h.2 with h | ⟨b, off, e, hl, hc⟩
  · exact .inl h
  · refine .inr ⟨b, off, e, Nat.lt_of_lt_of_le hl hb.size, fun k hk => ?_⟩
    obtain ⟨r, hr, hj⟩ := hc k hk
    exact ⟨r, hr.go hb, fun j u hu => (hb.cell (p := ⟨b, off + k * 14 + j, none⟩) hl).trans (hj j u hu)⟩
namespace Sp
/-- A step in a store. -/
structure Stp8 where
  what : Int
  id : Int
  p : Page
def stp80 : Stp8 := ⟨0, 0, pg0⟩
end Sp
/-- A slice that reads as a list of steps. -/
def Stps8 (w : World) (A : Option Addr) (l : List Sp.Stp8) : Prop :=
  l.length ≤ 9223372036854775807 ∧ (l = [] ∨ ∃ b off, A = some ⟨b, off, none⟩ ∧ b < w.heap.size ∧ ∀ k, k < l.length → ∃ r, PageRd w NoM (l.getD k Sp.stp80).p r ∧ ∀ j u, (.int .i64 (l.getD k Sp.stp80).what :: .int .i64 (l.getD k Sp.stp80).id :: pageV (l.getD k Sp.stp80).p r)[j]? = some u → w.cell? ⟨b, off + k * 16 + j, none⟩ = some u)
theorem Stps8.go {w w' : World} {A : Option Addr} {l : List Sp.Stp8} (h : Stps8 w A l) (hb : Below w.heap.size w w') : Stps8 w' A l := by
  refine ⟨h.1, ?_⟩
  rcases h.2 with h | ⟨b, off, e, hl, hc⟩
  · exact .inl h
  · refine .inr ⟨b, off, e, Nat.lt_of_lt_of_le hl hb.size, fun k hk => ?_⟩
    obtain ⟨r, hr, hj⟩ := hc k hk
    exact ⟨r, hr.go hb, fun j u hu => (hb.cell (p := ⟨b, off + k * 16 + j, none⟩) hl).trans (hj j u hu)⟩
theorem cellsStep8 : Tryz.prog.cellsOf 77 = 16 := by kernel_rfl
section
variable {H : Type} {enc : TypeId × Value → H} {w : World} {base : Nat} {spare : Nat → Bool} {held : Bool}
set_option maxRecDepth 100000 in
theorem tr_stp8 {n : Nat} {cs : List Value} {y : DataW H × List MemPlace} (h : DataW.trod enc Tryz.prog w base spare held n 77 cs = some y)
    (hwt : ∀ n ∈ y.1.weights Tryz.prog 77, n ≤ reachBytes) : ∃ (x : Sp.Stp8) (r : Refs), cs = .int .i64 x.what :: .int .i64 x.id :: pageV x.p r ∧ PageRd w NoM x.p r := by
  obtain ⟨xs, k, _, hx, hl, hlen, hg⟩ := DataW.trod_struct Tryz.underlying77 h
  rw [cellsStep8] at hl
  match cs, hl with
  | [c0, c1, c2, c3, c4, c5, c6, c7, c8, c9, c10, c11, c12, c13, c14, c15], _ =>
    obtain ⟨_, _, g0⟩ := fld hlen hg 0 3 0 rfl
    obtain ⟨_, _, g1⟩ := fld hlen hg 1 3 1 rfl
    obtain ⟨y2, e2, g2⟩ := fld hlen hg 2 39 2 rfl
    simp only [cellsInt, cellsPage, List.drop_zero, List.drop_succ_cons, List.take_succ_cons, List.take_zero] at g0 g1 g2
    obtain ⟨a, rfl⟩ := tr_int g0
    obtain ⟨b, rfl⟩ := tr_int g1
    obtain ⟨p, r, hp, hr⟩ := tr_page g2 (fun m hm => by
      refine hwt _ ?_
      have hd : y.1 = .agg (xs.map (·.1)) := congrArg Prod.fst hx
      rw [hd]
      simp only [DataW.weights, Tryz.underlying77]
      exact DataW.weights_mem_each (j := 2) (t := 39) (d := y2.1) rfl (by rw [List.getElem?_map, e2]; rfl) _ hm)
    exact ⟨⟨a, b, p⟩, r, by rw [hp], hr⟩
set_option maxRecDepth 100000 in
theorem open_pgs {r : Reach} {b0 : Nat} {v : Value} {d : DataW H} {ps : List MemPlace} (hv : Value.okWide Tryz.prog w r b0 74 v) (h : DataW.Trod enc Tryz.prog w base spare held 74 v d ps)
    (hwt : ∀ n ∈ d.weights Tryz.prog 74, n ≤ reachBytes) : ∃ (l : List Sp.Page) (A : Option Addr) (c : Nat), v = .slice A l.length c ∧ Pgs w A l := by
  obtain ⟨a, n, c, rfl⟩ := okWide_slice Tryz.underlying74 hv
  obtain ⟨fuel, hf⟩ := h
  simp only [Value.cells] at hf
  rcases open_slice Tryz.underlying74 hf with ⟨hc, _⟩ | ⟨a', len, cap, m, n', D, Pl, hc, _, hl, hm, hmm, hx, hi⟩
  · simp only [List.cons.injEq, and_true] at hc
    exact ⟨[], none, 0, hc, by simp, .inl rfl⟩
  · simp only [List.cons.injEq, and_true] at hc
    unfold maxLen at hm
    have hle : len ≤ m := by rw [hmm]; split <;> omega
    have hex : ∀ i : Nat, ∃ x : Sp.Page × Refs, i < len → PageRd w NoM x.1 x.2 ∧ ∀ j u, (pageV x.1 x.2)[j]? = some u → w.cell? (a'.add (i * 14 + j)) = some u := fun i => by
      by_cases him : i < len
      · obtain ⟨cs', hcs, ht⟩ := hi i (by omega)
        rw [cellsPage] at hcs
        obtain ⟨x, r, rfl, hr⟩ := tr_page ht (fun n hn => by
          refine hwt n ?_
          have hd : d = .slice ((List.range len).map D) ((List.range (m - len)).map fun j => D (len + j)) := congrArg Prod.fst hx
          rw [hd]
          simp only [DataW.weights, Tryz.underlying74, List.mem_cons, List.mem_append]
          exact .inr (.inl (wAll_mem (List.mem_map.2 ⟨i, List.mem_range.2 him, rfl⟩) n hn)))
        refine ⟨⟨x, r⟩, fun _ => ⟨hr, fun j u hu => ?_⟩⟩
        rw [← Go.Deep.add_add]
        exact cells_at hcs j u hu
      · exact ⟨⟨Sp.pg0, refs0⟩, fun h => absurd h him⟩
    obtain ⟨F, hF⟩ := Classical.axiomOfChoice hex
    refine ⟨(List.range len).map fun i => (F i).1, some a', cap, by rw [hc]; simp, by simp; omega, ?_⟩
    rcases Nat.eq_zero_or_pos len with h0 | h0
    · left; rw [h0]; rfl
    · right
      have hcell := (hF 0 (by omega)).2
      obtain ⟨b, off, rfl, hbl⟩ := addr_of (hcell 0 _ rfl)
      refine ⟨b, off, rfl, hbl, fun k hk => ?_⟩
      rw [List.length_map, List.length_range] at hk
      rw [getD_map (fun i => (F i).1) _ hk]
      refine ⟨(F k).2, (hF k (by omega)).1, fun j u hu => ?_⟩
      have := (hF k (by omega)).2 j u hu
      rw [Go.WideShapes.add_plain, ← Nat.add_assoc] at this
      exact this
set_option maxRecDepth 100000 in
theorem open_stps8 {r : Reach} {b0 : Nat} {v : Value} {d : DataW H} {ps : List MemPlace} (hv : Value.okWide Tryz.prog w r b0 75 v) (h : DataW.Trod enc Tryz.prog w base spare held 75 v d ps)
    (hwt : ∀ n ∈ d.weights Tryz.prog 75, n ≤ reachBytes) : ∃ (l : List Sp.Stp8) (A : Option Addr) (c : Nat), v = .slice A l.length c ∧ Stps8 w A l := by
  obtain ⟨a, n, c, rfl⟩ := okWide_slice Tryz.underlying75 hv
  obtain ⟨fuel, hf⟩ := h
  simp only [Value.cells] at hf
  rcases open_slice Tryz.underlying75 hf with ⟨hc, _⟩ | ⟨a', len, cap, m, n', D, Pl, hc, _, hl, hm, hmm, hx, hi⟩
  · simp only [List.cons.injEq, and_true] at hc
    exact ⟨[], none, 0, hc, by simp, .inl rfl⟩
  · simp only [List.cons.injEq, and_true] at hc
    unfold maxLen at hm
    have hle : len ≤ m := by rw [hmm]; split <;> omega
    have hex : ∀ i : Nat, ∃ x : Sp.Stp8 × Refs, i < len → PageRd w NoM x.1.p x.2 ∧ ∀ j u, (.int .i64 x.1.what :: .int .i64 x.1.id :: pageV x.1.p x.2)[j]? = some u → w.cell? (a'.add (i * 16 + j)) = some u := fun i => by
      by_cases him : i < len
      · obtain ⟨cs', hcs, ht⟩ := hi i (by omega)
        rw [cellsStep8] at hcs
        obtain ⟨x, r, rfl, hr⟩ := tr_stp8 ht (fun n hn => by
          refine hwt n ?_
          have hd : d = .slice ((List.range len).map D) ((List.range (m - len)).map fun j => D (len + j)) := congrArg Prod.fst hx
          rw [hd]
          simp only [DataW.weights, Tryz.underlying75, List.mem_cons, List.mem_append]
          exact .inr (.inl (wAll_mem (List.mem_map.2 ⟨i, List.mem_range.2 him, rfl⟩) n hn)))
        refine ⟨⟨x, r⟩, fun _ => ⟨hr, fun j u hu => ?_⟩⟩
        rw [← Go.Deep.add_add]
        exact cells_at hcs j u hu
      · exact ⟨⟨Sp.stp80, refs0⟩, fun h => absurd h him⟩
    obtain ⟨F, hF⟩ := Classical.axiomOfChoice hex
    refine ⟨(List.range len).map fun i => (F i).1, some a', cap, by rw [hc]; simp, by simp; omega, ?_⟩
    rcases Nat.eq_zero_or_pos len with h0 | h0
    · left; rw [h0]; rfl
    · right
      have hcell := (hF 0 (by omega)).2
      obtain ⟨b, off, rfl, hbl⟩ := addr_of (hcell 0 _ rfl)
      refine ⟨b, off, rfl, hbl, fun k hk => ?_⟩
      rw [List.length_map, List.length_range] at hk
      rw [getD_map (fun i => (F i).1) _ hk]
      refine ⟨(F k).2, (hF k (by omega)).1, fun j u hu => ?_⟩
      have := (hF k (by omega)).2 j u hu
      rw [Go.WideShapes.add_plain, ← Nat.add_assoc] at this
      exact this
set_option maxRecDepth 100000 in
theorem open_intr {r : Reach} {b0 : Nat} {v : Value} {d : DataW H} {ps : List MemPlace} (hv : Value.okWide Tryz.prog w r b0 26 v) (h : DataW.Trod enc Tryz.prog w base spare held 26 v d ps) :
    ∃ (l : List Int) (A : Option Addr) (c : Nat), v = .slice A l.length c ∧ Ints w NoM A l := by
  obtain ⟨a, n, c, rfl⟩ := okWide_slice Tryz.underlying26 hv
  obtain ⟨fuel, hf⟩ := h
  simp only [Value.cells] at hf
  obtain ⟨A, l, cap, hc, hi⟩ := tr_ints hf
  exact ⟨l, A, cap, hc, hi⟩
end
end Go.Proofs.YtkcfmjlcijhieaaGreat
namespace Go.Proofs.YtkcfmjlcijhieaaGreat
open Go.RowKit
attribute [local go_sem low] mk_extract
attribute [local go_sem] After.cell After.frozen mk_extract_end ByteArray.mk_append_mk
set_option maxRecDepth 100000 in
set_option maxHeartbeats 400000 in
theorem dHas_any (l : List Int) (A : Option Addr) (c : Nat) (n : Int) {M : Nat → Prop} (w : World) (hl : Ints w M A l) :
    Calls Tryz.prog 40 #[.slice A l.length c, .int .i64 n] w fun e w' => e = .returned (.bool (l.contains n)) ∧ Below w.heap.size w w' := by
  have hlen := hl.len
  have Hl := Lib.hid hl
  clear hl
  go_enter Tryz.func40, Tryz.ntmps40
  go_wp2
  go_loopw [5] (fun i wr => ∃ k : Nat, k ≤ l.length ∧ i = .int .i64 k ∧ Below w.heap.size w wr ∧ Hid (∀ j, j < k → l.getD j 0 ≠ n)) (fun i _ => l.length - (intOf i).toNat)
  case atStart => exact ⟨0, Nat.zero_le _, rfl, Below.refl _ _, fun j h => absurd h (by omega)⟩
  case round =>
    obtain ⟨k, hk, rfl, hb, hok⟩ := hrel
    have hsz := hb.size
    by_cases hlt : k < l.length
    · obtain ⟨b, off, rfl, hbl, hc⟩ := Hl.out.at_ hlt
      have hc0 := (hb.cell (p := ⟨b, off + k, none⟩) hbl).trans (hc k hlt)
      have hbw : b < wr.heap.size := by omega
      clear hc
      generalize hx : l.getD k 0 = x at *
      have HX := Lib.hid hx
      clear hx
      go_wp2
      all_goals first
        | (go_ret
           go_light
           have hne : x = n := by grind
           refine ⟨ret_bool ?_, hb⟩
           rw [List.contains_iff_mem.2 ?_]
           rw [← hne, ← HX.out, List.getD_eq_getElem?_getD, List.getElem?_eq_getElem hlt]
           exact List.getElem_mem hlt)
        | (go_light
           have hee : x ≠ n := by grind
           refine ⟨⟨k + 1, by omega, by go_num, hb, fun j hj => ?_⟩, by simp [intOf]; omega⟩
           rcases Nat.lt_succ_iff_lt_or_eq.1 hj with h | rfl
           · exact hok.out j h
           · rw [HX.out]; exact hee)
    · have hkl : k = l.length := by omega
      go_wp2
      go_ret
      refine ⟨ret_bool ?_, hb⟩
      rw [eq_comm, Bool.eq_false_iff, ne_eq, List.contains_iff_mem]
      intro hm
      obtain ⟨i, hi, e⟩ := List.getElem_of_mem hm
      have := hok.out i (by omega)
      rw [List.getD_eq_getElem?_getD, List.getElem?_eq_getElem hi] at this
      exact this e
/-- A file as a new one: nothing is loose. -/
structure FileNew (w : World) (f : Nat) (v : Value) (m : Nat) (V : List Txt) : Prop where
  at_ : FileAt w f v m V
  bf : ∃ sv, Blk w f FileT #[v, sv, .map (some m)]
  em : w.heap[m]? = some (.map #[] 0)
set_option maxRecDepth 100000 in
set_option maxHeartbeats 1600000 in
theorem fileNew_em (l : List Txt) (b off c : Nat) {M : Nat → Prop} (w : World) (hl : Txts w M (some ⟨b, off, none⟩) l) (hn : l.length ≤ 400) (hc : l.length ≤ c) (hs : ∀ s ∈ l, s.length ≤ 4611686018427387904) :
    Calls Tryz.prog 20 #[.slice (some ⟨b, off, none⟩) l.length c] w fun e w' => ∃ f v m, e = .returned (.pointer (some ⟨f, 0, none⟩)) ∧ FileNew w' f v m l ∧ w.heap.size ≤ f ∧ w.heap.size ≤ m ∧ (∀ k, v.ownBlock = some k → w.heap.size ≤ k) ∧ Below w.heap.size w w' := by
  have HL := Lib.hid hl
  have HS := Lib.hid hs
  have h400 : (l.length : Int) ≤ 400 := by omega
  have hcc : (l.length : Int) ≤ (c : Int) := by omega
  have hmin : min (l.length : Int) 400 = (l.length : Int) := by omega
  have hmm := @run_makeMap Tryz.prog
  clear hl hs
  go_enter Tryz.func20, Tryz.ntmps20
  go_upto_region 2 with (go_at_call 66; refine (clone_any l b off c _ HL.out (by omega)).mono ?_; rintro e w1 ⟨g, cap, rfl, ho, hb1⟩; have HO := Lib.hid ho; have HB := Lib.hid hb1; clear ho hb1)
  go_wp2_with (go_at_call 66; refine (clone_any l g 0 cap _ (Txts.of_own HO.out (by omega)) (by omega)).mono ?_; rintro e w2 ⟨g2, cap2, rfl, ho2, hb2⟩; have HO2 := Lib.hid ho2; have HB2 := Lib.hid hb2; clear ho2 hb2)
  go_ret
  have hz1 := HB.out.size
  have hz2 := HB2.out.size
  have hmap : ((w2.alloc (.map #[] 0)).alloc (.cells #[.slice (some ⟨g, 0, none⟩) l.length cap, .slice (some ⟨g2, 0, none⟩) l.length cap2, .map (some w2.heap.size)] FileT)).heap[w2.heap.size]? = some (.map #[] 0) := by
    have := heap_alloc_new w2 (.map #[] 0)
    exact (((Below.refl _ _).alloc (Nat.le_refl _) _ : Below (w2.alloc (.map #[] 0)).heap.size (w2.alloc (.map #[] 0)) _).block _ (by rw [World.size_alloc]; omega)).trans this
  refine ⟨w2.heap.size + 1, .slice (some ⟨g, 0, none⟩) l.length cap, w2.heap.size, rfl, ⟨⟨⟨.slice (some ⟨g2, 0, none⟩) l.length cap2, ?_⟩, ?_, ⟨#[], 0, hmap, by simp⟩, HS.out⟩, ⟨_, blk_second w2 _ _ _⟩, hmap⟩, by omega, by omega, fun k hk => ?_, ?_⟩
  · exact blk_second w2 _ _ _
  · have hal : Below w1.heap.size w1 ((w2.alloc (.map #[] 0)).alloc (.cells #[.slice (some ⟨g, 0, none⟩) l.length cap, .slice (some ⟨g2, 0, none⟩) l.length cap2, .map (some w2.heap.size)] FileT)) := (HB2.out.alloc hz2 _).alloc (by rw [World.size_alloc]; omega) _
    exact own_less (own_chg2 (S := NoM) HO.out (Chg.of_below hal) (fun _ _ h => h)) (Nat.zero_le _)
  · have := own_lt HO.out k hk
    rcases HO.out.2 with ⟨h, _⟩ | ⟨g', cap', cur, h, hg, _⟩
    · cases h
    · simp only [Value.slice.injEq, Option.some.injEq, Addr.mk.injEq] at h
      simp only [Value.ownBlock, Option.some.injEq] at hk
      omega
  · exact ((HB.out.trans (HB2.out.mono hz1)).alloc (by omega) _).alloc (by rw [World.size_alloc]; omega) _
set_option maxRecDepth 100000 in
set_option maxHeartbeats 1600000 in
theorem fileLen_any (f : Nat) (v sv : Value) (m : Nat) (V : List Txt) (w : World) (hb : Blk w f FileT #[v, sv, .map (some m)]) (ho : w.ownsRow 0 StrT 1 v V.length (V.map tv)) :
    Calls Tryz.prog 43 #[.pointer (some ⟨f, 0, none⟩)] w fun e w' => e = .returned (.int .i64 (V.length : Int)) ∧ w = w' := by
  have c0 : w.cell? ⟨f, 0, none⟩ = some v := hb.cell 0
  obtain ⟨A, c, rfl⟩ := own_slice ho
  clear hb ho
  go_enter Tryz.func43, Tryz.ntmps43
  go_wp2
  go_ret
  exact ⟨rfl, rfl⟩
set_option maxRecDepth 100000 in
set_option maxHeartbeats 1600000 in
theorem fileLoose_any (f : Nat) (v sv : Value) (m : Nat) (V : List Txt) (w : World) (hb : Blk w f FileT #[v, sv, .map (some m)]) (ho : w.ownsRow 0 StrT 1 v V.length (V.map tv)) (hm : w.heap[m]? = some (.map #[] 0)) (hV : V.length ≤ 400) :
    Calls Tryz.prog 42 #[.pointer (some ⟨f, 0, none⟩)] w fun e w' => e = .returned (.slice none 0 0) ∧ Below w.heap.size w w' := by
  have c0 : w.cell? ⟨f, 0, none⟩ = some v := hb.cell 0
  have c2 : w.cell? ⟨f, 2, none⟩ = some (.map (some m)) := hb.cell 2
  have hfl := hb.lt
  obtain ⟨A, c, rfl⟩ := own_slice ho
  have hml : m < w.heap.size := (Array.getElem?_eq_some_iff.1 hm).1
  have HM := Lib.hid hm
  clear hb ho hm
  go_enter Tryz.func42, Tryz.ntmps42
  go_wp2_with fail
  go_loopw [3, 10] (fun o i wr => ∃ k : Nat, k ≤ V.length ∧ i = .int .i64 k ∧ o = .slice none 0 0 ∧ Below w.heap.size w wr) (fun _ i _ => V.length - (intOf i).toNat)
  case atStart => exact ⟨0, Nat.zero_le _, rfl, rfl, Below.refl _ _⟩
  case round =>
    obtain ⟨k, hk, rfl, rfl, hb⟩ := hrel
    have hsz := hb.size
    have c2' := (hb.cell (p := ⟨f, 2, none⟩) hfl).trans c2
    by_cases hlt : k < V.length
    · have hlk := MapV.look (mt := 113) (et := 4) Tryz.underlying113 (show MapV wr m [] from ⟨#[], 0, (hb.block m hml).trans HM.out, rfl, by simp [MapKept.Stamped]⟩) (k : Int) (zeroBool wr) false
      simp only [Sp.lookD, List.find?_nil, Option.map_none, Option.getD_none, Bool.false_eq_true, if_false] at hlk
      go_wp2_with fail
      go_roundw
      case rel => exact ⟨k + 1, by omega, by go_num, rfl, hb⟩
      case measure => simp [intOf]; omega
    · go_wp2_with fail
      go_ret
      exact ⟨rfl, hb⟩
set_option maxRecDepth 100000 in
set_option maxHeartbeats 1600000 in
theorem stoNew_row (f m : Nat) (fv : Value) (V : List Txt) (last most : Int) (A : Option Addr) (c : Nat) (L : List Int) (w : World) (hf : FileAt w f fv m V) (hu : Ints w NoM A L) (hlen : L.length ≤ 100000) :
    Calls Tryz.prog 28 #[.pointer (some ⟨f, 0, none⟩), .int .i64 last, .int .i64 most, .slice A L.length c] w fun e w' => ∃ t d M, e = .returned (.pointer (some ⟨t, 0, none⟩)) ∧ StAt w' M t f m d fv V (Sp.Sto.new last most L) ∧ (∀ k, k < w.heap.size → M k) ∧ Below w.heap.size w w' ∧ w.heap.size ≤ t ∧ w.heap.size ≤ d := by
  have HF := Lib.hid hf
  have HNE := Lib.hid (show Sp.Sto.new last most L = { d := [], freed := [], avail := L.foldl (Sp.newStep (min (min (max last 2) 400) (min (max most 2) 400))) [], last := min (max last 2) 400, most := min (max most 2) 400 } from rfl)
  generalize Sp.Sto.new last most L = N at *
  have hmm := @run_makeMap Tryz.prog
  have HA := Lib.hid hu
  have HML := Lib.hid hf.map.lt
  clear hf hu
  go_enter Tryz.func28, Tryz.ntmps28
  go_upto_region 2 with fail
  have hl : min (max last 2) 400 ≤ 400 ∧ 2 ≤ min (max last 2) 400 := by omega
  have hm : min (max most 2) 400 ≤ 400 ∧ 2 ≤ min (max most 2) 400 := by omega
  generalize min (max last 2) 400 = l at *
  generalize min (max most 2) 400 = mo at *
  refine wp_gen (fun W => ∃ M, NwS w M (w.heap.size + 1) f m w.heap.size fv V l mo [] W ∧ ∀ k, k < w.heap.size → M k) ?_ ?_
  · have hb : Below w.heap.size w ((w.alloc (.map #[] 0)).alloc (.cells #[.pointer (some ⟨f, 0, none⟩), .map (some w.heap.size), .slice none 0 0, .slice none 0 0, .int .i64 l, .int .i64 mo] StoT)) := ((Below.refl _ _).alloc (Nat.le_refl _) _).alloc (by simp) _
    have hnil : ∀ W : World, RowAt W (.slice none 0 0) [] := fun W => ⟨⟨rfl, .inl ⟨rfl, rfl⟩⟩, Sp.Rise.nil⟩
    refine ⟨LowB ((w.alloc (.map #[] 0)).alloc (.cells #[.pointer (some ⟨f, 0, none⟩), .map (some w.heap.size), .slice none 0 0, .slice none 0 0, .int .i64 l, .int .i64 mo] StoT)), ⟨⟨⟨_, _, blk_second w _ _ _, hnil _, hnil _⟩, HF.out.go hb, ⟨[], ⟨#[], 0, ?_, rfl, ?_⟩, rfl⟩, ?_, ⟨?_, ?_⟩, fun k hk => hk⟩, hb⟩, fun k hk => ?_⟩
    · have := heap_alloc_new w (.map #[] 0)
      exact (((Below.refl _ _).alloc (Nat.le_refl _) _ : Below (w.alloc (.map #[] 0)).heap.size (w.alloc (.map #[] 0)) _).block _ (by rw [World.size_alloc]; omega)).trans this
    · simp [MapKept.Stamped]
    · have := HML.out; omega
    · show _ < _
      simp
    · show _ < _
      simp
      omega
    · show k < _
      simp
      omega
  rintro w1 ⟨M, hs, hMM⟩
  have S := Lib.hid hs
  have HMM := Lib.hid hMM
  clear hs hMM HF hmm
  go_wp2_with fail
  go_loopw [24] (fun i wr => ∃ j : Nat, i = .int .i64 j ∧ j ≤ L.length ∧ NwS w M (w.heap.size + 1) f m w.heap.size fv V l mo ((L.take j).foldl (Sp.newStep (min l mo)) []) wr) (fun i _ => L.length - (intOf i).toNat)
  case atStart => exact ⟨0, rfl, Nat.zero_le _, S.out⟩
  case round =>
    obtain ⟨j, rfl, hj, hs⟩ := hrel
    replace S := Lib.hid hs
    clear hs
    by_cases hjl : j < L.length
    · obtain ⟨b, off, rfl, _, hc⟩ := HA.out.at_ hjl
      have hx := (S.out.hb.cell (p := ⟨b, off + j, none⟩) (cell_lt' (hc j hjl))).trans (hc j hjl)
      have HTK := Lib.hid (show (L.take (j + 1)).foldl (Sp.newStep (min l mo)) [] = Sp.newStep (min l mo) ((L.take j).foldl (Sp.newStep (min l mo)) []) (L.getD j 0) from by
        rw [List.take_succ_eq_append_getElem hjl, List.foldl_append, List.foldl_cons, List.foldl_nil, List.getD_eq_getElem?_getD, List.getElem?_eq_getElem hjl]
        rfl)
      obtain ⟨uf, ua, hb, _, ha⟩ := S.out.st.bt
      have HT := Lib.hid hb
      have HU := Lib.hid ha
      have c3 : wr.cell? ⟨w.heap.size + 1, 3, none⟩ = some ua := hb.cell 3
      have c4 : wr.cell? ⟨w.heap.size + 1, 4, none⟩ = some (.int .i64 l) := hb.cell 4
      have c5 : wr.cell? ⟨w.heap.size + 1, 5, none⟩ = some (.int .i64 mo) := hb.cell 5
      have htw := hb.lt
      clear hb ha hc HA
      generalize (L.take j).foldl (Sp.newStep (min l mo)) [] = acc at *
      generalize L.getD j 0 = x at *
      go_upto_region 5 with fail
      by_cases h2 : 2 ≤ x
      · by_cases h4 : x < min l mo
        · have HST := Lib.hid (HTK.out.trans (if_pos ⟨h2, h4⟩))
          have hx4 : x < 400 := by omega
          go_region
          have HRI := Lib.hid HU.out.ok
          have S2 := Lib.hid (show NwS w M (w.heap.size + 1) f m w.heap.size fv V l mo acc wr.drew from ⟨S.out.st.go (Below.refl _ _).drew, below_drewN S.out.hb 1⟩)
          have HT2 := Lib.hid (show Blk wr.drew (w.heap.size + 1) StoT #[.pointer (some ⟨f, 0, none⟩), .map (some w.heap.size), uf, ua, .int .i64 l, .int .i64 mo] from HT.out)
          have HU2 := Lib.hid (HU.out.iv.go (Below.refl _ _).drew)
          have htw2 : w.heap.size + 1 < wr.drew.heap.size := htw
          have hmeas : wr.drew.heap.size = wr.heap.size := rfl
          clear c3 c4 c5 hx HT HU S htw hmeas
          generalize wr.drew = w3 at *
          have c3 : w3.cell? ⟨w.heap.size + 1, 3, none⟩ = some ua := HT2.out.cell 3
          go_wp2_with (go_at_call 65; refine (idsWith_any ua acc x w3 HU2.out HRI.out.1).mono ?_; rintro e w4 ⟨ru, rfl, ho, hb4⟩; obtain ⟨Ao, co, rfl⟩ := own_slice ho; have HO := Lib.hid ho; have HB4 := Lib.hid hb4; clear ho hb4; have c34 : w4.cell? ⟨w.heap.size + 1, 3, none⟩ = some ua := (HT2.out.below HB4.out htw2).cell 3; have f34 := (HT2.out.below HB4.out htw2).frozen 3)
          have hst := (S2.out.st.go HB4.out).avail_ (L := Sp.insI x acc) ⟨own_base HO.out (Nat.zero_le _), HRI.out.ins h2 hx4⟩
          have hb4 : Below w.heap.size w w4 := S2.out.hb.trans (HB4.out.mono (by have := S2.out.hb.size; omega))
          have hb5 : Below w.heap.size w (w4.setCell ⟨w.heap.size + 1, 3, none⟩ (.slice Ao (Sp.insI x acc).length co)) := hb4.trans ((Chg.set1 w4 (w.heap.size + 1) 3 _).below hb4.size (fun k hk e => by
            have e : k = w.heap.size + 1 := e
            omega))
          go_roundw
          case rel => exact ⟨j + 1, by go_num, by omega, by rw [HST.out]; exact ⟨hst, hb5⟩⟩
          case measure => simp [intOf]; omega
        · have HST := Lib.hid (HTK.out.trans (if_neg fun h => h4 h.2))
          go_region
          go_wp2_with fail
          go_roundw
          case rel => exact ⟨j + 1, by go_num, by omega, by rw [HST.out]; exact ⟨S.out.st.go (Below.refl _ _).drew, below_drewN S.out.hb 1⟩⟩
          case measure => simp [intOf]; omega
      · have HST := Lib.hid (HTK.out.trans (if_neg fun h => h2 h.1))
        go_region
        go_wp2_with fail
        go_roundw
        case rel => exact ⟨j + 1, by go_num, by omega, by rw [HST.out]; exact ⟨S.out.st.go (Below.refl _ _).drew, below_drewN S.out.hb 1⟩⟩
        case measure => simp [intOf]; omega
    · have hje : j = L.length := by omega
      subst hje
      have HNE2 := Lib.hid (show N = { d := [], freed := [], avail := (L.take L.length).foldl (Sp.newStep (min l mo)) [], last := l, most := mo } from by rw [List.take_length]; exact HNE.out)
      go_wp2_with fail
      go_ret
      exact ⟨w.heap.size + 1, w.heap.size, M, by simp, by rw [HNE2.out]; exact S.out.st, HMM.out, S.out.hb, by omega, Nat.le_refl _⟩
end Go.Proofs.YtkcfmjlcijhieaaGreat
