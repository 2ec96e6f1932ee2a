/- Reading values. Reading values: the whole. Reading: a root, an item. Reading: an item. Reading: an item, of kinds 3 and 4. Reading: an item, of whatever kind. -/
import Derived.Test.YtienlhckcpfknaaQB00
import Derived.Deep.RegionHeld3
set_option linter.unusedSimpArgs false
set_option linter.unusedVariables false
namespace Go.Proofs.Ytienlhckcpfknaa
open Go.RowKit
attribute [local go_sem low] mk_extract
attribute [local go_sem] After.cell After.frozen mk_extract_end ByteArray.mk_append_mk
/-- Cells in a row from A on, in a block of that element type, from block number base on, that is not frozen. -/
def TRow (w : World) (base : Nat) (e : TypeId) (A : Option Addr) (cs : List Value) : Prop :=
  cs.length ≤ 4611686018427387904 ∧ (cs = [] ∨ ∃ b off cur, A = some ⟨b, off, none⟩ ∧ base ≤ b ∧ Blk w b e cur ∧ ∀ j u, cs[j]? = some u → cur[off + j]? = some u)
theorem TRow.chg {S : Nat → Prop} {w w' : World} {base : Nat} {e : TypeId} {A : Option Addr} {cs : List Value} (h : TRow w base e A cs) (hk : Chg S w w') (hS : ∀ k, base ≤ k → S k → ∀ cs, ¬ Blk w k e cs) : TRow w' base e A cs := by
  refine ⟨h.1, ?_⟩
  rcases h.2 with h | ⟨b, off, cur, ha, hb, hB, hc⟩
  · exact .inl h
  · exact .inr ⟨b, off, cur, ha, hb, hB.chg hk (fun s => hS b hb s _ hB), hc⟩
theorem TRow.row {M : Nat → Prop} {w : World} {base : Nat} {e : TypeId} {A : Option Addr} {cs : List Value} (h : TRow w base e A cs) (hM : ∀ k, base ≤ k → ¬ M k) : Row w M A cs := by
  refine ⟨Nat.le_trans h.1 (by decide), ?_⟩
  rcases h.2 with h | ⟨b, off, cur, ha, hb, hB, hc⟩
  · exact .inl h
  · exact .inr ⟨b, off, ha, hB.lt, hM b hb, fun j u hu => (hB.cell _).trans (hc j u hu)⟩
theorem TRow.less {w : World} {base base' : Nat} {e : TypeId} {A : Option Addr} {cs : List Value} (h : TRow w base e A cs) (hb : base' ≤ base) : TRow w base' e A cs := by
  refine ⟨h.1, ?_⟩
  rcases h.2 with h | ⟨b, off, cur, ha, hb2, hB, hc⟩
  · exact .inl h
  · exact .inr ⟨b, off, cur, ha, by omega, hB, hc⟩
theorem TRow.of_own {w : World} {base : Nat} {e : TypeId} {size n : Nat} {A : Option Addr} {c : Nat} {xs : List Value} (h : w.ownsRow base e size (.slice A n c) n xs) (hl : xs.length ≤ 4611686018427387904) : TRow w base e A xs := by
  refine ⟨hl, ?_⟩
  obtain ⟨h1, h2⟩ := h
  rcases h2 with ⟨_, rfl⟩ | ⟨g, cap, cur, hv, hb, hB, _, _, _, ht⟩
  · left
    exact List.eq_nil_of_length_eq_zero (by simpa using h1)
  · right
    injection hv with hA _ _
    refine ⟨g, 0, cur, hA, hb, hB, fun j u hu => ?_⟩
    rw [← ht, List.getElem?_take] at hu
    split at hu
    · simpa using hu
    · cases hu
namespace Sp
theorem Cut.text_len (c : Cut) : c.text.2.s.length ≤ c.s.length := by
  have h1 := c.rest_len 2
  unfold Cut.text
  simp only
  split
  · exact h1
  · split
    · exact Nat.le_refl _
    · exact Nat.le_trans (Cut.rest_len _ _) h1
def textStep (l : List Txt) (c : Cut) : List Txt × Cut := (l ++ [c.text.1], c.text.2)
def Cut.vals (c : Cut) : List Txt × Cut := eachN textStep c.num.1.toNat ([], c.num.2)
theorem Cut.num_rng (c : Cut) : 0 ≤ c.num.1 ∧ c.num.1 ≤ 1073741824 := by
  have hl8 : (c.take 8).length ≤ 8 := by
    unfold Cut.take
    split
    · simp
    · simp; omega
  have := unle_lt8 _ hl8
  simp only [Cut.num]
  omega
end Sp
/-- What is so behind k values. -/
structure ValsI (g L R base : Nat) (w0 : World) (c1 : Sp.Cut) (k : Nat) (c : Sp.Cut) (w : World) : Prop where
  ex : ∃ l v, Sp.eachN Sp.textStep k ([], c1) = (l, c) ∧ l.length ≤ k ∧ Blk w L 23 #[v] ∧ w.ownsRow base StrT 1 v l.length (l.map tv)
  cut : CutAt w g c.s c.bad
  len : c.s.length ≤ 4611686018427387904
  box : Blk w R 75 #[.pointer (some ⟨g, 0, none⟩)]
  size : base ≤ w.heap.size
  chg : Chg (fun k => k = g ∨ w0.heap.size ≤ k) w0 w
theorem ValsI.below {g L R base : Nat} {w0 : World} {c1 : Sp.Cut} {k : Nat} {c : Sp.Cut} {w w' : World} (h : ValsI g L R base w0 c1 k c w) (hb : Below w.heap.size w w') : ValsI g L R base w0 c1 k c w' := by
  obtain ⟨l, v, he, hl, hL, ho⟩ := h.ex
  have hk : Chg NoM w w' := .of_below hb
  exact ⟨⟨l, v, he, hl, hL.chg hk id, own_chg ho hk (fun _ _ => id)⟩, h.cut.chg hk id, h.len, h.box.chg hk id, Nat.le_trans h.size hb.size, h.chg.trans (hk.mono (fun _ _ e => e.elim))⟩
theorem ValsI.next {g L R base : Nat} {w0 : World} {c1 : Sp.Cut} {k : Nat} {c : Sp.Cut} {w : World} (hgb : g < base) (hLb : L < base) (h0L : w0.heap.size ≤ L) (hb0 : w0.heap.size ≤ base) (hk30 : k ≤ 1073741823) (hbad : c.bad = false) (h : ValsI g L R base w0 c1 k c w) :
    Calls Try.prog 100 #[.pointer (some ⟨L, 0, none⟩), .pointer (some ⟨R, 0, none⟩)] w fun e w' => e = .returned (.tuple #[]) ∧ ∃ c', ValsI g L R base w0 c1 (k + 1) c' w' ∧ Rdk w w' := by
  obtain ⟨l, v, he, hl, hL, ho⟩ := h.ex
  refine (valsC_any g L R base l v c.s c.bad w h.len h.cut hL h.box ho hgb hLb h.size (by omega)).mono ?_
  rintro e w' ⟨rfl, v', hc', hL', ho', hk⟩
  have hst : Sp.eachN Sp.textStep (k + 1) ([], c1) = Sp.textStep l c := by
    rw [Sp.eachN_succ _ _ _ (by rw [he]; exact hbad), he]
  have hnot : ∀ i, (i = g ∨ i = L ∨ v.ownBlock = some i) → ∀ cs, ¬ Blk w i 75 cs := fun i hi => by
    rcases hi with rfl | rfl | hi
    · exact Blk.not_ (t := 109) h.cut (by decide)
    · exact Blk.not_ hL (by decide)
    · exact own_not ho (by decide) i hi
  refine ⟨rfl, c.text.2, ⟨⟨l ++ [c.text.1], v', hst, by simp; omega, hL', by simpa using ho'⟩, hc', Nat.le_trans c.text_len h.len, ?_, Nat.le_trans h.size hk.size, ?_⟩, Rdk.of hk hnot⟩
  · exact h.box.chg hk (fun s => hnot R s _ h.box)
  · refine Chg.step hk (fun i hi => ?_) h.chg
    rcases hi with rfl | rfl | hi
    · exact .inl (.inl rfl)
    · exact .inr h0L
    · exact .inr (Nat.le_trans hb0 (ho.lt i hi).1)
theorem callFunc_vals (cap : Array Value) (w : World) : (callFunc 100 cap).run Try.prog w = .ok (.enter 100 cap) w := by kernel_rfl
theorem Chg.of_drew {S : Nat → Prop} {w w' : World} (h : Chg S w.drew w') : Chg S w w' := ⟨h.os, h.tape, h.output, h.size, h.block⟩
theorem blk_second (w : World) (o : Obj) (t : TypeId) (cs : Array Value) : Blk ((w.alloc o).alloc (.cells cs t)) (w.heap.size + 1) t cs := by
  have := Blk.new (w.alloc o) t cs
  simpa using this
theorem own_form {w : World} {base : Nat} {e : TypeId} {size n : Nat} {v : Value} {xs : List Value} (h : w.ownsRow base e size v n xs) : ∃ A c, v = .slice A n c := by
  rcases h.2 with ⟨rfl, rfl⟩ | ⟨g, cap, cur, rfl, _⟩
  · exact ⟨none, 0, rfl⟩
  · exact ⟨_, _, rfl⟩
theorem ValsI.start {g : Nat} {w w1 : World} {c1 : Sp.Cut} (hg : g < w.heap.size) (hk : Chg (OneM g) ((w.alloc (.cells #[.pointer (some ⟨g, 0, none⟩)] 75)).alloc (.cells #[.slice none 0 0] 23)) w1)
    (hc : CutAt w1 g c1.s c1.bad) (hl : c1.s.length ≤ 4611686018427387904) : ValsI g (w.heap.size + 1) w.heap.size (w.heap.size + 2) w c1 0 c1 w1 := by
  have hz := hk.size
  simp only [World.size_alloc] at hz
  refine ⟨⟨[], .slice none 0 0, rfl, Nat.le_refl _, (blk_second w _ _ _).chg hk (by unfold OneM; omega), World.ownsRow_nil _ _ _ _⟩, hc, hl, ((Blk.new w _ _).alloc _).chg hk (by unfold OneM; omega), by omega, ?_⟩
  exact Chg.step hk (fun i hi => .inl (.inl hi)) (((Chg.refl _ _).alloc _).alloc _)
namespace Sp
theorem eachN_end {α : Type} {f : α → Cut → α × Cut} {s : α × Cut} {k n : Nat} (hk : k ≤ n) (h : k = n ∨ (eachN f k s).2.bad = true) : eachN f n s = eachN f k s := by
  rcases h with rfl | h
  · rfl
  · have := eachN_bad f s h (n - k)
    rwa [Nat.add_sub_cancel' hk] at this
end Sp
end Go.Proofs.Ytienlhckcpfknaa
namespace Go.Proofs.Ytienlhckcpfknaa
open Go.RowKit
attribute [local go_sem low] mk_extract
attribute [local go_sem] After.cell After.frozen mk_extract_end ByteArray.mk_append_mk
set_option maxRecDepth 100000 in
set_option maxHeartbeats 1600000 in
theorem rdVals_any (g : Nat) (s : Txt) (bad : Bool) (w : World) (hs : s.length ≤ 4611686018427387904) (hc : CutAt w g s bad) :
    Calls Try.prog 81 #[.agg #[.pointer (some ⟨g, 0, none⟩)]] w fun e w' => ∃ A c, e = .returned (.slice A (Sp.Cut.vals ⟨s, bad⟩).1.length c) ∧
      TRow w' w.heap.size StrT A ((Sp.Cut.vals ⟨s, bad⟩).1.map tv) ∧ CutAt w' g (Sp.Cut.vals ⟨s, bad⟩).2.s (Sp.Cut.vals ⟨s, bad⟩).2.bad ∧ Chg (OneM g) w w' := by
  have Hc := Lib.hid hc
  have hg := hc.lt
  clear hc
  have hmf : ∀ (fn : Fn) (first cap : Array Value) (w : World), (Instr.makeFunc fn first cap).run Try.prog w = .ok (.func fn first cap) w := fun _ _ _ _ => rfl
  obtain ⟨hr0, hr1⟩ := Sp.Cut.num_rng ⟨s, bad⟩
  go_enter Try.func81, Try.ntmps81
  go_wp2
  have hcl := Lib.hid (Sp.Cut.rest_len ⟨s, bad⟩ 8)
  go_region_held3 (fun w' => w'.cell? ⟨w.heap.size, 0, none⟩ = some (.pointer (some ⟨g, 0, none⟩))) (first | exact hbox2 | exact hbox1 | (simp [go_sem]; done)) (first
    | (go_at_call 75; refine (rdNum_any g s bad _ hs ?_).mono ?_; exact (Hc.out.alloc _).alloc _; rintro e w1 ⟨rfl, hc1, hk1⟩; have hI0 := Lib.hid (ValsI.start (c1 := (Sp.Cut.num ⟨s, bad⟩).2) hg (Chg.of_drew hk1) hc1 (Nat.le_trans hcl.out hs)); have hbox1 : w1.cell? ⟨w.heap.size, 0, none⟩ = some (.pointer (some ⟨g, 0, none⟩)) := by have := hI0.out.box.cell 0; simpa using this)
    | (go_at_call 76; refine (each_any _ hr0 hr1 g 100 _ (callFunc_vals _) (ValsI g (w.heap.size + 1) w.heap.size (w.heap.size + 2) w (Sp.Cut.num ⟨s, bad⟩).2) (fun k c w h => h.cut) (fun k c w w' h hb => h.below hb) (fun k c w2 hk hb h => h.next (by omega) (by omega) (by omega) (by omega) (by omega) hb) (Sp.Cut.num ⟨s, bad⟩).2 _ hI0.out).mono ?_; rintro e w2 ⟨rfl, k, c, hI, hkn, hend⟩; have hbox2 : w2.cell? ⟨w.heap.size, 0, none⟩ = some (.pointer (some ⟨g, 0, none⟩)) := by have := hI.box.cell 0; simpa using this))
  all_goals
    obtain ⟨l, v, he, hl, hL, ho⟩ := hI.ex
    obtain ⟨A, cp, rfl⟩ := own_form ho
    have HE := Lib.hid (show Sp.Cut.vals ⟨s, bad⟩ = (l, c) by
      unfold Sp.Cut.vals
      rw [Sp.eachN_end (k := k) (by omega) (by
        rcases hend with h | h
        · exact .inl (by omega)
        · exact .inr (by rw [he]; exact h)), he])
    have HT := Lib.hid (TRow.of_own ho (by simp; omega))
    have HC := Lib.hid hI.cut
    have HK := Lib.hid hI.chg
    have hL2 := hL.cell 0
    simp at hL2
    clear hI he hend ho hL
    go_wp2
    go_ret
    rw [HE.out]
    refine ⟨A, cp, rfl, HT.out.less (by omega), HC.out, HK.out.mono (fun i hi h => ?_)⟩
    rcases h with h | h
    · exact h
    · omega
end Go.Proofs.Ytienlhckcpfknaa
namespace Go.Proofs.Ytienlhckcpfknaa
open Go.RowKit
attribute [local go_sem low] mk_extract
attribute [local go_sem] After.cell After.frozen mk_extract_end ByteArray.mk_append_mk
theorem ccell {g : Nat} {W w1 : World} (h : Chg (OneM g) W w1) : (∀ b o, b < W.heap.size → ¬ b = g → w1.cell? ⟨b, o, none⟩ = W.cell? ⟨b, o, none⟩) ∧ (∀ b o, b < W.heap.size → ¬ b = g → w1.frozen? ⟨b, o, none⟩ = W.frozen? ⟨b, o, none⟩) :=
  ⟨fun _ _ hb hg => h.cell hb hg, fun _ _ hb hg => h.frozen hb hg⟩
namespace Sp
theorem Cut.num_len (c : Cut) : c.num.2.s.length ≤ c.s.length := c.rest_len 8
def Cut.root (c : Cut) : Root × Cut := (⟨c.num.1, c.num.2.num.1, c.num.2.num.2.num.1⟩, c.num.2.num.2.num.2)
theorem Cut.root_len (c : Cut) : c.root.2.s.length ≤ c.s.length := Nat.le_trans (Cut.num_len _) (Nat.le_trans (Cut.num_len _) (Cut.num_len _))
end Sp
/-- The cells of a block that is known whole, for the walk. -/
theorem Blk.at3 {w : World} {g : Nat} {t : TypeId} {a b c : Value} (h : Blk w g t #[a, b, c]) : (w.cell? ⟨g, 0, none⟩ = some a ∧ w.cell? ⟨g, 1, none⟩ = some b ∧ w.cell? ⟨g, 2, none⟩ = some c) ∧ w.frozen? ⟨g, 0, none⟩ = false ∧ w.frozen? ⟨g, 1, none⟩ = false ∧ w.frozen? ⟨g, 2, none⟩ = false := by
  refine ⟨⟨?_, ?_, ?_⟩, h.frozen 0, h.frozen 1, h.frozen 2⟩
  · simpa using h.cell 0
  · simpa using h.cell 1
  · simpa using h.cell 2
theorem Blk.at1 {w : World} {g : Nat} {t : TypeId} {a : Value} (h : Blk w g t #[a]) : w.cell? ⟨g, 0, none⟩ = some a := by simpa using h.cell 0
set_option maxRecDepth 100000 in
set_option maxHeartbeats 1600000 in
theorem rdRoot_any (g : Nat) (c : Sp.Cut) (w : World) (hs : c.s.length ≤ 4611686018427387904) (hc : CutAt w g c.s c.bad) :
    Calls Try.prog 84 #[.agg #[.pointer (some ⟨g, 0, none⟩)]] w fun e w' => e = .returned (.agg (rootV c.root.1).toArray) ∧ CutAt w' g c.root.2.s c.root.2.bad ∧ Chg (OneM g) w w' := by
  have Hc := Lib.hid hc
  have hg := hc.lt
  have hn0 : ¬ w.heap.size = g := by omega
  have hn1 : ¬ w.heap.size + 1 = g := by omega
  have h1 := Nat.le_trans c.num_len hs
  have h2 := Nat.le_trans c.num.2.num_len h1
  clear hc
  have B0 := Lib.hid ((Blk.new w 75 #[.pointer (some ⟨g, 0, none⟩)]).alloc (.cells #[.int .i64 0, .int .i64 0, .int .i64 0] 28))
  have L0 := Lib.hid (blk_second w (.cells #[.pointer (some ⟨g, 0, none⟩)] 75) 28 #[.int .i64 0, .int .i64 0, .int .i64 0])
  go_enter Try.func84, Try.ntmps84
  go_wp2_with fail
  refine (rdNum_any g c.s c.bad _ hs ((Hc.out.alloc _).alloc _)).mono ?_
  rintro e w1 ⟨rfl, hc1, hk1⟩
  have B1 := Lib.hid (B0.out.chg hk1 hn0)
  have L1 := Lib.hid (L0.out.chg hk1 hn1)
  have b1 := B1.out.at1
  have Hc1 := Lib.hid hc1
  clear hc1
  go_wp2_with fail
  refine (rdNum_any g c.num.2.s c.num.2.bad _ h1 Hc1.out).mono ?_
  rintro e w2 ⟨rfl, hc2, hk2⟩
  have B2 := Lib.hid (B1.out.chg hk2 hn0)
  have L2 := Lib.hid (L1.out.chg hk2 hn1)
  have b2 := B2.out.at1
  have Hc2 := Lib.hid hc2
  clear hc2
  go_wp2_with fail
  refine (rdNum_any g c.num.2.num.2.s c.num.2.num.2.bad _ h2 Hc2.out).mono ?_
  rintro e w3 ⟨rfl, hc3, hk3⟩
  obtain ⟨⟨l0, l1, l2⟩, f0, f1, f2⟩ := (L2.out.chg hk3 hn1).at3
  have Hc3 := Lib.hid hc3
  clear hc3
  have HK := Lib.hid (((Chg.trans (((Chg.refl _ _).alloc _).alloc _) hk1).trans hk2).trans hk3)
  clear hk1 hk2 hk3
  go_wp2
  refine bodyPost_ret (v := .agg (rootV c.root.1).toArray) (by simp [results, Try.results84, go_sem, l0, l1, l2, f0, f1, f2, rootV, Sp.Cut.root]) rfl ⟨rfl, ?_, ?_⟩
  · exact ((Hc3.out.far (p := ⟨w.heap.size + 1, 0, none⟩) (fun e => hn1 e.symm) _).far (p := ⟨w.heap.size + 1, 1, none⟩) (fun e => hn1 e.symm) _).far (p := ⟨w.heap.size + 1, 2, none⟩) (fun e => hn1 e.symm) _
  · exact ((HK.out.setCell (p := ⟨w.heap.size + 1, 0, none⟩) (.inr (by simp)) _).setCell (p := ⟨w.heap.size + 1, 1, none⟩) (.inr (by simp)) _).setCell (p := ⟨w.heap.size + 1, 2, none⟩) (.inr (by simp)) _
end Go.Proofs.Ytienlhckcpfknaa
namespace Go.Proofs.Ytienlhckcpfknaa
open Go.RowKit
attribute [local go_sem low] mk_extract
attribute [local go_sem] After.cell After.frozen mk_extract_end ByteArray.mk_append_mk
namespace Sp
theorem Cut.vals_len (c : Cut) : c.vals.2.s.length ≤ c.s.length := by
  have h : ∀ n : Nat, (eachN textStep n ([], c.num.2)).2.s.length ≤ c.num.2.s.length := by
    intro n
    induction n with
    | zero => exact Nat.le_refl _
    | succ n ih =>
      have e : eachN textStep (n + 1) ([], c.num.2) = if (eachN textStep n ([], c.num.2)).2.bad = true then eachN textStep n ([], c.num.2) else textStep (eachN textStep n ([], c.num.2)).1 (eachN textStep n ([], c.num.2)).2 := rfl
      rw [e]
      split
      · exact ih
      · exact Nat.le_trans (Cut.text_len _) ih
  exact Nat.le_trans (h _) c.num_len
def Cut.item (c : Cut) : Item × Cut :=
  if c.text.2.num.1 = 1 then (⟨c.text.1, c.text.2.num.1, c.text.2.num.2.text.1, 0, 0, [], 0, root0⟩, c.text.2.num.2.text.2)
  else if c.text.2.num.1 = 2 then (⟨c.text.1, c.text.2.num.1, [], c.text.2.num.2.num.1, c.text.2.num.2.num.2.num.1, [], 0, root0⟩, c.text.2.num.2.num.2.num.2)
  else if c.text.2.num.1 = 3 then (⟨c.text.1, c.text.2.num.1, [], 0, 0, c.text.2.num.2.vals.1, c.text.2.num.2.vals.2.num.1, root0⟩, c.text.2.num.2.vals.2.num.2)
  else if c.text.2.num.1 = 4 then (⟨c.text.1, c.text.2.num.1, [], 0, 0, [], 0, c.text.2.num.2.root.1⟩, c.text.2.num.2.root.2)
  else (⟨c.text.1, c.text.2.num.1, [], 0, 0, [], 0, root0⟩, c.text.2.num.2)
end Sp
theorem Blk.at10 {w : World} {g : Nat} {t : TypeId} {a b c d e f a' b' c' d' : Value} (h : Blk w g t #[a, b, c, d, e, f, a', b', c', d']) :
    (w.cell? ⟨g, 0, none⟩ = some a ∧ w.cell? ⟨g, 1, none⟩ = some b ∧ w.cell? ⟨g, 2, none⟩ = some c ∧ w.cell? ⟨g, 3, none⟩ = some d ∧ w.cell? ⟨g, 4, none⟩ = some e ∧ w.cell? ⟨g, 5, none⟩ = some f ∧ w.cell? ⟨g, 6, none⟩ = some a' ∧ w.cell? ⟨g, 7, none⟩ = some b' ∧ w.cell? ⟨g, 8, none⟩ = some c' ∧ w.cell? ⟨g, 9, none⟩ = some d') ∧
    (w.frozen? ⟨g, 0, none⟩ = false ∧ w.frozen? ⟨g, 1, none⟩ = false ∧ w.frozen? ⟨g, 2, none⟩ = false ∧ w.frozen? ⟨g, 3, none⟩ = false ∧ w.frozen? ⟨g, 4, none⟩ = false ∧ w.frozen? ⟨g, 5, none⟩ = false ∧ w.frozen? ⟨g, 6, none⟩ = false ∧ w.frozen? ⟨g, 7, none⟩ = false ∧ w.frozen? ⟨g, 8, none⟩ = false ∧ w.frozen? ⟨g, 9, none⟩ = false) := by
  refine ⟨⟨?_, ?_, ?_, ?_, ?_, ?_, ?_, ?_, ?_, ?_⟩, h.frozen 0, h.frozen 1, h.frozen 2, h.frozen 3, h.frozen 4, h.frozen 5, h.frozen 6, h.frozen 7, h.frozen 8, h.frozen 9⟩
  · simpa using h.cell 0
  · simpa using h.cell 1
  · simpa using h.cell 2
  · simpa using h.cell 3
  · simpa using h.cell 4
  · simpa using h.cell 5
  · simpa using h.cell 6
  · simpa using h.cell 7
  · simpa using h.cell 8
  · simpa using h.cell 9
set_option maxRecDepth 100000 in
set_option maxHeartbeats 1600000 in
theorem rdItem1 (g : Nat) (c : Sp.Cut) (w : World) (hs : c.s.length ≤ 4611686018427387904) (hc : CutAt w g c.s c.bad) (hkd : c.text.2.num.1 = 1) :
    Calls Try.prog 78 #[.agg #[.pointer (some ⟨g, 0, none⟩)]] w fun e w' => ∃ V cv, e = .returned (.agg (itemV c.item.1 V cv).toArray) ∧ TRow w' w.heap.size StrT V (c.item.1.vals.map tv) ∧ CutAt w' g c.item.2.s c.item.2.bad ∧ Chg (OneM g) w w' := by
  have Hc := Lib.hid hc
  have hg := hc.lt
  have hn0 : ¬ w.heap.size = g := by omega
  have hn1 : ¬ w.heap.size + 1 = g := by omega
  have l1 := Nat.le_trans c.text_len hs
  have l2 := Nat.le_trans c.text.2.num_len l1
  have HI := Lib.hid (show c.item = (⟨c.text.1, c.text.2.num.1, c.text.2.num.2.text.1, 0, 0, [], 0, Sp.root0⟩, c.text.2.num.2.text.2) by unfold Sp.Cut.item; rw [if_pos hkd])
  clear hc
  have B0 := Lib.hid ((Blk.new w 75 #[.pointer (some ⟨g, 0, none⟩)]).alloc (.cells #[.string ⟨#[]⟩, .int .i64 0, .string ⟨#[]⟩, .int .i64 0, .int .i64 0, .slice none 0 0, .int .i64 0, .int .i64 0, .int .i64 0, .int .i64 0] 51))
  have L0 := Lib.hid (blk_second w (.cells #[.pointer (some ⟨g, 0, none⟩)] 75) 51 #[.string ⟨#[]⟩, .int .i64 0, .string ⟨#[]⟩, .int .i64 0, .int .i64 0, .slice none 0 0, .int .i64 0, .int .i64 0, .int .i64 0, .int .i64 0])
  have b0 := B0.out.at1
  have e1 : (c.text.2.num.1 == 1) = true := by rw [beq_iff_eq]; omega
  clear hkd
  go_enter Try.func78, Try.ntmps78
  go_wp2_with fail
  refine (cutText_any g c.s c.bad _ hs ((Hc.out.alloc _).alloc _)).mono ?_
  rintro e w1 ⟨rfl, hc1, hk1⟩
  have B1 := Lib.hid ((B0.out.chg hk1 hn0).alloc (.cells #[.string ⟨c.text.1.toArray⟩, .int .i64 0, .string ⟨#[]⟩, .int .i64 0, .int .i64 0, .slice none 0 0, .int .i64 0, .int .i64 0, .int .i64 0, .int .i64 0] 51))
  have L1 := Lib.hid ((L0.out.chg hk1 hn1).alloc (.cells #[.string ⟨c.text.1.toArray⟩, .int .i64 0, .string ⟨#[]⟩, .int .i64 0, .int .i64 0, .slice none 0 0, .int .i64 0, .int .i64 0, .int .i64 0, .int .i64 0] 51))
  have b1 := (B0.out.chg hk1 hn0).at1
  have X1 := Lib.hid (Blk.new w1 51 #[.string ⟨c.text.1.toArray⟩, .int .i64 0, .string ⟨#[]⟩, .int .i64 0, .int .i64 0, .slice none 0 0, .int .i64 0, .int .i64 0, .int .i64 0, .int .i64 0])
  have Hc1 := Lib.hid (hc1.alloc (.cells #[.string ⟨c.text.1.toArray⟩, .int .i64 0, .string ⟨#[]⟩, .int .i64 0, .int .i64 0, .slice none 0 0, .int .i64 0, .int .i64 0, .int .i64 0, .int .i64 0] 51))
  have hz1 := hk1.size
  simp only [World.size_alloc] at hz1
  have hw1 : w.heap.size < w1.heap.size := by omega
  have hX : ¬ w1.heap.size = g := by omega
  have K1 := Lib.hid ((Chg.trans (((Chg.refl (OneM g) w).alloc _).alloc _) hk1).alloc (.cells #[.string ⟨c.text.1.toArray⟩, .int .i64 0, .string ⟨#[]⟩, .int .i64 0, .int .i64 0, .slice none 0 0, .int .i64 0, .int .i64 0, .int .i64 0, .int .i64 0] 51))
  clear hc1 hk1
  go_wp2_with fail
  refine (rdNum_any g c.text.2.s c.text.2.bad _ l1 Hc1.out).mono ?_
  rintro e w2 ⟨rfl, hc2, hk2⟩
  have B2 := Lib.hid (B1.out.chg hk2 hn0)
  have L2 := Lib.hid (L1.out.chg hk2 hn1)
  have X2 := Lib.hid (X1.out.chg hk2 hX)
  have b2 := B2.out.at1
  obtain ⟨⟨xa2, xb2, xc2, xd2, xe2, xf2, xg2, xh2, xi2, xj2⟩, ya2, yb2, yc2, yd2, ye2, yf2, yg2, yh2, yi2, yj2⟩ := X2.out.at10
  have Hc2 := Lib.hid hc2
  have K2 := Lib.hid (K1.out.trans hk2)
  have hxz2 : w1.heap.size < w2.heap.size := by have := hk2.size; simp only [World.size_alloc, World.size_setCell] at this; omega
  clear hc2 hk2
  have B2 := Lib.hid (B2.out.far (p := ⟨w1.heap.size, 1, none⟩) (by simp only; omega) (.int .i64 c.text.2.num.1))
  have L2 := Lib.hid (L2.out.far (p := ⟨w1.heap.size, 1, none⟩) (by simp only; omega) (.int .i64 c.text.2.num.1))
  have X2 := Lib.hid (X2.out.set_ 1 (.int .i64 c.text.2.num.1))
  have Hc2 := Lib.hid (Hc2.out.far (p := ⟨w1.heap.size, 1, none⟩) (fun e => hX e.symm) (.int .i64 c.text.2.num.1))
  have K2 := Lib.hid (K2.out.setCell (p := ⟨w1.heap.size, 1, none⟩) (.inr (by simp only; omega)) (.int .i64 c.text.2.num.1))
  go_wp2_with fail
  refine (cutText_any g c.text.2.num.2.s c.text.2.num.2.bad _ l2 Hc2.out).mono ?_
  rintro e w3 ⟨rfl, hc3, hk3⟩
  have B3 := Lib.hid (B2.out.chg hk3 hn0)
  have L3 := Lib.hid (L2.out.chg hk3 hn1)
  have X3 := Lib.hid (X2.out.chg hk3 hX)
  have b3 := B3.out.at1
  obtain ⟨⟨xa3, xb3, xc3, xd3, xe3, xf3, xg3, xh3, xi3, xj3⟩, ya3, yb3, yc3, yd3, ye3, yf3, yg3, yh3, yi3, yj3⟩ := X3.out.at10
  have Hc3 := Lib.hid hc3
  have K3 := Lib.hid (K2.out.trans hk3)
  have hxz3 : w1.heap.size < w3.heap.size := by have := hk3.size; simp only [World.size_alloc, World.size_setCell] at this; omega
  clear hc3 hk3
  have B3 := Lib.hid (B3.out.far (p := ⟨w1.heap.size, 2, none⟩) (by simp only; omega) (.string ⟨c.text.2.num.2.text.1.toArray⟩))
  have L3 := Lib.hid (L3.out.far (p := ⟨w1.heap.size, 2, none⟩) (by simp only; omega) (.string ⟨c.text.2.num.2.text.1.toArray⟩))
  have X3 := Lib.hid (X3.out.set_ 2 (.string ⟨c.text.2.num.2.text.1.toArray⟩))
  have Hc3 := Lib.hid (Hc3.out.far (p := ⟨w1.heap.size, 2, none⟩) (fun e => hX e.symm) (.string ⟨c.text.2.num.2.text.1.toArray⟩))
  have K3 := Lib.hid (K3.out.setCell (p := ⟨w1.heap.size, 2, none⟩) (.inr (by simp only; omega)) (.string ⟨c.text.2.num.2.text.1.toArray⟩))
  have l3 := Nat.le_trans c.text.2.num.2.text_len l2
  obtain ⟨⟨za, zb, zc, zd, ze, zf, zg, zh, zi, zj⟩, wa, wb, wc, wd, we, wf, wg, wh, wi, wj⟩ := L3.out.at10
  go_wp2
  rw [HI.out]
  refine bodyPost_ret (v := .agg (itemV (⟨c.text.1, c.text.2.num.1, c.text.2.num.2.text.1, 0, 0, [], 0, Sp.root0⟩, c.text.2.num.2.text.2).1 none 0).toArray) (by simp [results, Try.results78, go_sem, za, zb, zc, zd, ze, zf, zg, zh, zi, zj, wa, wb, wc, wd, we, wf, wg, wh, wi, wj, itemV, Sp.root0]) rfl ⟨none, 0, rfl, ?_, ?_, ?_⟩
  · exact ⟨by simp, .inl rfl⟩
  · unfold CutAt; iterate 10 (refine Blk.far ?_ (fun e => hn1 e.symm) _)
    exact Hc3.out
  · iterate 10 (refine Chg.setCell ?_ (.inr (by simp only; omega)) _)
    exact K3.out
set_option maxRecDepth 100000 in
set_option maxHeartbeats 1600000 in
theorem rdItem2 (g : Nat) (c : Sp.Cut) (w : World) (hs : c.s.length ≤ 4611686018427387904) (hc : CutAt w g c.s c.bad) (hkd : c.text.2.num.1 = 2) :
    Calls Try.prog 78 #[.agg #[.pointer (some ⟨g, 0, none⟩)]] w fun e w' => ∃ V cv, e = .returned (.agg (itemV c.item.1 V cv).toArray) ∧ TRow w' w.heap.size StrT V (c.item.1.vals.map tv) ∧ CutAt w' g c.item.2.s c.item.2.bad ∧ Chg (OneM g) w w' := by
  have Hc := Lib.hid hc
  have hg := hc.lt
  have hn0 : ¬ w.heap.size = g := by omega
  have hn1 : ¬ w.heap.size + 1 = g := by omega
  have l1 := Nat.le_trans c.text_len hs
  have l2 := Nat.le_trans c.text.2.num_len l1
  have HI := Lib.hid (show c.item = (⟨c.text.1, c.text.2.num.1, [], c.text.2.num.2.num.1, c.text.2.num.2.num.2.num.1, [], 0, Sp.root0⟩, c.text.2.num.2.num.2.num.2) by unfold Sp.Cut.item; rw [if_neg (by omega), if_pos hkd])
  clear hc
  have B0 := Lib.hid ((Blk.new w 75 #[.pointer (some ⟨g, 0, none⟩)]).alloc (.cells #[.string ⟨#[]⟩, .int .i64 0, .string ⟨#[]⟩, .int .i64 0, .int .i64 0, .slice none 0 0, .int .i64 0, .int .i64 0, .int .i64 0, .int .i64 0] 51))
  have L0 := Lib.hid (blk_second w (.cells #[.pointer (some ⟨g, 0, none⟩)] 75) 51 #[.string ⟨#[]⟩, .int .i64 0, .string ⟨#[]⟩, .int .i64 0, .int .i64 0, .slice none 0 0, .int .i64 0, .int .i64 0, .int .i64 0, .int .i64 0])
  have b0 := B0.out.at1
  have e1 : (c.text.2.num.1 == 1) = false := by rw [beq_eq_false_iff_ne]; omega
  have e2 : (c.text.2.num.1 == 2) = true := by rw [beq_iff_eq]; omega
  clear hkd
  go_enter Try.func78, Try.ntmps78
  go_wp2_with fail
  refine (cutText_any g c.s c.bad _ hs ((Hc.out.alloc _).alloc _)).mono ?_
  rintro e w1 ⟨rfl, hc1, hk1⟩
  have B1 := Lib.hid ((B0.out.chg hk1 hn0).alloc (.cells #[.string ⟨c.text.1.toArray⟩, .int .i64 0, .string ⟨#[]⟩, .int .i64 0, .int .i64 0, .slice none 0 0, .int .i64 0, .int .i64 0, .int .i64 0, .int .i64 0] 51))
  have L1 := Lib.hid ((L0.out.chg hk1 hn1).alloc (.cells #[.string ⟨c.text.1.toArray⟩, .int .i64 0, .string ⟨#[]⟩, .int .i64 0, .int .i64 0, .slice none 0 0, .int .i64 0, .int .i64 0, .int .i64 0, .int .i64 0] 51))
  have b1 := (B0.out.chg hk1 hn0).at1
  have X1 := Lib.hid (Blk.new w1 51 #[.string ⟨c.text.1.toArray⟩, .int .i64 0, .string ⟨#[]⟩, .int .i64 0, .int .i64 0, .slice none 0 0, .int .i64 0, .int .i64 0, .int .i64 0, .int .i64 0])
  have Hc1 := Lib.hid (hc1.alloc (.cells #[.string ⟨c.text.1.toArray⟩, .int .i64 0, .string ⟨#[]⟩, .int .i64 0, .int .i64 0, .slice none 0 0, .int .i64 0, .int .i64 0, .int .i64 0, .int .i64 0] 51))
  have hz1 := hk1.size
  simp only [World.size_alloc] at hz1
  have hw1 : w.heap.size < w1.heap.size := by omega
  have hX : ¬ w1.heap.size = g := by omega
  have K1 := Lib.hid ((Chg.trans (((Chg.refl (OneM g) w).alloc _).alloc _) hk1).alloc (.cells #[.string ⟨c.text.1.toArray⟩, .int .i64 0, .string ⟨#[]⟩, .int .i64 0, .int .i64 0, .slice none 0 0, .int .i64 0, .int .i64 0, .int .i64 0, .int .i64 0] 51))
  clear hc1 hk1
  go_wp2_with fail
  refine (rdNum_any g c.text.2.s c.text.2.bad _ l1 Hc1.out).mono ?_
  rintro e w2 ⟨rfl, hc2, hk2⟩
  have B2 := Lib.hid (B1.out.chg hk2 hn0)
  have L2 := Lib.hid (L1.out.chg hk2 hn1)
  have X2 := Lib.hid (X1.out.chg hk2 hX)
  have b2 := B2.out.at1
  obtain ⟨⟨xa2, xb2, xc2, xd2, xe2, xf2, xg2, xh2, xi2, xj2⟩, ya2, yb2, yc2, yd2, ye2, yf2, yg2, yh2, yi2, yj2⟩ := X2.out.at10
  have Hc2 := Lib.hid hc2
  have K2 := Lib.hid (K1.out.trans hk2)
  have hxz2 : w1.heap.size < w2.heap.size := by have := hk2.size; simp only [World.size_alloc, World.size_setCell] at this; omega
  clear hc2 hk2
  have B2 := Lib.hid (B2.out.far (p := ⟨w1.heap.size, 1, none⟩) (by simp only; omega) (.int .i64 c.text.2.num.1))
  have L2 := Lib.hid (L2.out.far (p := ⟨w1.heap.size, 1, none⟩) (by simp only; omega) (.int .i64 c.text.2.num.1))
  have X2 := Lib.hid (X2.out.set_ 1 (.int .i64 c.text.2.num.1))
  have Hc2 := Lib.hid (Hc2.out.far (p := ⟨w1.heap.size, 1, none⟩) (fun e => hX e.symm) (.int .i64 c.text.2.num.1))
  have K2 := Lib.hid (K2.out.setCell (p := ⟨w1.heap.size, 1, none⟩) (.inr (by simp only; omega)) (.int .i64 c.text.2.num.1))
  go_wp2_with fail
  refine (rdNum_any g c.text.2.num.2.s c.text.2.num.2.bad _ l2 Hc2.out).mono ?_
  rintro e w3 ⟨rfl, hc3, hk3⟩
  have B3 := Lib.hid (B2.out.chg hk3 hn0)
  have L3 := Lib.hid (L2.out.chg hk3 hn1)
  have X3 := Lib.hid (X2.out.chg hk3 hX)
  have b3 := B3.out.at1
  obtain ⟨⟨xa3, xb3, xc3, xd3, xe3, xf3, xg3, xh3, xi3, xj3⟩, ya3, yb3, yc3, yd3, ye3, yf3, yg3, yh3, yi3, yj3⟩ := X3.out.at10
  have Hc3 := Lib.hid hc3
  have K3 := Lib.hid (K2.out.trans hk3)
  have hxz3 : w1.heap.size < w3.heap.size := by have := hk3.size; simp only [World.size_alloc, World.size_setCell] at this; omega
  clear hc3 hk3
  have B3 := Lib.hid (B3.out.far (p := ⟨w1.heap.size, 3, none⟩) (by simp only; omega) (.int .i64 c.text.2.num.2.num.1))
  have L3 := Lib.hid (L3.out.far (p := ⟨w1.heap.size, 3, none⟩) (by simp only; omega) (.int .i64 c.text.2.num.2.num.1))
  have X3 := Lib.hid (X3.out.set_ 3 (.int .i64 c.text.2.num.2.num.1))
  have Hc3 := Lib.hid (Hc3.out.far (p := ⟨w1.heap.size, 3, none⟩) (fun e => hX e.symm) (.int .i64 c.text.2.num.2.num.1))
  have K3 := Lib.hid (K3.out.setCell (p := ⟨w1.heap.size, 3, none⟩) (.inr (by simp only; omega)) (.int .i64 c.text.2.num.2.num.1))
  have l3 := Nat.le_trans c.text.2.num.2.num_len l2
  go_wp2_with fail
  refine (rdNum_any g c.text.2.num.2.num.2.s c.text.2.num.2.num.2.bad _ l3 Hc3.out).mono ?_
  rintro e w4 ⟨rfl, hc4, hk4⟩
  have B4 := Lib.hid (B3.out.chg hk4 hn0)
  have L4 := Lib.hid (L3.out.chg hk4 hn1)
  have X4 := Lib.hid (X3.out.chg hk4 hX)
  have b4 := B4.out.at1
  obtain ⟨⟨xa4, xb4, xc4, xd4, xe4, xf4, xg4, xh4, xi4, xj4⟩, ya4, yb4, yc4, yd4, ye4, yf4, yg4, yh4, yi4, yj4⟩ := X4.out.at10
  have Hc4 := Lib.hid hc4
  have K4 := Lib.hid (K3.out.trans hk4)
  have hxz4 : w1.heap.size < w4.heap.size := by have := hk4.size; simp only [World.size_alloc, World.size_setCell] at this; omega
  clear hc4 hk4
  have B4 := Lib.hid (B4.out.far (p := ⟨w1.heap.size, 4, none⟩) (by simp only; omega) (.int .i64 c.text.2.num.2.num.2.num.1))
  have L4 := Lib.hid (L4.out.far (p := ⟨w1.heap.size, 4, none⟩) (by simp only; omega) (.int .i64 c.text.2.num.2.num.2.num.1))
  have X4 := Lib.hid (X4.out.set_ 4 (.int .i64 c.text.2.num.2.num.2.num.1))
  have Hc4 := Lib.hid (Hc4.out.far (p := ⟨w1.heap.size, 4, none⟩) (fun e => hX e.symm) (.int .i64 c.text.2.num.2.num.2.num.1))
  have K4 := Lib.hid (K4.out.setCell (p := ⟨w1.heap.size, 4, none⟩) (.inr (by simp only; omega)) (.int .i64 c.text.2.num.2.num.2.num.1))
  have l4 := Nat.le_trans c.text.2.num.2.num.2.num_len l3
  obtain ⟨⟨za, zb, zc, zd, ze, zf, zg, zh, zi, zj⟩, wa, wb, wc, wd, we, wf, wg, wh, wi, wj⟩ := L4.out.at10
  go_wp2
  rw [HI.out]
  refine bodyPost_ret (v := .agg (itemV (⟨c.text.1, c.text.2.num.1, [], c.text.2.num.2.num.1, c.text.2.num.2.num.2.num.1, [], 0, Sp.root0⟩, c.text.2.num.2.num.2.num.2).1 none 0).toArray) (by simp [results, Try.results78, go_sem, za, zb, zc, zd, ze, zf, zg, zh, zi, zj, wa, wb, wc, wd, we, wf, wg, wh, wi, wj, itemV, Sp.root0]) rfl ⟨none, 0, rfl, ?_, ?_, ?_⟩
  · exact ⟨by simp, .inl rfl⟩
  · unfold CutAt; iterate 10 (refine Blk.far ?_ (fun e => hn1 e.symm) _)
    exact Hc4.out
  · iterate 10 (refine Chg.setCell ?_ (.inr (by simp only; omega)) _)
    exact K4.out
end Go.Proofs.Ytienlhckcpfknaa
namespace Go.Proofs.Ytienlhckcpfknaa
open Go.RowKit
attribute [local go_sem low] mk_extract
attribute [local go_sem] After.cell After.frozen mk_extract_end ByteArray.mk_append_mk
set_option maxRecDepth 100000 in
set_option maxHeartbeats 1600000 in
theorem rdItem3 (g : Nat) (c : Sp.Cut) (w : World) (hs : c.s.length ≤ 4611686018427387904) (hc : CutAt w g c.s c.bad) (hkd : c.text.2.num.1 = 3) :
    Calls Try.prog 78 #[.agg #[.pointer (some ⟨g, 0, none⟩)]] w fun e w' => ∃ V cv, e = .returned (.agg (itemV c.item.1 V cv).toArray) ∧ TRow w' w.heap.size StrT V (c.item.1.vals.map tv) ∧ CutAt w' g c.item.2.s c.item.2.bad ∧ Chg (OneM g) w w' := by
  have Hc := Lib.hid hc
  have hg := hc.lt
  have hn0 : ¬ w.heap.size = g := by omega
  have hn1 : ¬ w.heap.size + 1 = g := by omega
  have l1 := Nat.le_trans c.text_len hs
  have l2 := Nat.le_trans c.text.2.num_len l1
  have HI := Lib.hid (show c.item = (⟨c.text.1, c.text.2.num.1, [], 0, 0, c.text.2.num.2.vals.1, c.text.2.num.2.vals.2.num.1, Sp.root0⟩, c.text.2.num.2.vals.2.num.2) by unfold Sp.Cut.item; rw [if_neg (by omega), if_neg (by omega), if_pos hkd])
  clear hc
  have B0 := Lib.hid ((Blk.new w 75 #[.pointer (some ⟨g, 0, none⟩)]).alloc (.cells #[.string ⟨#[]⟩, .int .i64 0, .string ⟨#[]⟩, .int .i64 0, .int .i64 0, .slice none 0 0, .int .i64 0, .int .i64 0, .int .i64 0, .int .i64 0] 51))
  have L0 := Lib.hid (blk_second w (.cells #[.pointer (some ⟨g, 0, none⟩)] 75) 51 #[.string ⟨#[]⟩, .int .i64 0, .string ⟨#[]⟩, .int .i64 0, .int .i64 0, .slice none 0 0, .int .i64 0, .int .i64 0, .int .i64 0, .int .i64 0])
  have b0 := B0.out.at1
  have e1 : (c.text.2.num.1 == 1) = false := by rw [beq_eq_false_iff_ne]; omega
  have e2 : (c.text.2.num.1 == 2) = false := by rw [beq_eq_false_iff_ne]; omega
  have e3 : (c.text.2.num.1 == 3) = true := by rw [beq_iff_eq]; omega
  clear hkd
  go_enter Try.func78, Try.ntmps78
  go_wp2_with fail
  refine (cutText_any g c.s c.bad _ hs ((Hc.out.alloc _).alloc _)).mono ?_
  rintro e w1 ⟨rfl, hc1, hk1⟩
  have B1 := Lib.hid ((B0.out.chg hk1 hn0).alloc (.cells #[.string ⟨c.text.1.toArray⟩, .int .i64 0, .string ⟨#[]⟩, .int .i64 0, .int .i64 0, .slice none 0 0, .int .i64 0, .int .i64 0, .int .i64 0, .int .i64 0] 51))
  have L1 := Lib.hid ((L0.out.chg hk1 hn1).alloc (.cells #[.string ⟨c.text.1.toArray⟩, .int .i64 0, .string ⟨#[]⟩, .int .i64 0, .int .i64 0, .slice none 0 0, .int .i64 0, .int .i64 0, .int .i64 0, .int .i64 0] 51))
  have b1 := (B0.out.chg hk1 hn0).at1
  have X1 := Lib.hid (Blk.new w1 51 #[.string ⟨c.text.1.toArray⟩, .int .i64 0, .string ⟨#[]⟩, .int .i64 0, .int .i64 0, .slice none 0 0, .int .i64 0, .int .i64 0, .int .i64 0, .int .i64 0])
  have Hc1 := Lib.hid (hc1.alloc (.cells #[.string ⟨c.text.1.toArray⟩, .int .i64 0, .string ⟨#[]⟩, .int .i64 0, .int .i64 0, .slice none 0 0, .int .i64 0, .int .i64 0, .int .i64 0, .int .i64 0] 51))
  have hz1 := hk1.size
  simp only [World.size_alloc] at hz1
  have hw1 : w.heap.size < w1.heap.size := by omega
  have hX : ¬ w1.heap.size = g := by omega
  have K1 := Lib.hid ((Chg.trans (((Chg.refl (OneM g) w).alloc _).alloc _) hk1).alloc (.cells #[.string ⟨c.text.1.toArray⟩, .int .i64 0, .string ⟨#[]⟩, .int .i64 0, .int .i64 0, .slice none 0 0, .int .i64 0, .int .i64 0, .int .i64 0, .int .i64 0] 51))
  clear hc1 hk1
  go_wp2_with fail
  refine (rdNum_any g c.text.2.s c.text.2.bad _ l1 Hc1.out).mono ?_
  rintro e w2 ⟨rfl, hc2, hk2⟩
  have B2 := Lib.hid (B1.out.chg hk2 hn0)
  have L2 := Lib.hid (L1.out.chg hk2 hn1)
  have X2 := Lib.hid (X1.out.chg hk2 hX)
  have b2 := B2.out.at1
  obtain ⟨⟨xa2, xb2, xc2, xd2, xe2, xf2, xg2, xh2, xi2, xj2⟩, ya2, yb2, yc2, yd2, ye2, yf2, yg2, yh2, yi2, yj2⟩ := X2.out.at10
  have Hc2 := Lib.hid hc2
  have K2 := Lib.hid (K1.out.trans hk2)
  have hxz2 : w1.heap.size < w2.heap.size := by have := hk2.size; simp only [World.size_alloc, World.size_setCell] at this; omega
  clear hc2 hk2
  have B2 := Lib.hid (B2.out.far (p := ⟨w1.heap.size, 1, none⟩) (by simp only; omega) (.int .i64 c.text.2.num.1))
  have L2 := Lib.hid (L2.out.far (p := ⟨w1.heap.size, 1, none⟩) (by simp only; omega) (.int .i64 c.text.2.num.1))
  have X2 := Lib.hid (X2.out.set_ 1 (.int .i64 c.text.2.num.1))
  have Hc2 := Lib.hid (Hc2.out.far (p := ⟨w1.heap.size, 1, none⟩) (fun e => hX e.symm) (.int .i64 c.text.2.num.1))
  have K2 := Lib.hid (K2.out.setCell (p := ⟨w1.heap.size, 1, none⟩) (.inr (by simp only; omega)) (.int .i64 c.text.2.num.1))
  go_wp2_with fail
  refine (rdVals_any g c.text.2.num.2.s c.text.2.num.2.bad _ l2 Hc2.out).mono ?_
  rintro e w3 ⟨A, cp, rfl, ht3, hc3, hk3⟩
  have B3 := Lib.hid (B2.out.chg hk3 hn0)
  have L3 := Lib.hid (L2.out.chg hk3 hn1)
  have X3 := Lib.hid (X2.out.chg hk3 hX)
  have b3 := B3.out.at1
  obtain ⟨⟨xa3, xb3, xc3, xd3, xe3, xf3, xg3, xh3, xi3, xj3⟩, ya3, yb3, yc3, yd3, ye3, yf3, yg3, yh3, yi3, yj3⟩ := X3.out.at10
  have Hc3 := Lib.hid hc3
  have K3 := Lib.hid (K2.out.trans hk3)
  have hxz3 : w1.heap.size < w3.heap.size := by have := hk3.size; simp only [World.size_alloc, World.size_setCell] at this; omega
  clear hc3 hk3
  obtain ⟨bs, hbs, HT3⟩ : ∃ bs, w1.heap.size < bs ∧ Hid (TRow w3 bs StrT A (c.text.2.num.2.vals.1.map tv)) := ⟨_, (by simp; omega), Lib.hid ht3⟩
  clear ht3
  have B3 := Lib.hid (B3.out.far (p := ⟨w1.heap.size, 5, none⟩) (by simp only; omega) (.slice A c.text.2.num.2.vals.1.length cp))
  have L3 := Lib.hid (L3.out.far (p := ⟨w1.heap.size, 5, none⟩) (by simp only; omega) (.slice A c.text.2.num.2.vals.1.length cp))
  have X3 := Lib.hid (X3.out.set_ 5 (.slice A c.text.2.num.2.vals.1.length cp))
  have Hc3 := Lib.hid (Hc3.out.far (p := ⟨w1.heap.size, 5, none⟩) (fun e => hX e.symm) (.slice A c.text.2.num.2.vals.1.length cp))
  have K3 := Lib.hid (K3.out.setCell (p := ⟨w1.heap.size, 5, none⟩) (.inr (by simp only; omega)) (.slice A c.text.2.num.2.vals.1.length cp))
  have HT3 := Lib.hid (HT3.out.chg (Chg.set1 _ w1.heap.size 5 (.slice A c.text.2.num.2.vals.1.length cp)) (fun k hb hi => by unfold OneM at hi; omega))
  have l3 := Nat.le_trans c.text.2.num.2.vals_len l2
  go_wp2_with fail
  refine (rdNum_any g c.text.2.num.2.vals.2.s c.text.2.num.2.vals.2.bad _ l3 Hc3.out).mono ?_
  rintro e w4 ⟨rfl, hc4, hk4⟩
  have B4 := Lib.hid (B3.out.chg hk4 hn0)
  have L4 := Lib.hid (L3.out.chg hk4 hn1)
  have X4 := Lib.hid (X3.out.chg hk4 hX)
  have b4 := B4.out.at1
  obtain ⟨⟨xa4, xb4, xc4, xd4, xe4, xf4, xg4, xh4, xi4, xj4⟩, ya4, yb4, yc4, yd4, ye4, yf4, yg4, yh4, yi4, yj4⟩ := X4.out.at10
  have Hc4 := Lib.hid hc4
  have K4 := Lib.hid (K3.out.trans hk4)
  have hxz4 : w1.heap.size < w4.heap.size := by have := hk4.size; simp only [World.size_alloc, World.size_setCell] at this; omega
  have HT4 := Lib.hid (HT3.out.chg hk4 (fun k hb hi => by unfold OneM at hi; omega))
  clear hc4 hk4
  have B4 := Lib.hid (B4.out.far (p := ⟨w1.heap.size, 6, none⟩) (by simp only; omega) (.int .i64 c.text.2.num.2.vals.2.num.1))
  have L4 := Lib.hid (L4.out.far (p := ⟨w1.heap.size, 6, none⟩) (by simp only; omega) (.int .i64 c.text.2.num.2.vals.2.num.1))
  have X4 := Lib.hid (X4.out.set_ 6 (.int .i64 c.text.2.num.2.vals.2.num.1))
  have Hc4 := Lib.hid (Hc4.out.far (p := ⟨w1.heap.size, 6, none⟩) (fun e => hX e.symm) (.int .i64 c.text.2.num.2.vals.2.num.1))
  have K4 := Lib.hid (K4.out.setCell (p := ⟨w1.heap.size, 6, none⟩) (.inr (by simp only; omega)) (.int .i64 c.text.2.num.2.vals.2.num.1))
  have HT4 := Lib.hid (HT4.out.chg (Chg.set1 _ w1.heap.size 6 (.int .i64 c.text.2.num.2.vals.2.num.1)) (fun k hb hi => by unfold OneM at hi; omega))
  have l4 := Nat.le_trans c.text.2.num.2.vals.2.num_len l3
  obtain ⟨⟨za, zb, zc, zd, ze, zf, zg, zh, zi, zj⟩, wa, wb, wc, wd, we, wf, wg, wh, wi, wj⟩ := L4.out.at10
  go_wp2
  rw [HI.out]
  refine bodyPost_ret (v := .agg (itemV (⟨c.text.1, c.text.2.num.1, [], 0, 0, c.text.2.num.2.vals.1, c.text.2.num.2.vals.2.num.1, Sp.root0⟩, c.text.2.num.2.vals.2.num.2).1 A cp).toArray) (by simp [results, Try.results78, go_sem, za, zb, zc, zd, ze, zf, zg, zh, zi, zj, wa, wb, wc, wd, we, wf, wg, wh, wi, wj, itemV, Sp.root0]) rfl ⟨A, cp, rfl, ?_, ?_, ?_⟩
  · refine TRow.less (base := bs) ?_ (by omega)
    iterate 10 (refine TRow.chg ?_ (Chg.set1 _ _ _ _) (fun k hb hi => by unfold OneM at hi; omega))
    exact HT4.out
  · unfold CutAt; iterate 10 (refine Blk.far ?_ (fun e => hn1 e.symm) _)
    exact Hc4.out
  · iterate 10 (refine Chg.setCell ?_ (.inr (by simp only; omega)) _)
    exact K4.out
set_option maxRecDepth 100000 in
set_option maxHeartbeats 1600000 in
theorem rdItem4 (g : Nat) (c : Sp.Cut) (w : World) (hs : c.s.length ≤ 4611686018427387904) (hc : CutAt w g c.s c.bad) (hkd : c.text.2.num.1 = 4) :
    Calls Try.prog 78 #[.agg #[.pointer (some ⟨g, 0, none⟩)]] w fun e w' => ∃ V cv, e = .returned (.agg (itemV c.item.1 V cv).toArray) ∧ TRow w' w.heap.size StrT V (c.item.1.vals.map tv) ∧ CutAt w' g c.item.2.s c.item.2.bad ∧ Chg (OneM g) w w' := by
  have Hc := Lib.hid hc
  have hg := hc.lt
  have hn0 : ¬ w.heap.size = g := by omega
  have hn1 : ¬ w.heap.size + 1 = g := by omega
  have l1 := Nat.le_trans c.text_len hs
  have l2 := Nat.le_trans c.text.2.num_len l1
  have HI := Lib.hid (show c.item = (⟨c.text.1, c.text.2.num.1, [], 0, 0, [], 0, c.text.2.num.2.root.1⟩, c.text.2.num.2.root.2) by unfold Sp.Cut.item; rw [if_neg (by omega), if_neg (by omega), if_neg (by omega), if_pos hkd])
  clear hc
  have B0 := Lib.hid ((Blk.new w 75 #[.pointer (some ⟨g, 0, none⟩)]).alloc (.cells #[.string ⟨#[]⟩, .int .i64 0, .string ⟨#[]⟩, .int .i64 0, .int .i64 0, .slice none 0 0, .int .i64 0, .int .i64 0, .int .i64 0, .int .i64 0] 51))
  have L0 := Lib.hid (blk_second w (.cells #[.pointer (some ⟨g, 0, none⟩)] 75) 51 #[.string ⟨#[]⟩, .int .i64 0, .string ⟨#[]⟩, .int .i64 0, .int .i64 0, .slice none 0 0, .int .i64 0, .int .i64 0, .int .i64 0, .int .i64 0])
  have b0 := B0.out.at1
  have e1 : (c.text.2.num.1 == 1) = false := by rw [beq_eq_false_iff_ne]; omega
  have e2 : (c.text.2.num.1 == 2) = false := by rw [beq_eq_false_iff_ne]; omega
  have e3 : (c.text.2.num.1 == 3) = false := by rw [beq_eq_false_iff_ne]; omega
  have e4 : (c.text.2.num.1 == 4) = true := by rw [beq_iff_eq]; omega
  clear hkd
  go_enter Try.func78, Try.ntmps78
  go_wp2_with fail
  refine (cutText_any g c.s c.bad _ hs ((Hc.out.alloc _).alloc _)).mono ?_
  rintro e w1 ⟨rfl, hc1, hk1⟩
  have B1 := Lib.hid ((B0.out.chg hk1 hn0).alloc (.cells #[.string ⟨c.text.1.toArray⟩, .int .i64 0, .string ⟨#[]⟩, .int .i64 0, .int .i64 0, .slice none 0 0, .int .i64 0, .int .i64 0, .int .i64 0, .int .i64 0] 51))
  have L1 := Lib.hid ((L0.out.chg hk1 hn1).alloc (.cells #[.string ⟨c.text.1.toArray⟩, .int .i64 0, .string ⟨#[]⟩, .int .i64 0, .int .i64 0, .slice none 0 0, .int .i64 0, .int .i64 0, .int .i64 0, .int .i64 0] 51))
  have b1 := (B0.out.chg hk1 hn0).at1
  have X1 := Lib.hid (Blk.new w1 51 #[.string ⟨c.text.1.toArray⟩, .int .i64 0, .string ⟨#[]⟩, .int .i64 0, .int .i64 0, .slice none 0 0, .int .i64 0, .int .i64 0, .int .i64 0, .int .i64 0])
  have Hc1 := Lib.hid (hc1.alloc (.cells #[.string ⟨c.text.1.toArray⟩, .int .i64 0, .string ⟨#[]⟩, .int .i64 0, .int .i64 0, .slice none 0 0, .int .i64 0, .int .i64 0, .int .i64 0, .int .i64 0] 51))
  have hz1 := hk1.size
  simp only [World.size_alloc] at hz1
  have hw1 : w.heap.size < w1.heap.size := by omega
  have hX : ¬ w1.heap.size = g := by omega
  have K1 := Lib.hid ((Chg.trans (((Chg.refl (OneM g) w).alloc _).alloc _) hk1).alloc (.cells #[.string ⟨c.text.1.toArray⟩, .int .i64 0, .string ⟨#[]⟩, .int .i64 0, .int .i64 0, .slice none 0 0, .int .i64 0, .int .i64 0, .int .i64 0, .int .i64 0] 51))
  clear hc1 hk1
  go_wp2_with fail
  refine (rdNum_any g c.text.2.s c.text.2.bad _ l1 Hc1.out).mono ?_
  rintro e w2 ⟨rfl, hc2, hk2⟩
  have B2 := Lib.hid (B1.out.chg hk2 hn0)
  have L2 := Lib.hid (L1.out.chg hk2 hn1)
  have X2 := Lib.hid (X1.out.chg hk2 hX)
  have b2 := B2.out.at1
  obtain ⟨⟨xa2, xb2, xc2, xd2, xe2, xf2, xg2, xh2, xi2, xj2⟩, ya2, yb2, yc2, yd2, ye2, yf2, yg2, yh2, yi2, yj2⟩ := X2.out.at10
  have Hc2 := Lib.hid hc2
  have K2 := Lib.hid (K1.out.trans hk2)
  have hxz2 : w1.heap.size < w2.heap.size := by have := hk2.size; simp only [World.size_alloc, World.size_setCell] at this; omega
  clear hc2 hk2
  have B2 := Lib.hid (B2.out.far (p := ⟨w1.heap.size, 1, none⟩) (by simp only; omega) (.int .i64 c.text.2.num.1))
  have L2 := Lib.hid (L2.out.far (p := ⟨w1.heap.size, 1, none⟩) (by simp only; omega) (.int .i64 c.text.2.num.1))
  have X2 := Lib.hid (X2.out.set_ 1 (.int .i64 c.text.2.num.1))
  have Hc2 := Lib.hid (Hc2.out.far (p := ⟨w1.heap.size, 1, none⟩) (fun e => hX e.symm) (.int .i64 c.text.2.num.1))
  have K2 := Lib.hid (K2.out.setCell (p := ⟨w1.heap.size, 1, none⟩) (.inr (by simp only; omega)) (.int .i64 c.text.2.num.1))
  go_wp2_with fail
  refine (rdRoot_any g c.text.2.num.2 _ l2 Hc2.out).mono ?_
  rintro e w3 ⟨rfl, hc3, hk3⟩
  simp only [rootV]
  have B3 := Lib.hid (B2.out.chg hk3 hn0)
  have L3 := Lib.hid (L2.out.chg hk3 hn1)
  have X3 := Lib.hid (X2.out.chg hk3 hX)
  have b3 := B3.out.at1
  obtain ⟨⟨xa3, xb3, xc3, xd3, xe3, xf3, xg3, xh3, xi3, xj3⟩, ya3, yb3, yc3, yd3, ye3, yf3, yg3, yh3, yi3, yj3⟩ := X3.out.at10
  have Hc3 := Lib.hid hc3
  have K3 := Lib.hid (K2.out.trans hk3)
  have hxz3 : w1.heap.size < w3.heap.size := by have := hk3.size; simp only [World.size_alloc, World.size_setCell] at this; omega
  clear hc3 hk3
  have B3 := Lib.hid (B3.out.far (p := ⟨w1.heap.size, 7, none⟩) (by simp only; omega) (.int .i64 c.text.2.num.2.root.1.page))
  have L3 := Lib.hid (L3.out.far (p := ⟨w1.heap.size, 7, none⟩) (by simp only; omega) (.int .i64 c.text.2.num.2.root.1.page))
  have X3 := Lib.hid (X3.out.set_ 7 (.int .i64 c.text.2.num.2.root.1.page))
  have Hc3 := Lib.hid (Hc3.out.far (p := ⟨w1.heap.size, 7, none⟩) (fun e => hX e.symm) (.int .i64 c.text.2.num.2.root.1.page))
  have K3 := Lib.hid (K3.out.setCell (p := ⟨w1.heap.size, 7, none⟩) (.inr (by simp only; omega)) (.int .i64 c.text.2.num.2.root.1.page))
  have B3 := Lib.hid (B3.out.far (p := ⟨w1.heap.size, 8, none⟩) (by simp only; omega) (.int .i64 c.text.2.num.2.root.1.count))
  have L3 := Lib.hid (L3.out.far (p := ⟨w1.heap.size, 8, none⟩) (by simp only; omega) (.int .i64 c.text.2.num.2.root.1.count))
  have X3 := Lib.hid (X3.out.set_ 8 (.int .i64 c.text.2.num.2.root.1.count))
  have Hc3 := Lib.hid (Hc3.out.far (p := ⟨w1.heap.size, 8, none⟩) (fun e => hX e.symm) (.int .i64 c.text.2.num.2.root.1.count))
  have K3 := Lib.hid (K3.out.setCell (p := ⟨w1.heap.size, 8, none⟩) (.inr (by simp only; omega)) (.int .i64 c.text.2.num.2.root.1.count))
  have B3 := Lib.hid (B3.out.far (p := ⟨w1.heap.size, 9, none⟩) (by simp only; omega) (.int .i64 c.text.2.num.2.root.1.flags))
  have L3 := Lib.hid (L3.out.far (p := ⟨w1.heap.size, 9, none⟩) (by simp only; omega) (.int .i64 c.text.2.num.2.root.1.flags))
  have X3 := Lib.hid (X3.out.set_ 9 (.int .i64 c.text.2.num.2.root.1.flags))
  have Hc3 := Lib.hid (Hc3.out.far (p := ⟨w1.heap.size, 9, none⟩) (fun e => hX e.symm) (.int .i64 c.text.2.num.2.root.1.flags))
  have K3 := Lib.hid (K3.out.setCell (p := ⟨w1.heap.size, 9, none⟩) (.inr (by simp only; omega)) (.int .i64 c.text.2.num.2.root.1.flags))
  have l3 := Nat.le_trans c.text.2.num.2.root_len l2
  obtain ⟨⟨za, zb, zc, zd, ze, zf, zg, zh, zi, zj⟩, wa, wb, wc, wd, we, wf, wg, wh, wi, wj⟩ := L3.out.at10
  go_wp2
  rw [HI.out]
  refine bodyPost_ret (v := .agg (itemV (⟨c.text.1, c.text.2.num.1, [], 0, 0, [], 0, c.text.2.num.2.root.1⟩, c.text.2.num.2.root.2).1 none 0).toArray) (by simp [results, Try.results78, go_sem, za, zb, zc, zd, ze, zf, zg, zh, zi, zj, wa, wb, wc, wd, we, wf, wg, wh, wi, wj, itemV, Sp.root0]) rfl ⟨none, 0, rfl, ?_, ?_, ?_⟩
  · exact ⟨by simp, .inl rfl⟩
  · unfold CutAt; iterate 10 (refine Blk.far ?_ (fun e => hn1 e.symm) _)
    exact Hc3.out
  · iterate 10 (refine Chg.setCell ?_ (.inr (by simp only; omega)) _)
    exact K3.out
end Go.Proofs.Ytienlhckcpfknaa
namespace Go.Proofs.Ytienlhckcpfknaa
open Go.RowKit
attribute [local go_sem low] mk_extract
attribute [local go_sem] After.cell After.frozen mk_extract_end ByteArray.mk_append_mk
set_option maxRecDepth 100000 in
set_option maxHeartbeats 1600000 in
theorem rdItem5 (g : Nat) (c : Sp.Cut) (w : World) (hs : c.s.length ≤ 4611686018427387904) (hc : CutAt w g c.s c.bad) (hkd : ¬ c.text.2.num.1 = 1 ∧ ¬ c.text.2.num.1 = 2 ∧ ¬ c.text.2.num.1 = 3 ∧ ¬ c.text.2.num.1 = 4) :
    Calls Try.prog 78 #[.agg #[.pointer (some ⟨g, 0, none⟩)]] w fun e w' => ∃ V cv, e = .returned (.agg (itemV c.item.1 V cv).toArray) ∧ TRow w' w.heap.size StrT V (c.item.1.vals.map tv) ∧ CutAt w' g c.item.2.s c.item.2.bad ∧ Chg (OneM g) w w' := by
  have Hc := Lib.hid hc
  have hg := hc.lt
  have hn0 : ¬ w.heap.size = g := by omega
  have hn1 : ¬ w.heap.size + 1 = g := by omega
  have l1 := Nat.le_trans c.text_len hs
  have l2 := Nat.le_trans c.text.2.num_len l1
  have HI := Lib.hid (show c.item = (⟨c.text.1, c.text.2.num.1, [], 0, 0, [], 0, Sp.root0⟩, c.text.2.num.2) by unfold Sp.Cut.item; rw [if_neg hkd.1, if_neg hkd.2.1, if_neg hkd.2.2.1, if_neg hkd.2.2.2])
  clear hc
  have B0 := Lib.hid ((Blk.new w 75 #[.pointer (some ⟨g, 0, none⟩)]).alloc (.cells #[.string ⟨#[]⟩, .int .i64 0, .string ⟨#[]⟩, .int .i64 0, .int .i64 0, .slice none 0 0, .int .i64 0, .int .i64 0, .int .i64 0, .int .i64 0] 51))
  have L0 := Lib.hid (blk_second w (.cells #[.pointer (some ⟨g, 0, none⟩)] 75) 51 #[.string ⟨#[]⟩, .int .i64 0, .string ⟨#[]⟩, .int .i64 0, .int .i64 0, .slice none 0 0, .int .i64 0, .int .i64 0, .int .i64 0, .int .i64 0])
  have b0 := B0.out.at1
  have e1 : (c.text.2.num.1 == 1) = false := by rw [beq_eq_false_iff_ne]; omega
  have e2 : (c.text.2.num.1 == 2) = false := by rw [beq_eq_false_iff_ne]; omega
  have e3 : (c.text.2.num.1 == 3) = false := by rw [beq_eq_false_iff_ne]; omega
  have e4 : (c.text.2.num.1 == 4) = false := by rw [beq_eq_false_iff_ne]; omega
  clear hkd
  go_enter Try.func78, Try.ntmps78
  go_wp2_with fail
  refine (cutText_any g c.s c.bad _ hs ((Hc.out.alloc _).alloc _)).mono ?_
  rintro e w1 ⟨rfl, hc1, hk1⟩
  have B1 := Lib.hid ((B0.out.chg hk1 hn0).alloc (.cells #[.string ⟨c.text.1.toArray⟩, .int .i64 0, .string ⟨#[]⟩, .int .i64 0, .int .i64 0, .slice none 0 0, .int .i64 0, .int .i64 0, .int .i64 0, .int .i64 0] 51))
  have L1 := Lib.hid ((L0.out.chg hk1 hn1).alloc (.cells #[.string ⟨c.text.1.toArray⟩, .int .i64 0, .string ⟨#[]⟩, .int .i64 0, .int .i64 0, .slice none 0 0, .int .i64 0, .int .i64 0, .int .i64 0, .int .i64 0] 51))
  have b1 := (B0.out.chg hk1 hn0).at1
  have X1 := Lib.hid (Blk.new w1 51 #[.string ⟨c.text.1.toArray⟩, .int .i64 0, .string ⟨#[]⟩, .int .i64 0, .int .i64 0, .slice none 0 0, .int .i64 0, .int .i64 0, .int .i64 0, .int .i64 0])
  have Hc1 := Lib.hid (hc1.alloc (.cells #[.string ⟨c.text.1.toArray⟩, .int .i64 0, .string ⟨#[]⟩, .int .i64 0, .int .i64 0, .slice none 0 0, .int .i64 0, .int .i64 0, .int .i64 0, .int .i64 0] 51))
  have hz1 := hk1.size
  simp only [World.size_alloc] at hz1
  have hw1 : w.heap.size < w1.heap.size := by omega
  have hX : ¬ w1.heap.size = g := by omega
  have K1 := Lib.hid ((Chg.trans (((Chg.refl (OneM g) w).alloc _).alloc _) hk1).alloc (.cells #[.string ⟨c.text.1.toArray⟩, .int .i64 0, .string ⟨#[]⟩, .int .i64 0, .int .i64 0, .slice none 0 0, .int .i64 0, .int .i64 0, .int .i64 0, .int .i64 0] 51))
  clear hc1 hk1
  go_wp2_with fail
  refine (rdNum_any g c.text.2.s c.text.2.bad _ l1 Hc1.out).mono ?_
  rintro e w2 ⟨rfl, hc2, hk2⟩
  have B2 := Lib.hid (B1.out.chg hk2 hn0)
  have L2 := Lib.hid (L1.out.chg hk2 hn1)
  have X2 := Lib.hid (X1.out.chg hk2 hX)
  have b2 := B2.out.at1
  obtain ⟨⟨xa2, xb2, xc2, xd2, xe2, xf2, xg2, xh2, xi2, xj2⟩, ya2, yb2, yc2, yd2, ye2, yf2, yg2, yh2, yi2, yj2⟩ := X2.out.at10
  have Hc2 := Lib.hid hc2
  have K2 := Lib.hid (K1.out.trans hk2)
  have hxz2 : w1.heap.size < w2.heap.size := by have := hk2.size; simp only [World.size_alloc, World.size_setCell] at this; omega
  clear hc2 hk2
  have B2 := Lib.hid (B2.out.far (p := ⟨w1.heap.size, 1, none⟩) (by simp only; omega) (.int .i64 c.text.2.num.1))
  have L2 := Lib.hid (L2.out.far (p := ⟨w1.heap.size, 1, none⟩) (by simp only; omega) (.int .i64 c.text.2.num.1))
  have X2 := Lib.hid (X2.out.set_ 1 (.int .i64 c.text.2.num.1))
  have Hc2 := Lib.hid (Hc2.out.far (p := ⟨w1.heap.size, 1, none⟩) (fun e => hX e.symm) (.int .i64 c.text.2.num.1))
  have K2 := Lib.hid (K2.out.setCell (p := ⟨w1.heap.size, 1, none⟩) (.inr (by simp only; omega)) (.int .i64 c.text.2.num.1))
  obtain ⟨⟨za, zb, zc, zd, ze, zf, zg, zh, zi, zj⟩, wa, wb, wc, wd, we, wf, wg, wh, wi, wj⟩ := L2.out.at10
  go_wp2
  rw [HI.out]
  refine bodyPost_ret (v := .agg (itemV (⟨c.text.1, c.text.2.num.1, [], 0, 0, [], 0, Sp.root0⟩, c.text.2.num.2).1 none 0).toArray) (by simp [results, Try.results78, go_sem, za, zb, zc, zd, ze, zf, zg, zh, zi, zj, wa, wb, wc, wd, we, wf, wg, wh, wi, wj, itemV, Sp.root0]) rfl ⟨none, 0, rfl, ?_, ?_, ?_⟩
  · exact ⟨by simp, .inl rfl⟩
  · unfold CutAt; iterate 10 (refine Blk.far ?_ (fun e => hn1 e.symm) _)
    exact Hc2.out
  · iterate 10 (refine Chg.setCell ?_ (.inr (by simp only; omega)) _)
    exact K2.out
theorem rdItem_any (g : Nat) (c : Sp.Cut) (w : World) (hs : c.s.length ≤ 4611686018427387904) (hc : CutAt w g c.s c.bad) :
    Calls Try.prog 78 #[.agg #[.pointer (some ⟨g, 0, none⟩)]] w fun e w' => ∃ V cv, e = .returned (.agg (itemV c.item.1 V cv).toArray) ∧ TRow w' w.heap.size StrT V (c.item.1.vals.map tv) ∧ CutAt w' g c.item.2.s c.item.2.bad ∧ Chg (OneM g) w w' := by
  by_cases h1 : c.text.2.num.1 = 1
  · exact rdItem1 g c w hs hc h1
  · by_cases h2 : c.text.2.num.1 = 2
    · exact rdItem2 g c w hs hc h2
    · by_cases h3 : c.text.2.num.1 = 3
      · exact rdItem3 g c w hs hc h3
      · by_cases h4 : c.text.2.num.1 = 4
        · exact rdItem4 g c w hs hc h4
        · exact rdItem5 g c w hs hc ⟨h1, h2, h3, h4⟩
theorem Sp.Cut.item_len (c : Sp.Cut) : c.item.2.s.length ≤ c.s.length := by
  have h0 := c.text_len
  have h1 := c.text.2.num_len
  have a1 := c.text.2.num.2.text_len
  have a2 := c.text.2.num.2.num_len
  have a3 := c.text.2.num.2.num.2.num_len
  have a4 := c.text.2.num.2.vals_len
  have a5 := c.text.2.num.2.vals.2.num_len
  have a6 := c.text.2.num.2.root_len
  unfold Sp.Cut.item
  split
  · simp only; omega
  · split
    · simp only; omega
    · split
      · simp only; omega
      · split
        · simp only; omega
        · simp only; omega
end Go.Proofs.Ytienlhckcpfknaa
