/- Reading: free pages of a transaction. Reading: free pages of a transaction, whole. Reading: the items of a leaf, one by one. Reading: keys and kids of a branch, one by one. More words for a walk: a load of a whole block under a guard. Pages that may be lost: what package file's functions do. -/
import Derived.Test.YtlpmjeiogdlifaaGreatQB00
import Derived.Test.YtlpmjeiogdlifaaGreatQB01
import Derived.Test.YtlpmjeiogdlifaaGreatQB02
import Derived.Deep.RegionHeld3
import Derived.Laws.Tables
import Derived.Laws.IdiomStrings
import Derived.Laws.BytesArg
import Derived.Laws.BitsAllLaws
import Derived.Deep.DeepCutAuto
import Derived.Outline
import Derived.MapKept
import Derived.RegionTactic
import Derived.BigRegion
set_option linter.unusedSimpArgs false
set_option linter.unusedVariables false
namespace Go.Proofs.YtlpmjeiogdlifaaGreat
open Go.RowKit
attribute [local go_sem low] mk_extract
attribute [local go_sem] After.cell After.frozen mk_extract_end ByteArray.mk_append_mk
theorem info_int : (Tryz.prog.info? 3).map (fun i => (i.zero, i.size, i.bytes)) = some (some (.int .i64 0), 1, 8) := by kernel_rfl
abbrev IntT : TypeId := 3
theorem Blk.at2 {w : World} {g : Nat} {t : TypeId} {a b : Value} (h : Blk w g t #[a, b]) : (w.cell? ⟨g, 0, none⟩ = some a ∧ w.cell? ⟨g, 1, none⟩ = some b) ∧ w.frozen? ⟨g, 0, none⟩ = false ∧ w.frozen? ⟨g, 1, none⟩ = false := by
  refine ⟨⟨?_, ?_⟩, h.frozen 0, h.frozen 1⟩
  · simpa using h.cell 0
  · simpa using h.cell 1
set_option maxRecDepth 100000 in
set_option maxHeartbeats 1600000 in
theorem freeC_any (g L R base : Nat) (l : List Int) (x v : Value) (s : Txt) (bad : Bool) (w : World) (hs : s.length ≤ 4611686018427387904) (hc : CutAt w g s bad) (hL : Blk w L 119 #[x, v])
    (hR : Blk w R 184 #[.pointer (some ⟨g, 0, none⟩)]) (own : w.ownsRow base IntT 1 v l.length (l.map iv)) (hgb : g < base) (hLb : L < base) (hbw : base ≤ w.heap.size) (hl : l.length ≤ 1073741824) :
    Calls Tryz.prog 222 #[.pointer (some ⟨L, 0, none⟩), .pointer (some ⟨R, 0, none⟩)] w fun e w' => e = .returned (.tuple #[]) ∧
      ∃ v', CutAt w' g (Sp.Cut.num ⟨s, bad⟩).2.s (Sp.Cut.num ⟨s, bad⟩).2.bad ∧ Blk w' L 119 #[x, v'] ∧
        w'.ownsRow base IntT 1 v' (l.length + 1) ((l ++ [(Sp.Cut.num ⟨s, bad⟩).1]).map iv) ∧ Chg (fun k => k = g ∨ k = L ∨ v.ownBlock = some k) w w' := by
  obtain ⟨i0, hi0, hz0, hz1, hz2⟩ := info_parts info_int
  have Hc := Lib.hid hc
  have Own := Lib.hid own
  have HL := Lib.hid hL
  have hLg : L ≠ g := fun e => Blk.not_ (t := 119) hL (by decide) _ (e ▸ hc)
  have hRg : R ≠ g := fun e => Blk.not_ (t := 184) hR (by decide) _ (e ▸ hc)
  obtain ⟨⟨hL0, hL1⟩, fL0, fL1⟩ := hL.at2
  have hR0 := hR.at1
  have HR := Lib.hid hR
  have hLw := hL.lt
  have hRw := hR.lt
  have hgw := Hc.out.lt
  clear hc own hL hR
  go_enter Tryz.func222, Tryz.ntmps222
  go_wp2
  go_region_law (first
    | (go_simp; go_at_call 172; refine (rdNum_any g s bad _ hs ?_).mono ?_; exact Hc.out.drew; rintro e w1 ⟨rfl, hc1, hk1⟩; have hk2 : Chg (OneM g) w w1 := Chg.trans ((Chg.refl _ _).drew) hk1; have HL1 := Lib.hid (HL.out.chg hk2 hLg); have qL := HL1.out.at2; have qL1 := qL.1.2; have fqL1 := qL.2.2; clear qL; have hzw := hk2.size; have hLw1 := Nat.lt_of_lt_of_le hLw hzw)
    | (refine step_append_lies _ rfl (.tmp 3) (.tmp 6) _ rfl base IntT i0 _ 1 8 Tryz.underlying32 hi0 hz0 hz1 hz2 rfl (by omega) v l.length (l.map iv) rfl ?_ _ 1 1 [iv (Sp.Cut.num ⟨s, bad⟩).1] rfl rfl ?_ ?_ (by omega) ?_ ?_ ?_ _ rfl ?_; (exact own_chg Own.out (hk2.alloc _) (fun k hk e => by unfold OneM at e; omega)); (exact cell_one_new _ _ _); (exact fun u hu => by rw [List.mem_singleton.1 hu]; rfl); (simp only [maxLen]; omega); (omega); (first | omega | (simp; done) | (simp; omega)); (intro g2 cap2 w4 hown4 hgr4 hat4 hlt4; have h4 := after_append Own.out hgr4 hLb HL1.out; have HL4 := Lib.hid h4.1; have hk4 := h4.2; clear h4; have qq := HL4.out.at2; have qL4 := qq.1.2; have fqL4 := qq.2.2; clear qq)))
  all_goals
    go_wp2
    go_end0
    refine ⟨rfl, .slice (some ⟨g2, 0, none⟩) (l.length + 1) cap2, ?_, ?_, ?_, ?_⟩
    · exact ((hc1.alloc _).chg hk4 (fun h => by have := (Own.out.lt _ h).1; omega)).far (p := ⟨L, 1, none⟩) (fun e => hLg e.symm) _
    · simpa using HL4.out.set_ 1 (.slice (some ⟨g2, 0, none⟩) (l.length + 1) cap2)
    · rw [List.map_append]; exact own_chg hown4 (Chg.set1 _ L 1 _) (fun k hk e => by unfold OneM at e; omega)
    · exact (Chg.step hk4 (fun i hi => .inl (.inr (.inr hi))) ((hk2.mono (T := fun k => k = g ∨ k = L ∨ v.ownBlock = some k) (fun k _ e => .inl e)).alloc _)).setCell (p := ⟨L, 1, none⟩) (.inl (.inr (.inl rfl))) _
namespace Sp
def numStep (l : List Int) (c : Cut) : List Int × Cut := (l ++ [c.num.1], c.num.2)
def Cut.u64 (c : Cut) : Int × Cut := (unle (c.take 8), c.rest 8)
def Cut.nums (c : Cut) : List Int × Cut := eachN numStep c.num.1.toNat ([], c.num.2)
def Cut.free (c : Cut) : Free × Cut := (⟨c.u64.1, c.u64.2.nums.1⟩, c.u64.2.nums.2)
theorem Cut.u64_len (c : Cut) : c.u64.2.s.length ≤ c.s.length := c.rest_len 8
theorem Cut.u64_rng (c : Cut) : 0 ≤ c.u64.1 ∧ c.u64.1 < 18446744073709551616 := by
  have hl8 : (c.take 8).length ≤ 8 := by
    unfold Cut.take
    split
    · simp
    · simp; omega
  exact unle_lt8 _ hl8
theorem eachN_len {α : Type} {f : α → Cut → α × Cut} (hf : ∀ a c, (f a c).2.s.length ≤ c.s.length) (s : α × Cut) : ∀ n, (eachN f n s).2.s.length ≤ s.2.s.length
  | 0 => Nat.le_refl _
  | n + 1 => by
    have ih := eachN_len hf s n
    have e : eachN f (n + 1) s = if (eachN f n s).2.bad = true then eachN f n s else f (eachN f n s).1 (eachN f n s).2 := rfl
    rw [e]
    split
    · exact ih
    · exact Nat.le_trans (hf _ _) ih
theorem Cut.free_len (c : Cut) : c.free.2.s.length ≤ c.s.length :=
  Nat.le_trans (eachN_len (f := numStep) (fun _ c => c.num_len) ([], c.u64.2.num.2) c.u64.2.num.1.toNat) (Nat.le_trans c.u64.2.num_len c.u64_len)
end Sp
structure NumsI (g L R base : Nat) (x : Value) (w0 : World) (c1 : Sp.Cut) (k : Nat) (c : Sp.Cut) (w : World) : Prop where
  ex : ∃ l v, Sp.eachN Sp.numStep k ([], c1) = (l, c) ∧ l.length ≤ k ∧ Blk w L 119 #[x, v] ∧ w.ownsRow base IntT 1 v l.length (l.map iv)
  cut : CutAt w g c.s c.bad
  len : c.s.length ≤ 4611686018427387904
  box : Blk w R 184 #[.pointer (some ⟨g, 0, none⟩)]
  size : base ≤ w.heap.size
  chg : Chg (fun k => k = g ∨ k = L ∨ base ≤ k) w0 w
theorem NumsI.below {g L R base : Nat} {x : Value} {w0 : World} {c1 : Sp.Cut} {k : Nat} {c : Sp.Cut} {w w' : World} (h : NumsI g L R base x w0 c1 k c w) (hb : Below w.heap.size w w') : NumsI g L R base x w0 c1 k c w' := by
  obtain ⟨l, v, he, hl, hL, ho⟩ := h.ex
  have hk : Chg NoM w w' := .of_below hb
  exact ⟨⟨l, v, he, hl, hL.chg hk id, own_chg ho hk (fun _ _ => id)⟩, h.cut.chg hk id, h.len, h.box.chg hk id, Nat.le_trans h.size hb.size, h.chg.trans (hk.mono (fun _ _ e => e.elim))⟩
theorem NumsI.next {g L R base : Nat} {x : Value} {w0 : World} {c1 : Sp.Cut} {k : Nat} {c : Sp.Cut} {w : World} (hgb : g < base) (hLb : L < base) (hk30 : k ≤ 1073741823) (hbad : c.bad = false) (h : NumsI g L R base x w0 c1 k c w) :
    Calls Tryz.prog 222 #[.pointer (some ⟨L, 0, none⟩), .pointer (some ⟨R, 0, none⟩)] w fun e w' => e = .returned (.tuple #[]) ∧ ∃ c', NumsI g L R base x w0 c1 (k + 1) c' w' ∧ Rdk w w' := by
  obtain ⟨l, v, he, hl, hL, ho⟩ := h.ex
  refine (freeC_any g L R base l x v c.s c.bad w h.len h.cut hL h.box ho hgb hLb h.size (by omega)).mono ?_
  rintro e w' ⟨rfl, v', hc', hL', ho', hk⟩
  have hst : Sp.eachN Sp.numStep (k + 1) ([], c1) = Sp.numStep l c := by
    rw [Sp.eachN_succ _ _ _ (by rw [he]; exact hbad), he]
  have hnot : ∀ i, (i = g ∨ i = L ∨ v.ownBlock = some i) → ∀ cs, ¬ Blk w i 184 cs := fun i hi => by
    rcases hi with rfl | rfl | hi
    · exact Blk.not_ (t := 238) h.cut (by decide)
    · exact Blk.not_ hL (by decide)
    · exact own_not ho (by decide) i hi
  refine ⟨rfl, c.num.2, ⟨⟨l ++ [c.num.1], v', hst, by simp; omega, hL', by simpa using ho'⟩, hc', Nat.le_trans c.num_len h.len, ?_, Nat.le_trans h.size hk.size, ?_⟩, Rdk.of hk hnot⟩
  · exact h.box.chg hk (fun s => hnot R s _ h.box)
  · refine Chg.step hk (fun i hi => .inl ?_) h.chg
    rcases hi with rfl | rfl | hi
    · exact .inl rfl
    · exact .inr (.inl rfl)
    · exact .inr (.inr (ho.lt i hi).1)
theorem callFunc_free (cap : Array Value) (w : World) : (callFunc 222 cap).run Tryz.prog w = .ok (.enter 222 cap) w := by kernel_rfl
end Go.Proofs.YtlpmjeiogdlifaaGreat
namespace Go.Proofs.YtlpmjeiogdlifaaGreat
open Go.RowKit
attribute [local go_sem low] mk_extract
attribute [local go_sem] After.cell After.frozen mk_extract_end ByteArray.mk_append_mk
theorem NumsI.start {g L R base : Nat} {x : Value} {w0 w1 : World} {c1 : Sp.Cut} (hk : Chg (OneM g) w0 w1) (hL : Blk w0 L 119 #[x, .slice none 0 0]) (hR : Blk w0 R 184 #[.pointer (some ⟨g, 0, none⟩)]) (hLg : L ≠ g) (hRg : R ≠ g)
    (hb : base ≤ w0.heap.size) (hc : CutAt w1 g c1.s c1.bad) (hl : c1.s.length ≤ 4611686018427387904) : NumsI g L R base x w0 c1 0 c1 w1 :=
  ⟨⟨[], .slice none 0 0, rfl, Nat.le_refl _, hL.chg hk hLg, World.ownsRow_nil _ _ _ _⟩, hc, hl, hR.chg hk hRg, Nat.le_trans hb hk.size, hk.mono (fun _ _ e => .inl e)⟩
set_option maxRecDepth 100000 in
set_option maxHeartbeats 1600000 in
theorem rdFree_any (g : Nat) (c : Sp.Cut) (w : World) (hs : c.s.length ≤ 4611686018427387904) (hc : CutAt w g c.s c.bad) :
    Calls Tryz.prog 180 #[.agg #[.pointer (some ⟨g, 0, none⟩)]] w fun e w' => ∃ A cp, e = .returned (.agg #[.int .u64 c.free.1.txn, .slice A c.free.1.ids.length cp]) ∧
      TRow w' w.heap.size IntT A (c.free.1.ids.map iv) ∧ CutAt w' g c.free.2.s c.free.2.bad ∧ Chg (OneM g) w w' := by
  have Hc := Lib.hid hc
  have hg := hc.lt
  have hn0 : ¬ w.heap.size = g := by omega
  have hn1 : ¬ w.heap.size + 1 = g := by omega
  have l1 := Nat.le_trans c.u64_len hs
  have l2 := Nat.le_trans c.u64.2.num_len l1
  have hmf : ∀ (fn : Fn) (first cap : Array Value) (w : World), (Instr.makeFunc fn first cap).run Tryz.prog w = .ok (.func fn first cap) w := fun _ _ _ _ => rfl
  obtain ⟨hr0, hr1⟩ := Sp.Cut.num_rng c.u64.2
  clear hc
  have B0 := Lib.hid ((Blk.new w 184 #[.pointer (some ⟨g, 0, none⟩)]).alloc (.cells #[.int .u64 0, .slice none 0 0] 119))
  have L0 := Lib.hid (blk_second w (.cells #[.pointer (some ⟨g, 0, none⟩)] 184) 119 #[.int .u64 0, .slice none 0 0])
  have b0 := B0.out.at1
  go_enter Tryz.func180, Tryz.ntmps180
  go_wp2_with fail
  refine (cutNum_any g c.s c.bad _ hs ((Hc.out.alloc _).alloc _)).mono ?_
  rintro e w1 ⟨rfl, hc1, hk1⟩
  have hz1 := hk1.size
  simp only [World.size_alloc] at hz1
  have K1 := Lib.hid (Chg.trans (((Chg.refl (OneM g) w).alloc _).alloc _) hk1)
  have hU : Sp.unle (Sp.Cut.take ⟨c.s, c.bad⟩ 8) = c.u64.1 := rfl
  have hV : Sp.Cut.rest ⟨c.s, c.bad⟩ 8 = c.u64.2 := rfl
  rw [hU]
  rw [hV] at hc1
  clear hU hV
  generalize hu : c.u64.1 = u at *
  have HU := Lib.hid hu
  clear hu
  have B1 := Lib.hid ((B0.out.chg hk1 hn0).alloc (.cells #[.int .u64 u, .slice none 0 0] 119))
  have L1 := Lib.hid ((L0.out.chg hk1 hn1).alloc (.cells #[.int .u64 u, .slice none 0 0] 119))
  have X1 := Lib.hid (Blk.new w1 119 #[.int .u64 u, .slice none 0 0])
  have Hc1 := Lib.hid (hc1.alloc (.cells #[.int .u64 u, .slice none 0 0] 119))
  have b1 := (B0.out.chg hk1 hn0).at1
  have hw1 : w.heap.size < w1.heap.size := by omega
  have hX : w1.heap.size ≠ g := by omega
  clear hc1 hk1
  go_wp2
  go_region_held3 (fun w' => w'.cell? ⟨w.heap.size, 0, none⟩ = some (.pointer (some ⟨g, 0, none⟩))) (first | exact hbox2 | exact hbox1 | (simp [go_sem, hw1, b1]; done)) (first
    | (go_at_call 172; refine (rdNum_any g c.u64.2.s c.u64.2.bad _ l1 ?_).mono ?_; exact Hc1.out; rintro e w3 ⟨rfl, hc3, hk3⟩; have hI0 := Lib.hid (NumsI.start (base := w1.heap.size + 1) (c1 := c.u64.2.num.2) (Chg.of_drew hk3) X1.out B1.out hX hn0 (by simp) hc3 l2); have hbox1 : w3.cell? ⟨w.heap.size, 0, none⟩ = some (.pointer (some ⟨g, 0, none⟩)) := hI0.out.box.at1)
    | (go_at_call 173; refine (each_any _ hr0 hr1 g 222 _ (callFunc_free _) (NumsI g w1.heap.size w.heap.size (w1.heap.size + 1) (.int .u64 u) (w1.alloc (.cells #[.int .u64 u, .slice none 0 0] 119)) c.u64.2.num.2) (fun k c w h => h.cut) (fun k c w w' h hb => h.below hb) (fun k c w2 hk hb h => h.next (by omega) (by omega) (by omega) hb) c.u64.2.num.2 _ hI0.out).mono ?_; rintro e w2 ⟨rfl, k, d, hI, hkn, hend⟩; have hbox2 : w2.cell? ⟨w.heap.size, 0, none⟩ = some (.pointer (some ⟨g, 0, none⟩)) := hI.box.at1))
  all_goals
    obtain ⟨l, v, he, hl, hL, ho⟩ := hI.ex
    obtain ⟨A, cp, rfl⟩ := own_form ho
    have hnums : c.u64.2.nums = (l, d) := by
      unfold Sp.Cut.nums
      rw [Sp.eachN_end (k := k) (by omega) (by
        rcases hend with h | h
        · exact .inl (by omega)
        · exact .inr (by rw [he]; exact h)), he]
    have HE := Lib.hid (show c.free = (⟨u, l⟩, d) by unfold Sp.Cut.free; rw [hnums, HU.out])
    have HT := Lib.hid (TRow.of_own ho (by simp; omega))
    have HC := Lib.hid hI.cut
    have HK := Lib.hid ((K1.out.mono (T := fun k => k = g) (fun _ _ e => e)).alloc (.cells #[.int .u64 u, .slice none 0 0] 119))
    have HK2 := Lib.hid (Chg.step (S := OneM g) hI.chg (fun i hi => by
      rcases hi with h | h | h
      · exact .inl h
      · exact .inr (by omega)
      · exact .inr (by omega)) HK.out)
    obtain ⟨⟨q0, q1⟩, p0, p1⟩ := hL.at2
    have L2 := L1.out.chg hI.chg (by omega)
    obtain ⟨⟨z0, z1⟩, y0, y1⟩ := L2.at2
    clear hI he hend ho hL hnums L2
    go_wp2
    rw [HE.out]
    refine bodyPost_ret (v := .agg #[.int .u64 u, .slice A l.length cp]) (by simp [results, Tryz.results180, go_sem, z0, z1, y0, y1]) rfl ⟨A, cp, rfl, ?_, ?_, ?_⟩
    · refine TRow.less (base := w1.heap.size + 1) ?_ (by omega)
      iterate 2 (refine TRow.chg ?_ (Chg.set1 _ _ _ _) (fun k hb hi => by unfold OneM at hi; omega))
      exact HT.out
    · unfold CutAt
      iterate 2 (refine Blk.far ?_ (fun e => hn1 e.symm) _)
      exact HC.out
    · iterate 2 (refine Chg.setCell ?_ (.inr (by simp only; omega)) _)
      exact HK2.out
end Go.Proofs.YtlpmjeiogdlifaaGreat
namespace Go.Proofs.YtlpmjeiogdlifaaGreat
open Go.RowKit
attribute [local go_sem low] mk_extract
attribute [local go_sem] After.cell After.frozen mk_extract_end ByteArray.mk_append_mk
theorem info_item : (Tryz.prog.info? 45).map (fun i => (i.zero, i.size, i.bytes)) = some (some (.agg (itemV Sp.item0 none 0).toArray), 10, 112) := by kernel_rfl
abbrev ItemT : TypeId := 45
abbrev PageT : TypeId := 59
def ItCells (w : World) (b0 : Nat) : List Sp.Item → List Value → Prop
  | [], xs => xs = []
  | x :: l, xs => ∃ V c ys, xs = itemV x V c ++ ys ∧ TRow w b0 StrT V (x.vals.map tv) ∧ ItCells w b0 l ys
theorem ItCells.chg {S : Nat → Prop} {w w' : World} {b0 : Nat} (hk : Chg S w w') (hS : ∀ k, b0 ≤ k → S k → ∀ cs, ¬ Blk w k StrT cs) : ∀ {l : List Sp.Item} {xs : List Value}, ItCells w b0 l xs → ItCells w' b0 l xs
  | [], _, h => h
  | _ :: _, _, ⟨V, c, ys, e, ht, h⟩ => ⟨V, c, ys, e, ht.chg hk hS, h.chg hk hS⟩
theorem ItCells.snoc {w : World} {b0 : Nat} {x : Sp.Item} {V : Option Addr} {c : Nat} (ht : TRow w b0 StrT V (x.vals.map tv)) : ∀ {l : List Sp.Item} {xs : List Value}, ItCells w b0 l xs → ItCells w b0 (l ++ [x]) (xs ++ itemV x V c)
  | [], xs, h => ⟨V, c, [], by rw [show xs = [] from h]; simp, ht, rfl⟩
  | _ :: _, _, ⟨V', c', ys, e, ht', h⟩ => ⟨V', c', ys ++ itemV x V c, by rw [e]; simp, ht', h.snoc ht⟩
theorem ItCells.len {w : World} {b0 : Nat} : ∀ {l : List Sp.Item} {xs : List Value}, ItCells w b0 l xs → xs.length = l.length * 10
  | [], _, h => by rw [show _ = [] from h]; rfl
  | _ :: l, _, ⟨V, c, ys, e, _, h⟩ => by
    rw [e, List.length_append, h.len]
    simp [itemV]
    omega
theorem ItCells.at_ {w : World} {b0 : Nat} : ∀ {l : List Sp.Item} {xs : List Value}, ItCells w b0 l xs → ∀ k, k < l.length → ∃ V c, TRow w b0 StrT V ((l.getD k Sp.item0).vals.map tv) ∧ ∀ j u, (itemV (l.getD k Sp.item0) V c)[j]? = some u → xs[k * 10 + j]? = some u
  | [], _, _, k, hk => absurd hk (by simp)
  | x :: l, _, ⟨V, c, ys, e, ht, h⟩, 0, _ => ⟨V, c, ht, fun j u hu => by
      rw [e, Nat.zero_mul, Nat.zero_add, List.getElem?_append_left]
      · exact hu
      · exact (List.getElem?_eq_some_iff.1 hu).1⟩
  | x :: l, _, ⟨V, c, ys, e, ht, h⟩, k + 1, hk => by
    obtain ⟨V', c', ht', hc⟩ := h.at_ k (by simpa using hk)
    refine ⟨V', c', by simpa using ht', fun j u hu => ?_⟩
    have := hc j u (by simpa using hu)
    rw [e, List.getElem?_append_right (by simp [itemV]; omega)]
    have e2 : (k + 1) * 10 + j - (itemV x V c).length = k * 10 + j := by simp [itemV]; omega
    rw [e2]
    exact this
theorem news_of (w : World) (cs : Array Value) (t : TypeId) : ∀ j u, cs.toList[j]? = some u → (w.alloc (.cells cs t)).cell? ((⟨w.heap.size, 0, none⟩ : Addr).add j) = some u :=
  World.news_of_block (heap_alloc_new w _)
set_option maxRecDepth 100000 in
set_option maxHeartbeats 1600000 in
theorem pageC1_any (g L R base : Nat) (n : Nat) (cs : Array Value) (v : Value) (xs : List Value) (c : Sp.Cut) (w : World) (hs : c.s.length ≤ 4611686018427387904) (hc : CutAt w g c.s c.bad) (hL : Blk w L PageT cs) (hv : cs[1]? = some v)
    (hR : Blk w R 184 #[.pointer (some ⟨g, 0, none⟩)]) (own : w.ownsRow base ItemT 10 v n xs) (hgb : g < base) (hLb : L < base) (hbw : base ≤ w.heap.size) (hn : n ≤ 1073741824) :
    Calls Tryz.prog 174 #[.pointer (some ⟨L, 0, none⟩), .pointer (some ⟨R, 0, none⟩)] w fun e w' => e = .returned (.tuple #[]) ∧
      ∃ v' V cv, CutAt w' g c.item.2.s c.item.2.bad ∧ Blk w' L PageT (cs.setIfInBounds 1 v') ∧ TRow w' w.heap.size StrT V (c.item.1.vals.map tv) ∧
        w'.ownsRow base ItemT 10 v' (n + 1) (xs ++ itemV c.item.1 V cv) ∧ Chg (fun k => k = g ∨ k = L ∨ v.ownBlock = some k) w w' := by
  obtain ⟨i0, hi0, hz0, hz1, hz2⟩ := info_parts info_item
  have Hc := Lib.hid hc
  have Own := Lib.hid own
  have HL := Lib.hid hL
  have HV := Lib.hid hv
  have hLg : L ≠ g := fun e => Blk.not_ (t := PageT) hL (by decide) _ (e ▸ hc)
  have hL1 := (hL.cell 1).trans hv
  have hR0 := hR.at1
  have hLw := hL.lt
  have hgw := Hc.out.lt
  clear hc own hL hR hv
  go_enter Tryz.func174, Tryz.ntmps174
  go_wp2
  go_region_law (first
    | (go_simp; go_at_call 175; refine (rdItem_any g c _ hs ?_).mono ?_; exact Hc.out.drew; rintro e w1 ⟨V, cv, rfl, ht1, hc1, hk1⟩; have hk2 : Chg (OneM g) w w1 := Chg.trans ((Chg.refl _ _).drew) hk1; have HT1 : Hid (TRow w1 w.heap.size StrT V (c.item.1.vals.map tv)) := Lib.hid ht1; clear ht1; have HL1 := Lib.hid (HL.out.chg hk2 hLg); have qL1 := (HL1.out.cell 1).trans HV.out; have fqL1 := HL1.out.frozen 1; have hzw := hk2.size; have hLw1 := Nat.lt_of_lt_of_le hLw hzw; simp only [itemV])
    | (refine step_append_lies _ rfl (.tmp 3) (.tmp 6) _ rfl base ItemT i0 _ 10 112 Tryz.underlying36 hi0 hz0 hz1 hz2 rfl (by omega) v n xs rfl ?_ _ 1 1 (itemV c.item.1 V cv) rfl rfl ?_ ?_ (by omega) ?_ ?_ ?_ _ rfl ?_; (exact own_chg Own.out (hk2.alloc _) (fun k hk e => by unfold OneM at e; omega)); (exact news_of _ _ _); (exact fun u hu => by simp only [itemV, List.mem_cons, List.not_mem_nil, or_false] at hu; rcases hu with rfl | rfl | rfl | rfl | rfl | rfl | rfl | rfl | rfl | rfl <;> rfl); (simp only [maxLen]; omega); (omega); (first | omega | (simp; done) | (simp; omega)); (intro g2 cap2 w4 hown4 hgr4 hat4 hlt4; have h4 := after_append Own.out hgr4 hLb HL1.out; have HL4 := Lib.hid h4.1; have hk4 := h4.2; clear h4; have qL4 := (HL4.out.cell 1).trans HV.out; have fqL4 := HL4.out.frozen 1)))
  all_goals
    go_wp2
    go_end0
    refine ⟨rfl, .slice (some ⟨g2, 0, none⟩) (n + 1) cap2, V, cv, ?_, ?_, ?_, ?_, ?_⟩
    · exact ((hc1.alloc _).chg hk4 (fun h => by have := (Own.out.lt _ h).1; omega)).far (p := ⟨L, 1, none⟩) (fun e => hLg e.symm) _
    · exact HL4.out.set_ 1 (.slice (some ⟨g2, 0, none⟩) (n + 1) cap2)
    · have hA := (Chg.refl NoM w1).alloc (.cells (itemV c.item.1 V cv).toArray ItemT)
      refine ((HT1.out.chg hA (fun _ _ h => h.elim)).chg hk4 (fun k hb hk => ?_)).chg (Chg.set1 w4 L 1 _) (fun k hb hi => by unfold OneM at hi; omega)
      exact own_not (own_chg Own.out (hk2.alloc _) (fun k hk e => by unfold OneM at e; omega)) (by decide) k hk
    · exact own_chg hown4 (Chg.set1 _ L 1 _) (fun k hk e => by unfold OneM at e; omega)
    · exact (Chg.step hk4 (fun i hi => .inl (.inr (.inr hi))) ((hk2.mono (T := fun k => k = g ∨ k = L ∨ v.ownBlock = some k) (fun k _ e => .inl e)).alloc _)).setCell (p := ⟨L, 1, none⟩) (.inl (.inr (.inl rfl))) _
end Go.Proofs.YtlpmjeiogdlifaaGreat
namespace Go.Proofs.YtlpmjeiogdlifaaGreat
open Go.RowKit
attribute [local go_sem low] mk_extract
attribute [local go_sem] After.cell After.frozen mk_extract_end ByteArray.mk_append_mk
theorem own_chg2 {S : Nat → Prop} {w w' : World} {base : Nat} {e : TypeId} {size : Nat} {v : Value} {n : Nat} {xs : List Value} (h : w.ownsRow base e size v n xs) (hk : Chg S w w') (hS : ∀ k, v.ownBlock = some k → ¬ S k) : w'.ownsRow base e size v n xs := by
  obtain ⟨h1, h2⟩ := h
  refine ⟨h1, ?_⟩
  rcases h2 with h2 | ⟨g, cap, cur, hv, hg, hh, r⟩
  · exact Or.inl h2
  · exact Or.inr ⟨g, cap, cur, hv, hg, by rw [hk.block g (Array.getElem?_eq_some_iff.1 hh).1 (hS g (by rw [hv]; rfl))]; exact hh, r⟩
set_option maxRecDepth 100000 in
set_option maxHeartbeats 1600000 in
theorem pageC2_any (g L R base : Nat) (l : List Txt) (l2 : List Int) (cs : Array Value) (v v2 : Value) (c : Sp.Cut) (w : World) (hs : c.s.length ≤ 4611686018427387904) (hc : CutAt w g c.s c.bad) (hL : Blk w L PageT cs) (hv : cs[2]? = some v) (hv2 : cs[3]? = some v2)
    (hR : Blk w R 184 #[.pointer (some ⟨g, 0, none⟩)]) (own : w.ownsRow base StrT 1 v l.length (l.map tv)) (own2 : w.ownsRow base IntT 1 v2 l2.length (l2.map iv)) (hgb : g < base) (hLb : L < base) (hbw : base ≤ w.heap.size) (hn : l.length ≤ 1073741824) (hn2 : l2.length ≤ 1073741824) :
    Calls Tryz.prog 176 #[.pointer (some ⟨L, 0, none⟩), .pointer (some ⟨R, 0, none⟩)] w fun e w' => e = .returned (.tuple #[]) ∧
      ∃ v' v2', CutAt w' g c.text.2.num.2.s c.text.2.num.2.bad ∧ Blk w' L PageT ((cs.setIfInBounds 2 v').setIfInBounds 3 v2') ∧
        w'.ownsRow base StrT 1 v' (l.length + 1) ((l ++ [c.text.1]).map tv) ∧ w'.ownsRow base IntT 1 v2' (l2.length + 1) ((l2 ++ [c.text.2.num.1]).map iv) ∧ Chg (fun k => k = g ∨ k = L ∨ v.ownBlock = some k ∨ v2.ownBlock = some k) w w' := by
  obtain ⟨i0, hi0, hz0, hz1, hz2⟩ := info_parts info_str
  obtain ⟨i2, hi2, hy0, hy1, hy2⟩ := info_parts info_int
  have Hc := Lib.hid hc
  have Own := Lib.hid own
  have Own2 := Lib.hid own2
  have HL := Lib.hid hL
  have HV := Lib.hid hv
  have HV2 := Lib.hid hv2
  have hLg : L ≠ g := fun e => Blk.not_ (t := PageT) hL (by decide) _ (e ▸ hc)
  have hRg : R ≠ g := fun e => Blk.not_ (t := 184) hR (by decide) _ (e ▸ hc)
  have hRL : R ≠ L := fun e => Blk.not_ (t := 184) hR (by decide) _ (e ▸ hL)
  have hRv : v.ownBlock ≠ some R := fun e => own_not own (by decide) _ e _ hR
  have hRv2 : v2.ownBlock ≠ some R := fun e => own_not own2 (by decide) _ e _ hR
  have hL1 := (hL.cell 2).trans hv
  have HR := Lib.hid hR
  have hR0 := hR.at1
  have hLw := hL.lt
  have hRw := hR.lt
  have hgw := Hc.out.lt
  have l1 := Nat.le_trans c.text_len hs
  have hv2w : ∀ k, v2.ownBlock = some k → ¬ v.ownBlock = some k := fun k e e2 => by
    obtain ⟨_, _, hb⟩ : ∃ _ : Unit, ∃ cs, Blk w k IntT cs := by
      rcases own2.2 with ⟨rfl, _⟩ | ⟨g', cap, cur, rfl, _, hh, _⟩
      · simp [Value.ownBlock] at e
      · have : g' = k := by simpa [Value.ownBlock] using e
        subst this
        exact ⟨(), _, hh⟩
    exact own_not own (by decide) k e2 _ hb
  have HW := Lib.hid hv2w
  clear hc own own2 hL hR hv hv2 hv2w
  go_enter Tryz.func176, Tryz.ntmps176
  go_wp2
  go_region_law (first
    | (go_simp; go_at_call 177; refine (cutText_any g c.s c.bad _ hs ?_).mono ?_; exact Hc.out.drew; rintro e w1 ⟨rfl, hc1, hk1⟩; have hk2 : Chg (OneM g) w w1 := Chg.trans ((Chg.refl _ _).drew) hk1; have HL1 := Lib.hid (HL.out.chg hk2 hLg); have qL1 := (HL1.out.cell 2).trans HV.out; have fqL1 := HL1.out.frozen 2; have hzw := hk2.size; have hLw1 := Nat.lt_of_lt_of_le hLw hzw)
    | (refine step_append_lies _ rfl (.tmp 3) (.tmp 7) _ rfl base StrT i0 _ 1 16 Tryz.underlying31 hi0 hz0 hz1 hz2 rfl (by omega) v l.length (l.map tv) rfl ?_ _ 1 1 [tv c.text.1] rfl rfl ?_ ?_ (by omega) ?_ ?_ ?_ _ rfl ?_; (exact own_chg Own.out (hk2.alloc _) (fun k hk e => by unfold OneM at e; omega)); (exact cell_one_new _ _ _); (exact fun u hu => by rw [List.mem_singleton.1 hu]; rfl); (simp only [maxLen]; omega); (omega); (first | omega | (simp; done) | (simp; omega)); (intro g2 cap2 w4 hown4 hgr4 hat4 hlt4; have h4 := after_append Own.out hgr4 hLb HL1.out; have HL4 := Lib.hid h4.1; have hk4 := h4.2; clear h4; have qL4 := (HL4.out.cell 2).trans HV.out; have fqL4 := HL4.out.frozen 2)))
  all_goals
    have HK5 := Lib.hid ((Chg.step hk4 (fun i hi => .inl (.inr (.inr (.inl hi)))) ((hk2.mono (T := fun k => k = g ∨ k = L ∨ v.ownBlock = some k ∨ v2.ownBlock = some k) (fun k _ e => .inl e)).alloc _)).setCell (p := ⟨L, 2, none⟩) (.inl (.inr (.inl rfl))) (.slice (some ⟨g2, 0, none⟩) (l.length + 1) cap2))
    have Hc5 := Lib.hid (((hc1.alloc _).chg hk4 (fun h => by have := (Own.out.lt _ h).1; omega)).far (p := ⟨L, 2, none⟩) (fun e => hLg e.symm) (.slice (some ⟨g2, 0, none⟩) (l.length + 1) cap2))
    have HL5 := Lib.hid (HL4.out.set_ 2 (.slice (some ⟨g2, 0, none⟩) (l.length + 1) cap2))
    have Own5 := Lib.hid (own_chg hown4 (Chg.set1 _ L 2 (.slice (some ⟨g2, 0, none⟩) (l.length + 1) cap2)) (fun k hk e => by unfold OneM at e; omega))
    have Own25 := Lib.hid (own_chg (own_chg2 (own_chg (own_chg Own2.out hk2 (fun k hk e => by unfold OneM at e; omega)) ((Chg.refl NoM w1).alloc (.cells #[tv c.text.1] StrT)) (fun _ _ h => h.elim)) hk4 HW.out) (Chg.set1 _ L 2 (.slice (some ⟨g2, 0, none⟩) (l.length + 1) cap2)) (fun k hk e => by unfold OneM at e; omega))
    have HR5 := Lib.hid ((((HR.out.chg hk2 hRg).alloc (.cells #[tv c.text.1] StrT)).chg hk4 hRv).far (p := ⟨L, 2, none⟩) hRL (.slice (some ⟨g2, 0, none⟩) (l.length + 1) cap2))
    have hsz5 : base ≤ (w4.setCell ⟨L, 2, none⟩ (.slice (some ⟨g2, 0, none⟩) (l.length + 1) cap2)).heap.size := by
      have := hk4.size
      simp only [World.size_alloc, World.size_setCell] at *
      omega
    have hcs5 : (cs.setIfInBounds 2 (.slice (some ⟨g2, 0, none⟩) (l.length + 1) cap2))[3]? = some v2 := by rw [Array.getElem?_setIfInBounds]; simpa using HV2.out
    have HCS5 := Lib.hid hcs5
    have qL5 := (HL5.out.cell 3).trans hcs5
    have qR5 := HR5.out.at1
    have hgL5 := HL5.out.lt
    have hg5 := Hc5.out.lt
    clear hc1 hk1 hk2 HL1 qL1 fqL1 hzw hLw1 hown4 hgr4 hat4 hlt4 HL4 hk4 qL4 fqL4 hL1 hR0 hcs5
    go_wp2
    generalize w4.setCell ⟨L, 2, none⟩ (.slice (some ⟨g2, 0, none⟩) (l.length + 1) cap2) = w5 at *
    go_region_law (first
      | (go_simp; go_at_call 172; refine (rdNum_any g c.text.2.s c.text.2.bad _ l1 ?_).mono ?_; exact Hc5.out.drew; rintro e w1 ⟨rfl, hc1, hk1⟩; have hk2 : Chg (OneM g) w5 w1 := Chg.trans ((Chg.refl _ _).drew) hk1; have HL1 := Lib.hid (HL5.out.chg hk2 hLg); have qL1 := (HL1.out.cell 3).trans HCS5.out; have fqL1 := HL1.out.frozen 3; have hzw := hk2.size; have hLw1 := Nat.lt_of_lt_of_le hgL5 hzw)
      | (refine step_append_lies _ rfl (.tmp 11) (.tmp 14) _ rfl base IntT i2 _ 1 8 Tryz.underlying32 hi2 hy0 hy1 hy2 rfl (by omega) v2 l2.length (l2.map iv) rfl ?_ _ 1 1 [iv c.text.2.num.1] rfl rfl ?_ ?_ (by omega) ?_ ?_ ?_ _ rfl ?_; (exact own_chg Own25.out (hk2.alloc _) (fun k hk e => by unfold OneM at e; omega)); (exact cell_one_new _ _ _); (exact fun u hu => by rw [List.mem_singleton.1 hu]; rfl); (simp only [maxLen]; omega); (omega); (first | omega | (simp; done) | (simp; omega)); (intro g6 cap6 w6 hown6 hgr6 hat6 hlt6; have h6 := after_append Own25.out hgr6 hLb HL1.out; have HL6 := Lib.hid h6.1; have hk6 := h6.2; clear h6; have qL6 := (HL6.out.cell 3).trans HCS5.out; have fqL6 := HL6.out.frozen 3)))
    all_goals
      go_wp2
      go_end0
      refine ⟨rfl, .slice (some ⟨g2, 0, none⟩) (l.length + 1) cap2, .slice (some ⟨g6, 0, none⟩) (l2.length + 1) cap6, ?_, ?_, ?_, ?_, ?_⟩
      · exact ((hc1.alloc _).chg hk6 (fun h => by have := (Own25.out.lt _ h).1; omega)).far (p := ⟨L, 3, none⟩) (fun e => hLg e.symm) _
      · exact HL6.out.set_ 3 (.slice (some ⟨g6, 0, none⟩) (l2.length + 1) cap6)
      · rw [List.map_append]
        refine own_chg (own_chg2 (own_chg (own_chg Own5.out hk2 (fun k hk e => by unfold OneM at e; omega)) ((Chg.refl NoM w1).alloc (.cells #[iv c.text.2.num.1] IntT)) (fun _ _ h => h.elim)) hk6 ?_) (Chg.set1 _ L 3 _) (fun k hk e => by unfold OneM at e; omega)
        intro k e e2
        have hq := own_chg Own5.out (hk2.alloc (.cells #[iv c.text.2.num.1] IntT)) (fun k hk e => by unfold OneM at e; omega)
        obtain ⟨cq, hb⟩ : ∃ cs, Blk (w1.alloc (.cells #[iv c.text.2.num.1] IntT)) k StrT cs := by
          rcases hq.2 with ⟨hq2, _⟩ | ⟨g', cap, cur, hq2, _, hh, _⟩
          · cases hq2
          · injection hq2 with hq2 _ _
            injection hq2 with hq2
            injection hq2 with hq2 _ _
            have : g2 = k := by simpa [Value.ownBlock] using e
            subst this
            subst hq2
            exact ⟨_, hh⟩
        exact own_not (own_chg Own25.out (hk2.alloc (.cells #[iv c.text.2.num.1] IntT)) (fun k hk e => by unfold OneM at e; omega)) (by decide) k e2 _ hb
      · rw [List.map_append]
        exact own_chg hown6 (Chg.set1 _ L 3 _) (fun k hk e => by unfold OneM at e; omega)
      · exact (Chg.step hk6 (fun i hi => .inl (.inr (.inr (.inr hi)))) ((HK5.out.trans (hk2.mono (T := fun k => k = g ∨ k = L ∨ v.ownBlock = some k ∨ v2.ownBlock = some k) (fun k _ e => .inl e))).alloc _)).setCell (p := ⟨L, 3, none⟩) (.inl (.inr (.inl rfl))) _
end Go.Proofs.YtlpmjeiogdlifaaGreat
namespace Go.Proofs.YtlpmjeiogdlifaaGreat
open Go.RowKit
attribute [local go_sem low] mk_extract
attribute [local go_sem] After.cell After.frozen mk_extract_end ByteArray.mk_append_mk
theorem wpList_row {P : Program} {ops : Array Oper} {rest : List Oper} {o : Oper} {a : Act} {w : World} {Q : Exit → Act → World → Prop} (ty : TypeId) (x : Operand) (ho : o.op = .load ty x)
    (g : Nat) (hx : a.eval x = .pointer (some ⟨g, 0, none⟩)) (hgd : Region.wanted o (yielded ops a.tmps) = true) (t : TypeId) (cs : Array Value) (fr : Nat × Nat) (d : TypeDesc) (hg : w.heap[g]? = some (.cells cs t fr))
    (hu : P.underlying ty = some d) (hd : (match d with | .struct _ | .array _ _ => true | _ => false) = true) (hi : (P.info? ty).map (·.size) = some cs.size)
    (h : wpList P ops Q rest (a.put o.dst (.agg cs)) w) : wpList P ops Q (o :: rest) a w :=
  wpList_step fun _ hK => by
    rw [if_pos hgd]
    exact wp_load_row ty x ho g hx t cs fr d hg hu hd hi (hK _ _ h)
theorem wp_gen {P : Program} {c : Code} {Q : Exit → Act → World → Prop} {a : Act} {w : World} (R : World → Prop) (hR : R w) (h : ∀ W, R W → c.wp P Q a W) : c.wp P Q a w := h w hR
theorem run_loadVar_at {P : Program} (w : World) (g off : Nat) (ty : TypeId) (cs : Array Value) (d : TypeDesc) (hc : ∀ j v, cs[j]? = some v → w.cell? ⟨g, off + j, none⟩ = some v)
    (hu : P.underlying ty = some d) (hd : (match d with | .struct _ | .array _ _ => true | _ => false) = true) (hi : (P.info? ty).map (·.size) = some cs.size) :
    (loadVar ty ⟨g, off, none⟩).run P w = .ok (.agg cs) w := by
  have hl : (loadCells ⟨g, off, none⟩ cs.toList.length).run P w = .ok cs.toList.toArray w :=
    run_loadCells_list (P := P) w ⟨g, off, none⟩ cs.toList (fun j v hv => by
      have hadd : (⟨g, off, none⟩ : Addr).add j = ⟨g, off + j, none⟩ := by unfold Addr.add; split <;> simp_all
      rw [hadd]
      exact hc j v (by simpa using hv))
  cases hq : P.info? ty with
  | none => simp [hq] at hi
  | some i =>
    have hs : i.size = cs.size := by simpa [hq] using hi
    have hagg : (isAgg ty).run P w = .ok true w := by
      unfold isAgg
      rw [Sem.run_bind, run_underlying hu w]
      cases d <;> simp_all
    simp only [Array.length_toList, Array.toArray_toList] at hl
    simp [loadVar, Sem.run_bind, hagg, sizeOf, typeInfo, hq, hs, hl]
theorem wpList_at {P : Program} {ops : Array Oper} {rest : List Oper} {o : Oper} {a : Act} {w : World} {Q : Exit → Act → World → Prop} (ty : TypeId) (x : Operand) (ho : o.op = .load ty x)
    (g off : Nat) (hx : a.eval x = .pointer (some ⟨g, off, none⟩)) (hgd : Region.wanted o (yielded ops a.tmps) = true) (cs : Array Value) (d : TypeDesc) (hc : ∀ j v, cs[j]? = some v → w.cell? ⟨g, off + j, none⟩ = some v)
    (hu : P.underlying ty = some d) (hd : (match d with | .struct _ | .array _ _ => true | _ => false) = true) (hi : (P.info? ty).map (·.size) = some cs.size)
    (h : wpList P ops Q rest (a.put o.dst (.agg cs)) w) : wpList P ops Q (o :: rest) a w :=
  wpList_step fun _ hK => by
    rw [if_pos hgd]
    unfold Oper.wp execOp
    simp only [ho, hx, Instr.loadAt, Instr.sureAddr, Sem.run_bind, Sem.run_pure, Result.andThen_ok, run_loadVar_at w g off ty cs d hc hu hd hi]
    exact hK _ _ h
theorem setRow_alloc (w : World) (T : TypeId) (zs cs : Array Value) : (w.alloc (.cells zs T)).setRow w.heap.size cs = w.alloc (.cells cs T) := by
  have hh : (w.heap.push (.cells zs T)).modify w.heap.size (fun | .cells _ elem frozen => .cells cs elem frozen | o => o) = w.heap.push (.cells cs T) := by
    apply Array.ext_getElem?
    intro i
    rw [Array.getElem?_modify, Array.getElem?_push, Array.getElem?_push]
    by_cases h : w.heap.size = i
    · subst h
      simp
    · have h2 : ¬ i = w.heap.size := fun e => h e.symm
      simp [h, h2]
  exact congrArg (fun hp => { w with heap := hp }) hh
theorem wpList_new {P : Program} {ops : Array Oper} {rest : List Oper} {o p : Oper} {a : Act} {w : World} {Q : Exit → Act → World → Prop} (T : TypeId) (d : Tmp) (y : Operand)
    (ho : o.op = .alloc T) (hp : p.op = .store T (.tmp d) y) (hd : o.dst = some d) (hdp : p.dst = none) (hgo : o.guard = none) (hgp : p.guard = none) (cells : Array Value)
    (hy : (a.put (some d) (.pointer (some ⟨w.heap.size, 0, none⟩))).eval y = .agg cells)
    (hdl : d < a.tmps.size) (hz : ((P.info? T).bind (·.zero)).map (fun v => v.cells.size) = some cells.size) (hi : (P.info? T).map (·.size) = some cells.size) (h1 : cells.all (·.oneCell') = true)
    (h : wpList P ops Q rest (a.put (some d) (.pointer (some ⟨w.heap.size, 0, none⟩))) (w.alloc (.cells cells T))) : wpList P ops Q (o :: p :: rest) a w := by
  cases hq : P.info? T with
  | none => simp [hq] at hi
  | some i =>
    cases hz0 : i.zero with
    | none => simp [hq, hz0] at hz
    | some z =>
      have hzs : z.cells.size = cells.size := by simpa [hq, hz0] using hz
      refine wpList_plain hgo fun K hK => ?_
      unfold Oper.wp execOp
      have hrun : (Instr.alloc T true (.tuple #[])).run P w = .ok (.pointer (some ⟨w.heap.size, 0, none⟩)) (w.alloc (.cells z.cells T)) := by
        simp [Instr.alloc, zeroValue, typeInfo, hq, hz0, newVar, newRow, newObj, Sem.run_bind]
        rfl
      simp only [ho, Sem.run_bind, hrun, Result.andThen_ok]
      refine hK _ _ ?_
      rw [hd]
      refine wpList_store_row hgp T (.tmp d) y hp w.heap.size cells ?_ hy T z.cells (heap_alloc_new w _) hi hzs h1 ?_
      · simp [Act.eval, Act.put, hdl]
      · rw [setRow_alloc, hdp]
        exact h
theorem wpList_built {P : Program} {ops : Array Oper} {rest : List Oper} {o : Oper} {a : Act} {w : World} {Q : Exit → Act → World → Prop} (hg : o.guard = none) (t : TypeId) (parts : Array (Nat × Operand)) (ho : o.op = .build t parts) (cells : Array Value)
    (hf : P.built t (parts.map fun (i, x) => (i, a.eval x)).toList = some cells)
    (h : wpList P ops Q rest (a.put o.dst (.agg cells)) w) : wpList P ops Q (o :: rest) a w :=
  wpList_build hg t parts ho (by rw [hf]; rfl) (by rw [hf]; exact h)
structure ByS (b : Nat) (l : List UInt8) (w : World) : Prop where
  lt : b < w.heap.size
  cell : ∀ i, i < l.length → w.cell? ⟨b, i, none⟩ = some (.int .u8 ((l.getD i 0).toNat : Int))
  froz : ∀ i, i < l.length → w.frozen? ⟨b, i, none⟩ = false
theorem ByS.below {B b : Nat} {l : List UInt8} {w w' : World} (h : ByS b l w) (hb : Below B w w') (hB : b < B) : ByS b l w' :=
  ⟨Nat.lt_of_lt_of_le h.lt hb.size, fun i hi => (hb.cell (p := ⟨b, i, none⟩) hB).trans (h.cell i hi), fun i hi => (hb.frozen (p := ⟨b, i, none⟩) hB).trans (h.froz i hi)⟩
theorem ByS.set_ {b : Nat} {l : List UInt8} {w : World} (h : ByS b l w) {k : Nat} (hk : k < l.length) (c : UInt8) : ByS b (l.set k c) (w.setCell ⟨b, k, none⟩ (.int .u8 (c.toNat : Int))) := by
  refine ⟨by simpa using h.lt, fun i hi => ?_, fun i hi => ?_⟩
  · simp only [List.length_set] at hi
    by_cases hik : i = k
    · subst hik
      have := h.cell i hi
      rw [World.cell?_setCell_same _ _ _ this]
      simp [List.getD, hi]
    · rw [World.cell?_setCell_other w ⟨b, k, none⟩ ⟨b, i, none⟩ _ (by simp only [ne_eq, Addr.mk.injEq, and_true, true_and]; exact fun e => hik e.symm)]
      rw [h.cell i hi]
      simp [List.getD, List.getElem?_set, Ne.symm hik]
  · simp only [List.length_set] at hi
    rw [World.frozen?_setCell]
    exact h.froz i hi
theorem ByS.back {P : Program} {b cap : Nat} {l : List UInt8} {w : World} (h : ByS b l w) (src dst e : TypeId) (hs : P.underlying src = some (.slice e)) (he : P.underlying e = some (.int .u8)) (hd : P.underlying dst = some .string) {n : Nat} (hn : n = l.length) :
    (convert src dst (.slice (some ⟨b, 0, none⟩) n cap)).run P w = .ok (.string ⟨l.toArray⟩) w := by
  subst hn
  have := run_convert_bytes_arg (P := P) w src e hs he b 0 l.length cap (l.map fun c => (c.toNat : Int)) (by simp) (fun i hi => by rw [Nat.zero_add, h.cell i hi]; simp [List.getD, hi]) dst hd
  rw [this]
  congr 2
  apply ByteArray.ext
  apply Array.ext'
  rw [strOfNums_data, List.map_map]
  simp only [Function.comp_def, Int.toNat_natCast, UInt8.ofNat_toNat, List.map_id']
theorem wp_region_row {P : Program} {id : Nat} {Q : Exit → Act → World → Prop} {a : Act} {w : World} {l : List Oper} (hm : P.follows .mixedOrders = true) (hB : Region.lexB .any l.toArray = true)
    (h : wpQuiet P l.toArray (fun w' => ∃ x : After w.heap.size w, w' = x.w) (fun a' => ∀ w', Below w.heap.size w w' → Q .normal a' w') l a) : (Code.region id l.toArray true).wp P Q a w := wp_region_after hm hB w.heap.size h
end Go.Proofs.YtlpmjeiogdlifaaGreat
namespace Go.Proofs.YtlpmjeiogdlifaaGreat
open Go.RowKit
attribute [local go_sem low] mk_extract
attribute [local go_sem] After.cell After.frozen mk_extract_end ByteArray.mk_append_mk
def turnM (w : World) (b : Nat) (o : Obj) : World := { w with heap := w.heap.setIfInBounds b o }
abbrev MapT : TypeId := 102
abbrev FileT : TypeId := 104
def MapOk (w : World) (m : Nat) : Prop := ∃ es clock, w.heap[m]? = some (.map es clock) ∧ ∀ x ∈ es.toList, MapKept.IsKey (.int .i64) x.key
theorem MapOk.lt {w : World} {m : Nat} (h : MapOk w m) : m < w.heap.size := by
  obtain ⟨es, clock, hb, _⟩ := h
  exact (Array.getElem?_eq_some_iff.1 hb).1
theorem MapOk.chg {S : Nat → Prop} {w w' : World} {m : Nat} (h : MapOk w m) (hk : Chg S w w') (hS : ¬ S m) : MapOk w' m := by
  have hl := h.lt
  obtain ⟨es, clock, hb, hks⟩ := h
  exact ⟨es, clock, (hk.block m hl hS).trans hb, hks⟩
theorem MapOk.not_blk {w : World} {m : Nat} (h : MapOk w m) {t : TypeId} {cs : Array Value} : ¬ Blk w m t cs := fun hb => by
  obtain ⟨es, clock, hm, _⟩ := h
  unfold Blk at hb
  rw [hm] at hb
  cases hb
theorem setB_heap {W : World} {m : Nat} {o o' : Obj} (h : W.heap[m]? = some o) : (turnM W m o').heap[m]? = some o' := (MapKept.heap_set h).1
structure FileAt (w : World) (f : Nat) (v : Value) (m : Nat) (V : List Txt) : Prop where
  bf : ∃ sv, Blk w f FileT #[v, sv, .map (some m)]
  own : w.ownsRow 0 StrT 1 v V.length (V.map tv)
  map : MapOk w m
  sz : ∀ s ∈ V, s.length ≤ 4611686018427387904
theorem FileAt.chg {S : Nat → Prop} {w w' : World} {f m : Nat} {v : Value} {V : List Txt} (h : FileAt w f v m V) (hk : Chg S w w') (hf : ¬ S f) (hm : ¬ S m) (hv : ∀ k, v.ownBlock = some k → ¬ S k) : FileAt w' f v m V := by
  obtain ⟨sv, hb⟩ := h.bf
  exact ⟨⟨sv, hb.chg hk hf⟩, own_chg2 h.own hk hv, h.map.chg hk hm, h.sz⟩
theorem own_lt {w : World} {base : Nat} {e : TypeId} {size n : Nat} {v : Value} {xs : List Value} (h : w.ownsRow base e size v n xs) : ∀ k, v.ownBlock = some k → k < w.heap.size := fun k hk => by
  rcases h.2 with ⟨rfl, _⟩ | ⟨g, cap, cur, rfl, _, hh, _⟩
  · simp [Value.ownBlock] at hk
  · have : g = k := by simpa [Value.ownBlock] using hk
    subst this
    exact (Array.getElem?_eq_some_iff.1 hh).1
theorem FileAt.go {w w' : World} {f m : Nat} {v : Value} {V : List Txt} (h : FileAt w f v m V) (hb : Below w.heap.size w w') : FileAt w' f v m V := by
  obtain ⟨sv, hf⟩ := h.bf
  exact h.chg (S := fun k => w.heap.size ≤ k) ⟨hb.os, hb.tape, hb.output, hb.size, fun i hi _ => hb.block i hi⟩ (by have := hf.lt; omega) (by have := h.map.lt; omega) (fun k hk => by have := own_lt h.own k hk; omega)
end Go.Proofs.YtlpmjeiogdlifaaGreat
