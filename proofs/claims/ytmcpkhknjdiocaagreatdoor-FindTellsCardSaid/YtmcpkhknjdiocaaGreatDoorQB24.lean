/- The document's stores: what is held while a page is added. The document's stores: an own page is read; touched. Rows of items in memory, as a page has them; parts of rows. Trees of the document: the first item that is wanted; the trees that are made of numbers. Trees of the document: how many pages a tree of numbers has; how deep it is. Trees of the document: an item put into a leaf's row, step by step; a branch's rows with a child replaced. Trees of the document: what is laid when an item is put in, by a row's length. Trees made of numbers: what is at or behind a number; the walk over all; the least one by counting. -/
import Derived.Test.YtmcpkhknjdiocaaGreatDoorQB23
set_option linter.unusedSimpArgs false
set_option linter.unusedVariables false
namespace Go.Proofs.YtmcpkhknjdiocaaGreatDoor
open Go.RowKit
attribute [local go_sem low] mk_extract
attribute [local go_sem] After.cell After.frozen mk_extract_end ByteArray.mk_append_mk
/-- A store in memory, whatever its last number is. -/
structure StL (w : World) (s : Nat) (fp lv vi vp : Value) (P : List Sp.Page) : Prop where
  bs : Blk w s StoreT #[fp, lv, .int .i64 400, .slice none 0 0, .slice none 0 0, vi, vp]
  oi : w.ownsRow 0 3 1 vi P.length (idsV P.length)
  op : ∃ xs, w.ownsRow 0 PageT 14 vp P.length xs ∧ PgCells w (OneM s) P xs
/-- A store that may have no page yet. -/
def StF (w : World) (s : Nat) (fp : Value) (P : List Sp.Page) : Prop := ∃ vi vp, StoreAt w s fp vi vp P ∧ (P = [] → vi = .slice none 0 0 ∧ vp = .slice none 0 0)
section
variable {w w' : World} {s : Nat} {fp lv vi vp : Value} {P : List Sp.Page}
theorem StoreAt.l (h : StoreAt w s fp vi vp P) : StL w s fp (.int .i64 ((P.length + 2 : Nat) : Int)) vi vp P := ⟨h.bs, h.oi, h.op⟩
theorem StL.at_ (h : StL w s fp (.int .i64 ((P.length + 2 : Nat) : Int)) vi vp P) : StoreAt w s fp vi vp P := ⟨h.bs, h.oi, h.op⟩
theorem StL.go (h : StL w s fp lv vi vp P) (hb : Below w.heap.size w w') : StL w' s fp lv vi vp P := by
  obtain ⟨xs, h1, h2⟩ := h.op
  exact ⟨h.bs.below hb h.bs.lt, own_chg2 (S := NoM) h.oi (Chg.of_below hb) (fun _ _ h => h), ⟨xs, own_chg2 (S := NoM) h1 (Chg.of_below hb) (fun _ _ h => h), h2.chg (Chg.of_below hb)⟩⟩
theorem StL.last (h : StL w s fp lv vi vp P) (u : Value) : StL (w.setCell ⟨s, 1, none⟩ u) s fp u vi vp P := by
  have hk := Chg.set1 w s 1 u
  obtain ⟨xs, h1, h2⟩ := h.op
  refine ⟨h.bs.set_ 1 u, own_chg2 h.oi hk fun k hk h' => ?_, xs, own_chg2 h1 hk fun k hk h' => ?_, h2.chg hk⟩
  · have h' : k = s := h'
    exact own_not h.oi (t := StoreT) (by decide) k hk _ (h'.symm ▸ h.bs)
  · have h' : k = s := h'
    exact own_not h1 (t := StoreT) (by decide) k hk _ (h'.symm ▸ h.bs)
theorem StF.go (h : StF w s fp P) (hb : Below w.heap.size w w') : StF w' s fp P := by
  obtain ⟨vi, vp, h1, h2⟩ := h
  exact ⟨vi, vp, h1.go hb, h2⟩
theorem StF.of (h : StoreAt w s fp vi vp P) (hP : P ≠ []) : StF w s fp P := ⟨vi, vp, h, fun e => absurd e hP⟩
end
/-- What Add holds at the place where its last number is raised. -/
structure AddS (w W : World) (s b : Nat) (fp lv vi vp : Value) (P : List Sp.Page) (p : Sp.Page) (r : Refs) : Prop where
  st : StL W s fp lv vi vp P
  bp : Blk W b PageT (pageV p r).toArray
  pr : PageRd W (OneM s) p r
  ck : Chg (OneM s) w W
theorem AddS.go {w W W' : World} {s b : Nat} {fp lv vi vp : Value} {P : List Sp.Page} {p : Sp.Page} {r : Refs} (h : AddS w W s b fp lv vi vp P p r) (hb : Below W.heap.size W W') : AddS w W' s b fp lv vi vp P p r :=
  ⟨h.st.go hb, h.bp.below hb h.bp.lt, h.pr.go hb, h.ck.trans (Chg.of_below hb)⟩
theorem AddS.last {w W : World} {s b : Nat} {fp lv vi vp : Value} {P : List Sp.Page} {p : Sp.Page} {r : Refs} (h : AddS w W s b fp lv vi vp P p r) (u : Value) : AddS w (W.setCell ⟨s, 1, none⟩ u) s b fp u vi vp P p r :=
  ⟨h.st.last u, h.bp.chg (Chg.set1 W s 1 u) (fun e => by
    have e : b = s := e
    exact Blk.not_ h.st.bs (t' := PageT) (by decide) _ (e ▸ h.bp)), h.pr.chg (Chg.set1 W s 1 u), h.ck.trans (Chg.set1 W s 1 u)⟩
end Go.Proofs.YtmcpkhknjdiocaaGreatDoor
namespace Go.Proofs.YtmcpkhknjdiocaaGreatDoor
open Go.RowKit
attribute [local go_sem low] mk_extract
attribute [local go_sem] After.cell After.frozen mk_extract_end ByteArray.mk_append_mk
set_option maxRecDepth 100000 in
set_option maxHeartbeats 1600000 in
theorem touch_own (s : Nat) (fp : Value) (P : List Sp.Page) (k : Nat) (w : World) (h : StF w s fp P) (hk : k < P.length) (hn : P.length ≤ 120) :
    Calls Tryz.prog 122 #[.pointer (some ⟨s, 0, none⟩), .int .i64 ((k : Int) + 2)] w fun e w' => e = .returned (.tuple #[.int .i64 ((k : Int) + 2), .int .i64 0]) ∧ w = w' := by
  obtain ⟨vi, vp, h1, h0⟩ := h
  have S := Lib.hid h1
  have hpl : (if 2 ≤ (k : Int) + 2 ∧ (k : Int) + 2 < ((P.length + 2 : Nat) : Int) then (k : Int) + 2 - 2 else -1) = (k : Int) := by
    rw [if_pos ⟨by omega, by omega⟩]
    omega
  clear h1 h0
  go_enter Tryz.func122, Tryz.ntmps122
  go_wp2_with (go_at_call 149; refine (place_no s fp vi vp P ((k : Int) + 2) _ S.out (by omega)).mono ?_; rintro e w2 ⟨rfl, rfl⟩; rw [hpl])
  exact bodyPost_ret (v := .tuple #[.int .i64 ((k : Int) + 2), .int .i64 0]) (by simp [results, Tryz.results122, go_sem]) rfl ⟨rfl, rfl⟩
def pgZ : Array Value := #[.int .i64 0, .slice none 0 0, .slice none 0 0, .slice none 0 0, .string ⟨#[]⟩, .slice none 0 0, .slice none 0 0, .int .i64 0, .int .u64 0, .int .i64 0, .int .i64 0, .int .i64 0, .int .i64 0, .int .i64 0]
set_option maxRecDepth 100000 in
set_option maxHeartbeats 1600000 in
theorem read_own (s : Nat) (fp : Value) (P : List Sp.Page) (k : Nat) (p : Sp.Page) (w : World) (h : StF w s fp P) (hp : P[k]? = some p) (hn : P.length ≤ 120) (hq : p.kind ≠ 0) :
    Calls Tryz.prog 123 #[.pointer (some ⟨s, 0, none⟩), .int .i64 ((k : Int) + 2)] w fun e w' => ∃ r, e = .returned (.tuple #[.agg (pageV p r).toArray, .int .i64 0]) ∧ PageRd w' (OneM s) p r ∧ Below w.heap.size w w' := by
  obtain ⟨vi, vp, h1, h0⟩ := h
  have hk : k < P.length := (List.getElem?_eq_some_iff.1 hp).1
  obtain ⟨xs, hop, hcs⟩ := h1.op
  obtain ⟨g, cap, rfl, hgw, hcg⟩ := own_some hop (by omega)
  obtain ⟨r, hr, hx⟩ := hcs.at_ hp
  have hal : Below w.heap.size w (w.alloc (.cells pgZ PageT)) := (Below.refl _ _).alloc (Nat.le_refl _) _
  have S := Lib.hid (h1.go hal)
  have HP := Lib.hid hr
  have HZ := Lib.hid (Blk.new w PageT pgZ)
  have HC := Lib.hid (fun j u (hu : (pageV p r)[j]? = some u) => (hal.cell (p := ⟨g, k * 14 + j, none⟩) hgw).trans (hcg _ u (hx j u hu)))
  have c6 : (w.alloc (.cells pgZ PageT)).cell? ⟨s, 6, none⟩ = some (.slice (some ⟨g, 0, none⟩) P.length cap) := S.out.bs.cell 6
  have c2 : (w.alloc (.cells pgZ PageT)).cell? ⟨s, 2, none⟩ = some (.int .i64 400) := S.out.bs.cell 2
  have ck : (w.alloc (.cells pgZ PageT)).cell? ⟨g, k * 14, none⟩ = some (.int .i64 p.kind) := HC.out 0 _ rfl
  have HAL := Lib.hid hal
  have hpl : (if 2 ≤ (k : Int) + 2 ∧ (k : Int) + 2 < ((P.length + 2 : Nat) : Int) then (k : Int) + 2 - 2 else -1) = (k : Int) := by
    rw [if_pos ⟨by omega, by omega⟩]
    omega
  have hq1 : (p.kind == 0) = false := beq_eq_false_iff_ne.2 hq
  have h400 : ¬ (400 ≤ (k : Int) + 2) := by omega
  have hlt2 : ¬ ((k : Int) + 2 < 2) := by omega
  clear h1 h0 hal hp hop hcs hcg hx hr hq
  simp only [pgZ] at *
  go_enter Tryz.func123, Tryz.ntmps123
  go_wp2_with (first
    | (go_at_call 149; refine (place_no s fp vi _ P ((k : Int) + 2) _ S.out (by omega)).mono ?_; rintro e w2 ⟨rfl, rfl⟩; rw [hpl])
    | (refine wpList_at PageT _ rfl g (k * 14) rfl rfl (pageV p r).toArray _ (fun j v hv => HC.out j v (by simpa using hv)) Tryz.underlying119 rfl (by kernel_rfl) ?_)
    | (refine wpList_store_row rfl PageT _ _ rfl w.heap.size _ rfl rfl PageT _ HZ.out (by kernel_rfl) rfl (pageV_all p r) ?_))
  obtain ⟨⟨z0, z1, z2, z3, z4, z5, z6, z7, z8, z9, z10, z11, z12, z13⟩, _⟩ := (HZ.out.row (ds := #[.int .i64 p.kind, .slice r.I p.items.length r.i, .slice r.K p.keys.length r.k, .slice r.D p.kids.length r.d, .string ⟨p.text.toArray⟩, .slice r.V p.vals.length r.v, .slice r.F p.free.length r.f, .int .i64 p.next, .int .u64 p.mt.txn, .int .i64 p.mt.main.page, .int .i64 p.mt.main.count, .int .i64 p.mt.main.flags, .int .i64 p.mt.free, .int .i64 p.mt.last])).at14
  refine bodyPost_ret (v := .tuple #[.agg (pageV p r).toArray, .int .i64 0]) (by simp [results, Tryz.results123, go_sem, pageV, mtV, z0, z1, z2, z3, z4, z5, z6, z7, z8, z9, z10, z11, z12, z13]) rfl ⟨r, rfl, ?_, below_setRow HAL.out (Nat.le_refl _) _⟩
  exact HP.out.go (below_setRow HAL.out (Nat.le_refl _) _)
end Go.Proofs.YtmcpkhknjdiocaaGreatDoor
namespace Go.Proofs.YtmcpkhknjdiocaaGreatDoor
open Go.RowKit
attribute [local go_sem low] mk_extract
attribute [local go_sem] After.cell After.frozen mk_extract_end ByteArray.mk_append_mk
/-- Items that lie side by side. -/
def ItP (w : World) (M : Nat → Prop) : List Sp.Item → List Value → Prop
  | [], xs => xs = []
  | x :: l, xs => ∃ V c ys, xs = itemV x V c ++ ys ∧ Txts w M V x.vals ∧ ItP w M l ys
theorem itemV_len (x : Sp.Item) (V : Option Addr) (c : Nat) : (itemV x V c).length = 10 := rfl
theorem itemV_one (x : Sp.Item) (V : Option Addr) (c : Nat) : ∀ u ∈ itemV x V c, u.oneCell' = true := by
  intro u hu
  simp only [itemV, List.mem_cons, List.not_mem_nil, or_false] at hu
  rcases hu with rfl | rfl | rfl | rfl | rfl | rfl | rfl | rfl | rfl | rfl <;> rfl
theorem ItP.chg {w w' : World} {M : Nat → Prop} (hk : Chg M w w') : ∀ {l : List Sp.Item} {xs : List Value}, ItP w M l xs → ItP w' M l xs
  | [], _, h => h
  | _ :: _, _, ⟨V, c, ys, e, ht, h⟩ => ⟨V, c, ys, e, ht.chg hk, h.chg hk⟩
theorem ItP.len {w : World} {M : Nat → Prop} : ∀ {l : List Sp.Item} {xs : List Value}, ItP w M l xs → xs.length = l.length * 10
  | [], xs, h => by
    have h : xs = [] := h
    rw [h]; rfl
  | x :: l, xs, ⟨V, c, ys, e, _, h⟩ => by
    have := h.len
    rw [e, List.length_append, this, itemV_len, List.length_cons]
    omega
theorem ItP.app {w : World} {M : Nat → Prop} {m : List Sp.Item} {ys : List Value} (hq : ItP w M m ys) : ∀ {l : List Sp.Item} {xs : List Value}, ItP w M l xs → ItP w M (l ++ m) (xs ++ ys)
  | [], xs, h => by
    have h : xs = [] := h
    rw [h]; exact hq
  | _ :: _, xs, ⟨V, c, zs, e, hr, h⟩ => ⟨V, c, zs ++ ys, by rw [e, List.append_assoc], hr, hq.app h⟩
theorem ItP.snoc {w : World} {M : Nat → Prop} {l : List Sp.Item} {xs : List Value} (h : ItP w M l xs) {x : Sp.Item} {V : Option Addr} {c : Nat} (ht : Txts w M V x.vals) : ItP w M (l ++ [x]) (xs ++ itemV x V c) :=
  ItP.app (m := [x]) (ys := itemV x V c) ⟨V, c, [], by simp, ht, rfl⟩ h
theorem ItP.one {w : World} {M : Nat → Prop} : ∀ {l : List Sp.Item} {xs : List Value}, ItP w M l xs → ∀ u ∈ xs, u.oneCell' = true
  | [], xs, h, u, hu => by
    have h : xs = [] := h
    rw [h] at hu; simp at hu
  | x :: l, xs, ⟨V, c, ys, e, _, h⟩, u, hu => by
    rw [e] at hu
    rcases List.mem_append.1 hu with hu | hu
    · exact itemV_one x V c u hu
    · exact h.one u hu
theorem ItP.at_ {w : World} {M : Nat → Prop} : ∀ {l : List Sp.Item} {xs : List Value}, ItP w M l xs → ∀ k, k < l.length → ∃ V c, Txts w M V (l.getD k Sp.item0).vals ∧ ∀ j u, (itemV (l.getD k Sp.item0) V c)[j]? = some u → xs[k * 10 + j]? = some u
  | [], _, _, k, hk => absurd hk (by simp)
  | x :: l, xs, ⟨V, c, ys, e, ht, h⟩, 0, _ => ⟨V, c, ht, fun j u hu => by
      rw [e, Nat.zero_mul, Nat.zero_add, List.getElem?_append_left]
      · exact hu
      · exact (List.getElem?_eq_some_iff.1 hu).1⟩
  | x :: l, xs, ⟨V, c, ys, e, ht, h⟩, k + 1, hk => by
    obtain ⟨V', c', ht', hc⟩ := h.at_ k (by simpa using hk)
    refine ⟨V', c', by simpa using ht', fun j u hu => ?_⟩
    have := hc j u (by simpa using hu)
    rw [e, List.getElem?_append_right (by rw [itemV_len]; omega), itemV_len, show (k + 1) * 10 + j - 10 = k * 10 + j by omega]
    exact this
theorem ItP.items {w : World} {M : Nat → Prop} {l : List Sp.Item} {xs : List Value} (h : ItP w M l xs) {g off : Nat} (hg : g < w.heap.size) (hm : ¬ M g) (hc : ∀ j u, xs[j]? = some u → w.cell? ⟨g, off + j, none⟩ = some u) (hl : l.length ≤ 1000) : Items w M (some ⟨g, off, none⟩) l := by
  refine ⟨by omega, .inr ⟨g, off, rfl, hg, hm, fun k hk => ?_⟩⟩
  obtain ⟨V, c, ht, hx⟩ := h.at_ k hk
  have hcell : ∀ j u, (itemV (l.getD k Sp.item0) V c)[j]? = some u → w.cell? ⟨g, off + k * 10 + j, none⟩ = some u := fun j u hu => by
    rw [Nat.add_assoc]
    exact hc _ u (hx j u hu)
  exact ⟨V, c, ⟨hcell 0 _ rfl, hcell 1 _ rfl, hcell 2 _ rfl, hcell 3 _ rfl, hcell 4 _ rfl, hcell 5 _ rfl, hcell 6 _ rfl, hcell 7 _ rfl, hcell 8 _ rfl, hcell 9 _ rfl⟩, ht⟩
theorem getD_take {α : Type} (l : List α) (d : α) {h k : Nat} (hk : k < (l.take h).length) : (l.take h).getD k d = l.getD k d := by
  have hk2 := hk
  rw [List.length_take] at hk2
  simp [List.getD, List.getElem?_take, show k < h by omega]
theorem Items.take {w : World} {M : Nat → Prop} {A : Option Addr} {l : List Sp.Item} (h : Items w M A l) (n : Nat) : Items w M A (l.take n) := by
  refine ⟨Nat.le_trans (by rw [List.length_take]; omega) h.1, ?_⟩
  rcases h.2 with rfl | ⟨b, off, e, hb, hm, hc⟩
  · exact .inl (by simp)
  · refine .inr ⟨b, off, e, hb, hm, fun k hk => ?_⟩
    rw [getD_take l _ hk]
    exact hc k (by rw [List.length_take] at hk; omega)
theorem Items.drop {w : World} {M : Nat → Prop} {b off : Nat} {l : List Sp.Item} (h : Items w M (some ⟨b, off, none⟩) l) (n : Nat) : Items w M (some ⟨b, off + n * 10, none⟩) (l.drop n) := by
  refine ⟨Nat.le_trans (by rw [List.length_drop]; omega) h.1, ?_⟩
  rcases h.2 with rfl | ⟨b', off', e, hb, hm, hc⟩
  · exact .inl (by simp)
  · obtain ⟨rfl, rfl⟩ : b = b' ∧ off = off' := by simpa using e
    refine .inr ⟨b, off + n * 10, rfl, hb, hm, fun k hk => ?_⟩
    obtain ⟨V, c, h1, h2⟩ := hc (n + k) (by rw [List.length_drop] at hk; omega)
    have e1 : (l.drop n).getD k Sp.item0 = l.getD (n + k) Sp.item0 := by simp [List.getD]
    rw [e1]
    refine ⟨V, c, ?_, h2⟩
    rw [show off + n * 10 + k * 10 = off + (n + k) * 10 by omega]
    exact h1
theorem Row.take {w : World} {M : Nat → Prop} {A : Option Addr} {cs : List Value} (h : Row w M A cs) (n : Nat) : Row w M A (cs.take n) := by
  refine ⟨Nat.le_trans (by rw [List.length_take]; omega) h.1, ?_⟩
  rcases h.2 with rfl | ⟨b, off, e, hb, hm, hc⟩
  · exact .inl (by simp)
  · refine .inr ⟨b, off, e, hb, hm, fun j u hu => hc j u ?_⟩
    rw [List.getElem?_take] at hu
    split at hu
    · exact hu
    · cases hu
theorem Row.drop {w : World} {M : Nat → Prop} {b off : Nat} {cs : List Value} (h : Row w M (some ⟨b, off, none⟩) cs) (n : Nat) : Row w M (some ⟨b, off + n, none⟩) (cs.drop n) := by
  refine ⟨Nat.le_trans (by rw [List.length_drop]; omega) h.1, ?_⟩
  rcases h.2 with rfl | ⟨b', off', e, hb, hm, hc⟩
  · exact .inl (by simp)
  · obtain ⟨rfl, rfl⟩ : b = b' ∧ off = off' := by simpa using e
    refine .inr ⟨b, off + n, rfl, hb, hm, fun j u hu => ?_⟩
    rw [Nat.add_assoc]
    exact hc _ u (by rw [List.getElem?_drop] at hu; exact hu)
theorem Txts.take {w : World} {M : Nat → Prop} {A : Option Addr} {l : List Txt} (h : Txts w M A l) (n : Nat) : Txts w M A (l.take n) := by
  have := Row.take h n
  unfold Txts
  rwa [List.map_take]
theorem Txts.drop {w : World} {M : Nat → Prop} {b off : Nat} {l : List Txt} (h : Txts w M (some ⟨b, off, none⟩) l) (n : Nat) : Txts w M (some ⟨b, off + n, none⟩) (l.drop n) := by
  have := Row.drop h n
  unfold Txts
  rwa [List.map_drop]
theorem Ints.take {w : World} {M : Nat → Prop} {A : Option Addr} {l : List Int} (h : Ints w M A l) (n : Nat) : Ints w M A (l.take n) := by
  have := Row.take h n
  unfold Ints
  rwa [List.map_take]
theorem Ints.drop {w : World} {M : Nat → Prop} {b off : Nat} {l : List Int} (h : Ints w M (some ⟨b, off, none⟩) l) (n : Nat) : Ints w M (some ⟨b, off + n, none⟩) (l.drop n) := by
  have := Row.drop h n
  unfold Ints
  rwa [List.map_drop]
/-- The pages of leaves and branches, where their rows lie. -/
def refsI (A : Option Addr) (c : Nat) : Refs := ⟨A, none, none, none, none, c, 0, 0, 0, 0⟩
def refsB (K : Option Addr) (k : Nat) (D : Option Addr) (d : Nat) : Refs := ⟨none, K, D, none, none, 0, k, d, 0, 0⟩
theorem leafRd {w : World} {M : Nat → Prop} {A : Option Addr} {l : List Sp.Item} (h : Items w M A l) (c : Nat) : PageRd w M (Sp.leafPg l) (refsI A c) := ⟨h, Row.nil_, Row.nil_, Row.nil_, Frees.nil_, by simp [Sp.leafPg, Sp.mt0]⟩
theorem branchRd {w : World} {M : Nat → Prop} {K D : Option Addr} {ks : List Txt} {is : List Int} (h1 : Txts w M K ks) (h2 : Ints w M D is) (k d : Nat) : PageRd w M (Sp.branchPg ks is) (refsB K k D d) := ⟨Items.nil_, h1, h2, Row.nil_, Frees.nil_, by simp [Sp.branchPg, Sp.mt0]⟩
theorem leafV (l : List Sp.Item) (A : Option Addr) (c : Nat) : pageV (Sp.leafPg l) (refsI A c) = [.int .i64 1, .slice A l.length c, .slice none 0 0, .slice none 0 0, .string ⟨#[]⟩, .slice none 0 0, .slice none 0 0, .int .i64 0, .int .u64 0, .int .i64 0, .int .i64 0, .int .i64 0, .int .i64 0, .int .i64 0] := rfl
theorem branchV (ks : List Txt) (is : List Int) (K : Option Addr) (k : Nat) (D : Option Addr) (d : Nat) : pageV (Sp.branchPg ks is) (refsB K k D d) = [.int .i64 2, .slice none 0 0, .slice K ks.length k, .slice D is.length d, .string ⟨#[]⟩, .slice none 0 0, .slice none 0 0, .int .i64 0, .int .u64 0, .int .i64 0, .int .i64 0, .int .i64 0, .int .i64 0, .int .i64 0] := rfl
end Go.Proofs.YtmcpkhknjdiocaaGreatDoor
namespace Go.Proofs.YtmcpkhknjdiocaaGreatDoor
open Go.RowKit
attribute [local go_sem low] mk_extract
attribute [local go_sem] After.cell After.frozen mk_extract_end ByteArray.mk_append_mk
namespace Sp
/-- What is wanted from a key on: nothing below it, all above it. -/
def Wants (w : Item → Bool) (key : Txt) : Prop := (∀ y : Item, lt y.key key = true → w y = false) ∧ ∀ y : Item, lt key y.key = true → w y = true
theorem find_none {w : Item → Bool} {l : List Item} (h : ∀ y ∈ l, w y = false) : l.find? w = none := by
  rw [List.find?_eq_none]
  intro y hy
  rw [h y hy]
  simp
theorem first_law {d : Nat} {top : Bool} {t : T d} {key : Txt} {w : Item → Bool} (h : T.Ok d top t) (hw : Wants w key) :
    (∀ y, (leafOf d t key []).1.find? w = some y → (T.items d t).find? w = some y) ∧
    ((leafOf d t key []).1.find? w = none → (leafOf d t key []).2 = [] → (T.items d t).find? w = none) ∧
    ((leafOf d t key []).1.find? w = none → (leafOf d t key []).2 ≠ [] → ∃ y, (leafOf d t (leafOf d t key []).2 []).1.find? w = some y ∧ (T.items d t).find? w = some y) := by
  obtain ⟨A, B, e1, e2, e3, e4⟩ := leaf_law d top t key [] h
  have hA : A.find? w = none := find_none fun y hy => hw.1 y (e2 y hy)
  refine ⟨fun y hy => ?_, fun hn hb => ?_, fun hn hb => ?_⟩
  · rw [e1, List.find?_append, hA, Option.none_or, List.find?_append, hy, Option.some_or]
  · rcases e4 with ⟨_, rfl⟩ | ⟨f1, _⟩
    · rw [e1, List.find?_append, hA, Option.none_or, List.append_nil, hn]
    · rw [hb, lt_nilF] at f1
      simp at f1
  · rcases e4 with ⟨h0, _⟩ | ⟨f1, f2, f3, f4, f5⟩
    · exact absurd h0 hb
    · obtain ⟨B', hB'⟩ := f5 []
      have hL2 : (leafOf d t (leafOf d t key []).2 []).1 ≠ [] := (leaf_law d top t (leafOf d t key []).2 [] h).elim fun _ h => h.elim fun _ h => h.2.2.1
      generalize (leafOf d t (leafOf d t key []).2 []).1 = L2 at *
      match L2, hL2 with
      | z :: zs, _ =>
        have hz : w z = true := hw.2 z (lt_le f1 (f3 z (by rw [hB']; simp)))
        refine ⟨z, by rw [List.find?_cons, hz], ?_⟩
        rw [e1, List.find?_append, hA, Option.none_or, List.find?_append, hn, Option.none_or, hB', List.cons_append, List.find?_cons, hz]
/-- The key of a number. -/
def keyN (n : Nat) : Txt := [UInt8.ofNat (97 + n / 26), UInt8.ofNat (97 + n % 26)]
def itN (n : Nat) : Item := ⟨keyN n, 1, [118], 0, 0, [], 0, root0⟩
theorem keyN_lt : ∀ a, a < 256 → ∀ b, b < 256 → lt (keyN a) (keyN b) = decide (a < b) := by decide +kernel
theorem itN_is : ∀ a, a < 256 → isItem (itN a) = true := by decide +kernel
/-- The numbers whose items a row has, in order: a number put in. -/
def insN (n : Nat) : List Nat → List Nat
  | [] => [n]
  | m :: l => if m < n then m :: insN n l else if m = n then m :: l else n :: m :: l
theorem mem_insN {n k : Nat} : ∀ {l : List Nat}, k ∈ insN n l ↔ k = n ∨ k ∈ l
  | [] => by simp [insN]
  | m :: l => by
    unfold insN
    split
    · rw [List.mem_cons, mem_insN, List.mem_cons]
      constructor
      · rintro (h | h | h) <;> simp [h]
      · rintro (h | h | h) <;> simp [h]
    · split
      · rename_i h
        subst h
        simp
      · simp
theorem insN_sorted {n : Nat} : ∀ {l : List Nat}, l.Pairwise (· < ·) → (insN n l).Pairwise (· < ·)
  | [], _ => by simp [insN]
  | m :: l, h => by
    obtain ⟨h1, h2⟩ := List.pairwise_cons.1 h
    unfold insN
    split
    · rename_i hm
      refine List.pairwise_cons.2 ⟨fun k hk => ?_, insN_sorted h2⟩
      rcases mem_insN.1 hk with rfl | hk
      · exact hm
      · exact h1 k hk
    · split
      · exact h
      · rename_i h3 h4
        refine List.pairwise_cons.2 ⟨fun k hk => ?_, h⟩
        rcases List.mem_cons.1 hk with rfl | hk
        · omega
        · have := h1 k hk; omega
theorem insN_len {n : Nat} : ∀ l : List Nat, (insN n l).length ≤ l.length + 1
  | [] => by simp [insN]
  | m :: l => by
    have := insN_len (n := n) l
    unfold insN
    split
    · simp; omega
    · split <;> simp
theorem insIt_N {n : Nat} (hn : n < 256) : ∀ {l : List Nat}, (∀ k ∈ l, k < 256) → insIt (itN n) (l.map itN) = (insN n l).map itN
  | [], _ => rfl
  | m :: l, h => by
    have hm := h m (by simp)
    have e1 : lt (itN m).key (itN n).key = decide (m < n) := keyN_lt m hm n hn
    have ih := insIt_N hn (l := l) fun k hk => h k (by simp [hk])
    have e2 : (itN m).key = (itN n).key ↔ m = n := by
      constructor
      · intro e
        have a1 := keyN_lt m hm n hn
        have a2 := keyN_lt n hn m hm
        rw [show keyN m = keyN n from e, lt_irr] at a1
        rw [show keyN m = keyN n from e, lt_irr] at a2
        have := of_decide_eq_false a1.symm
        have := of_decide_eq_false a2.symm
        omega
      · rintro rfl; rfl
    rw [List.map_cons]
    unfold insIt insN
    by_cases h1 : m < n
    · rw [if_pos (by rw [e1]; exact decide_eq_true h1), if_pos h1, ih]
      rfl
    · rw [if_neg (by rw [e1]; simpa using h1), if_neg h1]
      by_cases h2 : m = n
      · rw [if_pos (e2.2 h2), if_pos h2, h2]
        rfl
      · rw [if_neg (fun e => h2 (e2.1 e)), if_neg h2]
        rfl
/-- The numbers that are in a tree of these. -/
def numsOf (keys : List Nat) : List Nat := keys.foldl (fun l n => insN n l) []
theorem numsOf_snoc (keys : List Nat) (n : Nat) : numsOf (keys ++ [n]) = insN n (numsOf keys) := by
  unfold numsOf
  rw [List.foldl_append]
  rfl
end Sp
end Go.Proofs.YtmcpkhknjdiocaaGreatDoor
namespace Go.Proofs.YtmcpkhknjdiocaaGreatDoor
open Go.RowKit
attribute [local go_sem low] mk_extract
attribute [local go_sem] After.cell After.frozen mk_extract_end ByteArray.mk_append_mk
namespace Sp
theorem T.Ok.cnt_top {d : Nat} {t : T d} (h : T.Ok d true t) : (T.ids d t).length ≤ (T.items d t).length := by
  cases d with
  | zero =>
    show 1 ≤ t.2.length
    exact h.2.1
  | succ d =>
    have h' : T.Ok (d + 1) false t := h
    have := h'.cnt
    omega
theorem T.Ok.deep_top {d : Nat} {t : T d} (h : T.Ok d true t) : 2 ^ d ≤ (T.items d t).length := by
  cases d with
  | zero =>
    show 1 ≤ t.2.length
    exact h.2.1
  | succ d =>
    have h' : T.Ok (d + 1) false t := h
    have := h'.deep
    rw [Nat.pow_succ] at this
    omega
/-- A tree of so many items has at most so many levels. -/
theorem T.Ok.lev {d : Nat} {t : T d} (h : T.Ok d true t) (hn : (T.items d t).length < 256) : d < 8 := by
  have h1 := h.deep_top
  rcases Nat.lt_or_ge d 8 with h2 | h2
  · exact h2
  · have := Nat.pow_le_pow_right (show 0 < 2 by decide) h2
    omega
theorem Rt.At.cnt {P : List Page} {o : Option Rt} {n : Nat} (h : Rt.At P o n) : n ≤ (Rt.items o).length + 2 := by
  cases o with
  | none =>
    obtain ⟨_, rfl⟩ := h
    simp
  | some r =>
    obtain ⟨_, h2, h3⟩ := h
    have := h2.cnt_top
    show n ≤ (T.items r.d r.t).length + 2
    omega
theorem numsOf_lt {keys : List Nat} (h : ∀ k ∈ keys, k < 256) : ∀ k ∈ numsOf keys, k < 256 := by
  have : ∀ (l : List Nat), (∀ k ∈ l, k < 256) → ∀ k ∈ keys.foldl (fun l n => insN n l) l, k < 256 := by
    induction keys with
    | nil => exact fun l hl => hl
    | cons a keys ih =>
      intro l hl
      refine ih (fun k hk => h k (by simp [hk])) _ fun k hk => ?_
      rcases mem_insN.1 hk with rfl | hk
      · exact h k (by simp)
      · exact hl k hk
  exact this [] (by simp)
theorem numsOf_sorted (keys : List Nat) : (numsOf keys).Pairwise (· < ·) := by
  have : ∀ (l : List Nat), l.Pairwise (· < ·) → (keys.foldl (fun l n => insN n l) l).Pairwise (· < ·) := by
    induction keys with
    | nil => exact fun l hl => hl
    | cons a keys ih => exact fun l hl => ih _ (insN_sorted hl)
  exact this [] List.Pairwise.nil
theorem numsOf_len (keys : List Nat) : (numsOf keys).length ≤ keys.length := by
  have : ∀ (l : List Nat), (keys.foldl (fun l n => insN n l) l).length ≤ l.length + keys.length := by
    induction keys with
    | nil => simp
    | cons a keys ih =>
      intro l
      have h1 := ih (insN a l)
      have h2 := insN_len (n := a) l
      rw [List.foldl_cons, List.length_cons]
      omega
  simpa [numsOf] using this []
theorem find_congr {α : Type} {f g : α → Bool} : ∀ {l : List α}, (∀ a ∈ l, f a = g a) → l.find? f = l.find? g
  | [], _ => rfl
  | a :: l, h => by
    rw [List.find?_cons, List.find?_cons, h a (by simp), find_congr fun b hb => h b (by simp [hb])]
/-- The first number from one on (or behind it) that is there. -/
theorem find_at {l : List Nat} (hl : ∀ k ∈ l, k < 256) {n : Nat} (hn : n < 256) : (l.map itN).find? (fun y => !lt y.key (keyN n)) = (l.find? fun k => decide (n ≤ k)).map itN := by
  rw [List.find?_map]
  congr 1
  refine find_congr fun k hk => ?_
  show (!lt (keyN k) (keyN n)) = decide (n ≤ k)
  rw [keyN_lt k (hl k hk) n hn]
  by_cases h : k < n <;> simp [h] <;> omega
theorem find_behind {l : List Nat} (hl : ∀ k ∈ l, k < 256) {n : Nat} (hn : n < 256) : (l.map itN).find? (fun y => lt (keyN n) y.key) = (l.find? fun k => decide (n < k)).map itN := by
  rw [List.find?_map]
  congr 1
  refine find_congr fun k hk => ?_
  show lt (keyN n) (keyN k) = decide (n < k)
  exact keyN_lt n hn k (hl k hk)
theorem wants_at (key : Txt) : Wants (fun y => !lt y.key key) key := ⟨fun y h => by simp [h], fun y h => by simp [lt_asymm h]⟩
theorem wants_behind (key : Txt) : Wants (fun y => lt key y.key) key := ⟨fun y h => lt_asymm h, fun y h => h⟩
end Sp
end Go.Proofs.YtmcpkhknjdiocaaGreatDoor
namespace Go.Proofs.YtmcpkhknjdiocaaGreatDoor
open Go.RowKit
attribute [local go_sem low] mk_extract
attribute [local go_sem] After.cell After.frozen mk_extract_end ByteArray.mk_append_mk
namespace Sp
/-- How far a row is made: so many of the leaf's items are behind it; is the new one in it? -/
def LfOk (x : Item) (l0 : List Item) (k : Nat) (L : List Item) (dn : Bool) : Prop := insIt x l0 = L ++ (if dn then l0.drop k else insIt x (l0.drop k))
theorem LfOk.start (x : Item) (l0 : List Item) : LfOk x l0 0 [] false := rfl
theorem drop_getD {l0 : List Item} {k : Nat} (hk : k < l0.length) : l0.drop k = l0.getD k item0 :: l0.drop (k + 1) := by
  rw [List.drop_eq_getElem_cons hk]
  simp [List.getD, hk]
theorem LfOk.behind {x : Item} {l0 : List Item} {k : Nat} {L : List Item} (h : LfOk x l0 k L true) (hk : k < l0.length) : LfOk x l0 (k + 1) (L ++ [l0.getD k item0]) true := by
  unfold LfOk at *
  rw [h]
  simp only [if_true]
  rw [drop_getD hk]
  simp
theorem LfOk.ahead {x : Item} {l0 : List Item} {k : Nat} {L : List Item} (h : LfOk x l0 k L false) (hk : k < l0.length) (hlt : lt (l0.getD k item0).key x.key = true) : LfOk x l0 (k + 1) (L ++ [l0.getD k item0]) false := by
  unfold LfOk at *
  rw [h]
  simp only [Bool.false_eq_true, if_false]
  rw [drop_getD hk]
  conv => lhs; unfold insIt
  rw [if_pos hlt]
  simp
theorem LfOk.same {x : Item} {l0 : List Item} {k : Nat} {L : List Item} (h : LfOk x l0 k L false) (hk : k < l0.length) (hlt : lt (l0.getD k item0).key x.key = false) (he : (l0.getD k item0).key = x.key) : LfOk x l0 (k + 1) (L ++ [x]) true := by
  unfold LfOk at *
  rw [h]
  simp only [Bool.false_eq_true, if_false, if_true]
  rw [drop_getD hk]
  conv => lhs; unfold insIt
  rw [if_neg (by rw [hlt]; simp), if_pos he]
  simp
theorem LfOk.here {x : Item} {l0 : List Item} {k : Nat} {L : List Item} (h : LfOk x l0 k L false) (hk : k < l0.length) (hlt : lt (l0.getD k item0).key x.key = false) (he : (l0.getD k item0).key ≠ x.key) : LfOk x l0 (k + 1) (L ++ [x] ++ [l0.getD k item0]) true := by
  unfold LfOk at *
  rw [h]
  simp only [Bool.false_eq_true, if_false, if_true]
  rw [drop_getD hk]
  conv => lhs; unfold insIt
  rw [if_neg (by rw [hlt]; simp), if_neg he]
  simp
theorem LfOk.done {x : Item} {l0 L : List Item} (h : LfOk x l0 l0.length L true) : insIt x l0 = L := by
  unfold LfOk at h
  simpa using h
theorem LfOk.last {x : Item} {l0 L : List Item} (h : LfOk x l0 l0.length L false) : insIt x l0 = L ++ [x] := by
  unfold LfOk at h
  simpa [insIt] using h
/-- A branch's keys and numbers, with a child replaced. -/
theorem graft_keys {α : Type} {k : Nat} {t : α} {cs : List (Txt × α)} {c : Txt × α} (hc : cs[k]? = some c) : (graft k t none cs).map (·.1) = cs.map (·.1) := by
  unfold graft
  rw [hc]
  conv => rhs; rw [split_at hc]
  simp
theorem graft_keys' {α : Type} {k : Nat} {t : α} {m : Txt × α} {cs : List (Txt × α)} {c : Txt × α} (hc : cs[k]? = some c) : (graft k t (some m) cs).map (·.1) = (cs.map (·.1)).take (k + 1) ++ [m.1] ++ (cs.map (·.1)).drop (k + 1) := by
  have hk : k < cs.length := (List.getElem?_eq_some_iff.1 hc).1
  have hce : cs[k] = c := (List.getElem?_eq_some_iff.1 hc).2
  unfold graft
  rw [hc]
  dsimp only
  rw [List.take_succ_eq_append_getElem (by simpa using hk), List.getElem_map, hce]
  simp
theorem graft_ids {α : Type} {f : α → Int} {k : Nat} {t : α} {cs : List (Txt × α)} {c : Txt × α} (hc : cs[k]? = some c) : (graft k t none cs).map (fun c => f c.2) = (cs.map fun c => f c.2).set k (f t) := by
  have hk : k < cs.length := (List.getElem?_eq_some_iff.1 hc).1
  unfold graft
  rw [hc]
  dsimp only
  rw [List.set_eq_take_append_cons_drop, if_pos (by simpa using hk)]
  simp
theorem graft_ids' {α : Type} {f : α → Int} {k : Nat} {t : α} {m : Txt × α} {cs : List (Txt × α)} {c : Txt × α} (hc : cs[k]? = some c) :
    (graft k t (some m) cs).map (fun c => f c.2) = ((cs.map fun c => f c.2).set k (f t)).take (k + 1) ++ [f m.2] ++ ((cs.map fun c => f c.2).set k (f t)).drop (k + 1) := by
  have hk : k < cs.length := (List.getElem?_eq_some_iff.1 hc).1
  unfold graft
  rw [hc]
  dsimp only
  rw [List.take_succ_eq_append_getElem (by simpa using hk), List.getElem_set_self, List.take_set_of_le (Nat.le_refl k), List.drop_set_of_lt (Nat.lt_succ_self k)]
  simp
end Sp
end Go.Proofs.YtmcpkhknjdiocaaGreatDoor
namespace Go.Proofs.YtmcpkhknjdiocaaGreatDoor
open Go.RowKit
attribute [local go_sem low] mk_extract
attribute [local go_sem] After.cell After.frozen mk_extract_end ByteArray.mk_append_mk
namespace Sp
def moreId (d : Nat) (m : Option (Txt × T d)) : Nat := match m with | none => 0 | some m => T.id d m.2
def moreKey {d : Nat} (m : Option (Txt × T d)) : Txt := match m with | none => [] | some m => m.1
theorem put_is {x : Item} (hx : isItem x = true) {d : Nat} {t : T d} {P P' : List Page} {n : Nat} {b : Bool} (hok : T.Ok d b t) (r : PutRes P P' d t n (T.put x d t n)) (hn : (T.put x d t n).2.2 ≤ 400) :
    isPage (T.page d (T.put x d t n).1) = true ∧ ∀ m ∈ (T.put x d t n).2.1, isPage (T.page d m.2) = true := by
  obtain ⟨_, _, h3, h4⟩ := put_spec hx d b t n hok
  have h4 : T.Ok d true (T.put x d t n).1 := by
    cases b
    · exact h4.top
    · exact h4
  refine ⟨h4.page_is fun i hi => ⟨r.holds.ge i hi, ?_⟩, fun m hm => (h3 m hm).2.2.2.1.top.page_is fun i hi => ⟨(r.more m hm).ge i hi, ?_⟩⟩
  · exact Nat.lt_of_lt_of_le (r.ids i (List.mem_append.2 (.inl hi))).2 hn
  · refine Nat.lt_of_lt_of_le (r.ids i (List.mem_append.2 (.inr ?_))).2 hn
    exact List.mem_flatMap.2 ⟨m, by simpa using hm, hi⟩
theorem put_join0 {x : Item} (hx : isItem x = true) {id n : Nat} {l0 : List Item} {b : Bool} {P : List Page} (hok : T.Ok 0 b (id, l0)) (h : T.On P 0 (id, l0) n) (hn : (T.put x 0 (id, l0) n).2.2 ≤ 400) :
    (insIt x l0).length ≤ 5 ∧
    ((insIt x l0).length ≤ 4 → isPage (leafPg (insIt x l0)) = true ∧ PutRes P (P.set (id - 2) (leafPg (insIt x l0))) 0 (id, l0) n (T.put x 0 (id, l0) n) ∧ (T.put x 0 (id, l0) n).2.1 = none) ∧
    (¬ (insIt x l0).length ≤ 4 → isPage (leafPg ((insIt x l0).take 3)) = true ∧ isPage (leafPg ((insIt x l0).drop 3)) = true ∧ PutRes P (P.set (id - 2) (leafPg ((insIt x l0).take 3)) ++ [leafPg ((insIt x l0).drop 3)]) 0 (id, l0) n (T.put x 0 (id, l0) n) ∧
      (T.put x 0 (id, l0) n).2.2 = n + 1 ∧ moreId 0 (T.put x 0 (id, l0) n).2.1 = n ∧ moreKey (T.put x 0 (id, l0) n).2.1 = ((insIt x l0).getD 3 item0).key) := by
  have h4 : l0.length ≤ 4 := hok.1
  have r := leaf_res (x := x) h h4
  dsimp only at r
  have hl := (insIt_len x l0).2
  refine ⟨by omega, fun hs => ?_, fun hs => ?_⟩
  · rw [if_pos hs] at r
    have hp := (put_is hx hok r hn).1
    have e := put_zero x id l0 n
    rw [if_pos hs] at e
    refine ⟨?_, r, by rw [e]; rfl⟩
    rw [e] at hp
    exact hp
  · rw [if_neg hs] at r
    have hp := put_is hx hok r hn
    have e := put_zero x id l0 n
    rw [if_neg hs] at e
    refine ⟨?_, ?_, r, by rw [e], by rw [e]; rfl, by rw [e]; rfl⟩
    · have := hp.1
      rw [e] at this
      exact this
    · have := hp.2 (((insIt x l0).getD 3 item0).key, (n, (insIt x l0).drop 3)) (by rw [e]; rfl)
      exact this
theorem put_join {x : Item} (hx : isItem x = true) {d id n : Nat} {cs : List (Txt × T d)} {c : Txt × T d} {b : Bool} {P P1 : List Page} {ks : List Txt} {is : List Int} (hok : T.Ok (d + 1) b (id, cs)) (h : T.On P (d + 1) (id, cs) n) (hc : cs[downI x.key cs]? = some c)
    (r : PutRes P P1 d c.2 n (T.put x d c.2 n)) (hn : (T.put x (d + 1) (id, cs) n).2.2 ≤ 400)
    (hks : ks = (graft (downI x.key cs) (T.put x d c.2 n).1 (T.put x d c.2 n).2.1 cs).map (·.1)) (his : is = (graft (downI x.key cs) (T.put x d c.2 n).1 (T.put x d c.2 n).2.1 cs).map fun c => ((T.id d c.2 : Nat) : Int)) :
    ks.length ≤ 5 ∧ is.length = ks.length ∧
    (ks.length ≤ 4 → isPage (branchPg ks is) = true ∧ PutRes P (P1.set (id - 2) (branchPg ks is)) (d + 1) (id, cs) n (T.put x (d + 1) (id, cs) n) ∧ (T.put x (d + 1) (id, cs) n).2.1 = none) ∧
    (¬ ks.length ≤ 4 → isPage (branchPg (ks.take 3) (is.take 3)) = true ∧ isPage (branchPg ([] :: ks.drop 4) (is.drop 3)) = true ∧
      PutRes P (P1.set (id - 2) (branchPg (ks.take 3) (is.take 3)) ++ [branchPg ([] :: ks.drop 4) (is.drop 3)]) (d + 1) (id, cs) n (T.put x (d + 1) (id, cs) n) ∧
      (T.put x (d + 1) (id, cs) n).2.2 = (T.put x d c.2 n).2.2 + 1 ∧ moreId (d + 1) (T.put x (d + 1) (id, cs) n).2.1 = (T.put x d c.2 n).2.2 ∧ moreKey (T.put x (d + 1) (id, cs) n).2.1 = ks.getD 3 []) := by
  have hcl : cs.length ≤ 4 := hok.2.1
  have hlen : (graft (downI x.key cs) (T.put x d c.2 n).1 (T.put x d c.2 n).2.1 cs).length ≤ 5 := by
    unfold graft
    rw [hc]
    have hk : downI x.key cs < cs.length := (List.getElem?_eq_some_iff.1 hc).1
    have hml : (T.put x d c.2 n).2.1.toList.length ≤ 1 := by cases (T.put x d c.2 n).2.1 <;> simp
    simp only [List.length_append, List.length_cons, List.length_take, List.length_drop]
    omega
  have e := put_succ x d id cs n
  rw [hc] at e
  dsimp only at e
  have hno := node_res (x := x) (P' := if ks.length ≤ 4 then P1.set (id - 2) (branchPg ks is) else P1.set (id - 2) (branchPg (ks.take 3) (is.take 3)) ++ [branchPg ([] :: ks.drop 4) (is.drop 3)]) h hc hcl r
  have hl1 : ks.length = (graft (downI x.key cs) (T.put x d c.2 n).1 (T.put x d c.2 n).2.1 cs).length := by rw [hks, List.length_map]
  have hl2 : is.length = ks.length := by rw [his, hl1, List.length_map]
  have r2 := hno (fun h4 => by
    rw [if_pos (by omega)]
    rw [hks, his]
    rfl) (fun a0 a1 a2 a3 a4 hg => by
    rw [hg] at hl1
    rw [if_neg (by rw [hl1]; simp)]
    rw [hks, his, hg]
    rfl)
  refine ⟨by omega, hl2, fun hs => ?_, fun hs => ?_⟩
  · rw [if_pos hs] at r2
    have hp := (put_is hx hok r2 hn).1
    rw [if_pos (by omega)] at e
    refine ⟨?_, r2, by rw [e]⟩
    rw [e] at hp
    rw [hks, his]
    exact hp
  · rw [if_neg hs] at r2
    have hp := put_is hx hok r2 hn
    rw [if_neg (by omega)] at e
    generalize hgr : graft (downI x.key cs) (T.put x d c.2 n).1 (T.put x d c.2 n).2.1 cs = g at *
    match g, hl1, hlen with
    | [a0, a1, a2, a3, a4], _, _ =>
      have e' : T.put x (d + 1) (id, cs) n = ((id, [a0, a1, a2]), some (a3.1, ((T.put x d c.2 n).2.2, [([], a3.2), a4])), (T.put x d c.2 n).2.2 + 1) := e
      refine ⟨?_, ?_, r2, by rw [e'], by rw [e']; rfl, by rw [e', hks]; rfl⟩
      · have := hp.1
        rw [e'] at this
        rw [hks, his]
        exact this
      · have := hp.2 (a3.1, ((T.put x d c.2 n).2.2, [([], a3.2), a4])) (by rw [e']; rfl)
        rw [hks, his]
        exact this
    | [], h1, _ => rw [h1] at hs; simp at hs
    | [_], h1, _ => rw [h1] at hs; simp at hs
    | [_, _], h1, _ => rw [h1] at hs; simp at hs
    | [_, _, _], h1, _ => rw [h1] at hs; simp at hs
    | [_, _, _, _], h1, _ => rw [h1] at hs; simp at hs
    | _ :: _ :: _ :: _ :: _ :: _ :: _, _, h2 => simp at h2
/-- A tree's child on its pages. -/
theorem T.On.kid {P : List Page} {d id n : Nat} {cs : List (Txt × T d)} {c : Txt × T d} {k : Nat} (h : T.On P (d + 1) (id, cs) n) (hc : cs[k]? = some c) : T.On P d c.2 n := by
  have hcm : c ∈ cs := List.mem_of_getElem? hc
  refine ⟨h.len, h.holds.2 c hcm, fun i hi => h.lt i (List.mem_cons_of_mem _ (List.mem_flatMap.2 ⟨c, hcm, hi⟩)), ?_⟩
  have h2 : (cs.flatMap fun a : Txt × T d => T.ids d a.2).Nodup := (List.nodup_cons.1 (show (id :: cs.flatMap fun a : Txt × T d => T.ids d a.2).Nodup from h.nodup)).2
  rw [split_at hc, List.flatMap_append, List.flatMap_cons] at h2
  exact (List.nodup_append.1 (List.nodup_append.1 h2).2.1).1
end Sp
end Go.Proofs.YtmcpkhknjdiocaaGreatDoor
namespace Go.Proofs.YtmcpkhknjdiocaaGreatDoor
open Go.RowKit
attribute [local go_sem low] mk_extract
attribute [local go_sem] After.cell After.frozen mk_extract_end ByteArray.mk_append_mk
namespace Sp
/-- The first number from one on. -/
def fromN (l : List Nat) (n : Nat) : Option Nat := l.find? fun k => decide (n ≤ k)
theorem from_in {l : List Nat} {n : Nat} (hs : l.Pairwise (· < ·)) (h : n ∈ l) : fromN l n = some n := by
  unfold fromN
  induction l with
  | nil => simp at h
  | cons a l ih =>
    obtain ⟨h1, h2⟩ := List.pairwise_cons.1 hs
    rw [List.find?_cons]
    rcases List.mem_cons.1 h with rfl | h
    · simp
    · have := h1 n h
      simp only [show ¬ n ≤ a by omega, decide_false]
      exact ih h2 h
theorem from_spec {l : List Nat} (hs : l.Pairwise (· < ·)) (n : Nat) : (fromN l n = none ∧ ∀ k ∈ l, k < n) ∨ ∃ m, fromN l n = some m ∧ m ∈ l ∧ n ≤ m ∧ ∀ k ∈ l, n ≤ k → m ≤ k := by
  unfold fromN
  induction l with
  | nil => exact .inl ⟨rfl, by simp⟩
  | cons a l ih =>
    obtain ⟨h1, h2⟩ := List.pairwise_cons.1 hs
    rw [List.find?_cons]
    by_cases hn : n ≤ a
    · simp only [hn, decide_true]
      refine .inr ⟨a, rfl, by simp, hn, fun k hk _ => ?_⟩
      rcases List.mem_cons.1 hk with rfl | hk
      · exact Nat.le_refl _
      · exact Nat.le_of_lt (h1 k hk)
    · simp only [hn, decide_false]
      rcases ih h2 with ⟨e, h⟩ | ⟨m, e, hm, hnm, h⟩
      · refine .inl ⟨e, fun k hk => ?_⟩
        rcases List.mem_cons.1 hk with rfl | hk
        · omega
        · exact h k hk
      · refine .inr ⟨m, e, by simp [hm], hnm, fun k hk hk2 => ?_⟩
        rcases List.mem_cons.1 hk with rfl | hk
        · omega
        · exact h k hk hk2
theorem from_self {l : List Nat} (hs : l.Pairwise (· < ·)) (n : Nat) : fromN l n = some n ↔ n ∈ l := by
  constructor
  · intro h
    rcases from_spec hs n with ⟨e, _⟩ | ⟨m, e, hm, _⟩
    · rw [e] at h; cases h
    · rw [e] at h
      rw [← Option.some.inj h]
      exact hm
  · exact from_in hs
theorem from_lt {l : List Nat} (h : ∀ k ∈ l, k < 256) {n m : Nat} (hm : fromN l n = some m) : m < 256 := h m (List.mem_of_find?_eq_some hm)
/-- The least number from k on among so many; 256: none. -/
def leastF (k : Nat) (keys : List Nat) : Nat := keys.foldl (fun a n => if k ≤ n then min a n else a) 256
theorem keyN_inj {a b : Nat} (ha : a < 256) (hb : b < 256) (h : keyN a = keyN b) : a = b := by
  have h1 := keyN_lt a ha b hb
  have h2 := keyN_lt b hb a ha
  rw [h, lt_irr] at h1
  rw [h, lt_irr] at h2
  have h1 : ¬ a < b := fun e => by simp [e] at h1
  have h2 : ¬ b < a := fun e => by simp [e] at h2
  omega
/-- What Get, Above, Behind tell of a tree of numbers. -/
def getI (l : List Item) (key : Txt) : Option Item := (l.find? fun y => !lt y.key key).bind fun y => if y.key = key then some y else none
theorem get_N {l : List Nat} (hl : ∀ k ∈ l, k < 256) (hs : l.Pairwise (· < ·)) {n : Nat} (hn : n < 256) : getI (l.map itN) (keyN n) = if n ∈ l then some (itN n) else none := by
  unfold getI
  rw [find_at hl hn]
  show ((fromN l n).map itN).bind _ = _
  by_cases h : n ∈ l
  · rw [from_in hs h, if_pos h]
    exact if_pos rfl
  · rw [if_neg h]
    cases hf : fromN l n with
    | none => rfl
    | some m =>
      show (if (itN m).key = keyN n then some (itN m) else none) = none
      refine if_neg fun e => h ?_
      have hm := from_lt hl hf
      have : m = n := keyN_inj hm hn e
      rw [this] at hf
      exact (from_self hs n).1 hf
end Sp
end Go.Proofs.YtmcpkhknjdiocaaGreatDoor
