/- The document's stores: in memory; a page's place; half, down. Trees of the document: a tree into which an item is put is right, and has it. Trees of the document: on pages. Trees of the document: a branch's page, on pages. Trees of the document: their pages are right; how many they are; a whole tree. Trees of the document: a whole tree, an item put in; where a key is. Trees of the document: in which leaf a key is, from which key on others follow. The document's stores: a page's place; half; which child. The document's stores: a page set in place of one. The document's stores: down: which child. The document's stores: a page that is laid behind all others: what is held. The document's stores: what is held while a page is added. The document's stores: an own page is read; touched. Rows of items in memory, as a page has them; parts of rows. Trees of the document: the first item that is wanted; the trees that are made of numbers. -/
import Derived.Test.YtmcpkhknjdiocaaGreatDoorQB09
import Derived.Test.YtmcpkhknjdiocaaGreatDoorQB13
import Derived.Test.YtmcpkhknjdiocaaGreatDoorQB17
import Derived.Test.YtmcpkhknjdiocaaGreatDoorQB19
import Derived.Test.YtmcpkhknjdiocaaGreatDoorQB26
import Derived.Deep.AppendLies
set_option linter.unusedSimpArgs false
set_option linter.unusedVariables false
namespace Go.Proofs.YtmcpkhknjdiocaaGreatDoor
open Go.RowKit
attribute [local go_sem low] mk_extract
attribute [local go_sem] After.cell After.frozen mk_extract_end ByteArray.mk_append_mk
abbrev StoreT : TypeId := 136
/-- Pages that lie side by side. -/
def PgCells (w : World) (M : Nat → Prop) : List Sp.Page → List Value → Prop
  | [], xs => xs = []
  | p :: P, xs => ∃ r ys, xs = pageV p r ++ ys ∧ PageRd w M p r ∧ PgCells w M P ys
theorem PgCells.chg {w w' : World} {M : Nat → Prop} (hk : Chg M w w') : ∀ {P : List Sp.Page} {xs : List Value}, PgCells w M P xs → PgCells w' M P xs
  | [], _, h => h
  | _ :: _, _, ⟨r, ys, e, hr, h⟩ => ⟨r, ys, e, hr.chg hk, h.chg hk⟩
theorem PgCells.len {w : World} {M : Nat → Prop} : ∀ {P : List Sp.Page} {xs : List Value}, PgCells w M P xs → xs.length = P.length * 14
  | [], xs, h => by
    have h : xs = [] := h
    rw [h]; rfl
  | _ :: P, _, ⟨r, ys, e, _, h⟩ => by
    have := h.len
    rw [e, List.length_append, this]
    simp [pageV, mtV]
    omega
theorem PgCells.app {w : World} {M : Nat → Prop} {Q : List Sp.Page} {ys : List Value} (hq : PgCells w M Q ys) : ∀ {P : List Sp.Page} {xs : List Value}, PgCells w M P xs → PgCells w M (P ++ Q) (xs ++ ys)
  | [], xs, h => by
    have h : xs = [] := h
    rw [h]; exact hq
  | _ :: P, _, ⟨r, zs, e, hr, h⟩ => ⟨r, zs ++ ys, by rw [e, List.append_assoc], hr, hq.app h⟩
theorem PgCells.at_ {w : World} {M : Nat → Prop} : ∀ {P : List Sp.Page} {xs : List Value} {k : Nat} {p : Sp.Page}, PgCells w M P xs → P[k]? = some p → ∃ r, PageRd w M p r ∧ ∀ j u, (pageV p r)[j]? = some u → xs[k * 14 + j]? = some u
  | [], _, _, _, _, h => by simp at h
  | q :: P, xs, 0, p, ⟨r, ys, e, hr, _⟩, h => by
    have : q = p := by simpa using h
    subst this
    refine ⟨r, hr, fun j u hu => ?_⟩
    rw [e, Nat.zero_mul, Nat.zero_add, List.getElem?_append_left (List.getElem?_eq_some_iff.1 hu).1]
    exact hu
  | q :: P, xs, k + 1, p, ⟨r, ys, e, _, hc⟩, h => by
    rw [List.getElem?_cons_succ] at h
    obtain ⟨r', hr', hx⟩ := hc.at_ h
    refine ⟨r', hr', fun j u hu => ?_⟩
    have hl : (pageV q r).length = 14 := by simp [pageV, mtV]
    rw [e, List.getElem?_append_right (by omega), hl, show (k + 1) * 14 + j - 14 = k * 14 + j by omega]
    exact hx j u hu
/-- The numbers of so many pages. -/
def idsV (n : Nat) : List Value := (List.range n).map fun k => Value.int .i64 ((k + 2 : Nat) : Int)
/-- A store in memory: its file, its pages, numbered from 2 on; none is free. -/
structure StoreAt (w : World) (s : Nat) (fp vi vp : Value) (P : List Sp.Page) : Prop where
  bs : Blk w s StoreT #[fp, .int .i64 ((P.length + 2 : Nat) : Int), .int .i64 400, .slice none 0 0, .slice none 0 0, vi, vp]
  oi : w.ownsRow 0 3 1 vi P.length (idsV P.length)
  op : ∃ xs, w.ownsRow 0 PageT 14 vp P.length xs ∧ PgCells w (OneM s) P xs
theorem StoreAt.go {w w' : World} {s : Nat} {fp vi vp : Value} {P : List Sp.Page} (h : StoreAt w s fp vi vp P) (hb : Below w.heap.size w w') : StoreAt w' s fp vi vp P := by
  obtain ⟨xs, h1, h2⟩ := h.op
  exact ⟨h.bs.below hb h.bs.lt, own_chg2 (S := NoM) h.oi (Chg.of_below hb) (fun _ _ h => h), ⟨xs, own_chg2 (S := NoM) h1 (Chg.of_below hb) (fun _ _ h => h), h2.chg (Chg.of_below hb)⟩⟩
end Go.Proofs.YtmcpkhknjdiocaaGreatDoor
namespace Go.Proofs.YtmcpkhknjdiocaaGreatDoor
open Go.RowKit
attribute [local go_sem low] mk_extract
attribute [local go_sem] After.cell After.frozen mk_extract_end ByteArray.mk_append_mk
namespace Sp
def PutOk (x : Item) (d : Nat) (b : Bool) (t : T d) (r : T d × Option (Txt × T d) × Nat) : Prop :=
  T.id d r.1 = T.id d t ∧ T.items d r.1 ++ (r.2.1.toList.flatMap fun m => T.items d m.2) = insIt x (T.items d t) ∧
  (∀ m ∈ r.2.1, (∀ y ∈ T.items d r.1, lt y.key m.1 = true) ∧ (∀ y ∈ T.items d m.2, lt y.key m.1 = false) ∧ short m.1 = true ∧ T.Ok d false m.2 ∧ T.Ok d false r.1) ∧ T.Ok d b r.1
end Sp
end Go.Proofs.YtmcpkhknjdiocaaGreatDoor
namespace Go.Proofs.YtmcpkhknjdiocaaGreatDoor
open Go.RowKit
attribute [local go_sem low] mk_extract
attribute [local go_sem] After.cell After.frozen mk_extract_end ByteArray.mk_append_mk
namespace Sp
def leafPg (l : List Item) : Page := ⟨1, l, [], [], [], [], [], 0, mt0⟩
def branchPg (ks : List Txt) (is : List Int) : Page := ⟨2, [], ks, is, [], [], [], 0, mt0⟩
def T.ids : (d : Nat) → T d → List Nat
  | 0, t => [t.1]
  | d + 1, t => t.1 :: t.2.flatMap fun c => T.ids d c.2
def T.page : (d : Nat) → T d → Page
  | 0, t => leafPg t.2
  | d + 1, t => branchPg (t.2.map (·.1)) (t.2.map fun c => ((T.id d c.2 : Nat) : Int))
/-- The pages of a tree lie in a row of pages, from number 2 on. -/
def T.Holds (P : List Page) : (d : Nat) → T d → Prop
  | 0, t => 2 ≤ t.1 ∧ P[t.1 - 2]? = some (T.page 0 t)
  | d + 1, t => (2 ≤ t.1 ∧ P[t.1 - 2]? = some (T.page (d + 1) t)) ∧ ∀ c ∈ t.2, T.Holds P d c.2
theorem T.Holds.root {P : List Page} {d : Nat} {t : T d} (h : T.Holds P d t) : 2 ≤ T.id d t ∧ P[T.id d t - 2]? = some (T.page d t) := by
  cases d with
  | zero => exact h
  | succ d => exact h.1
theorem T.Holds.keep {P P' : List Page} : ∀ {d : Nat} {t : T d}, T.Holds P d t → (∀ i ∈ T.ids d t, P'[i - 2]? = P[i - 2]?) → T.Holds P' d t
  | 0, t, h, hk => ⟨h.1, (hk t.1 (by simp [T.ids])).trans h.2⟩
  | d + 1, t, h, hk => ⟨⟨h.1.1, (hk t.1 (by simp [T.ids])).trans h.1.2⟩, fun c hc => (h.2 c hc).keep fun i hi => hk i (List.mem_cons_of_mem _ (List.mem_flatMap.2 ⟨c, hc, hi⟩))⟩
theorem T.Holds.ge {P : List Page} : ∀ {d : Nat} {t : T d}, T.Holds P d t → ∀ i ∈ T.ids d t, 2 ≤ i
  | 0, t, h, i, hi => by
    have : i = t.1 := by simpa [T.ids] using hi
    rw [this]; exact h.1
  | d + 1, t, h, i, hi => by
    rcases List.mem_cons.1 (show i ∈ t.1 :: t.2.flatMap (fun c => T.ids d c.2) from hi) with rfl | hi
    · exact h.1.1
    · obtain ⟨c, hc, hi⟩ := List.mem_flatMap.1 hi
      exact (h.2 c hc).ge i hi
def moreIds (d : Nat) (m : Option (Txt × T d)) : List Nat := m.toList.flatMap fun m => T.ids d m.2
/-- What putting an item in leaves of the pages. -/
structure PutRes (P P' : List Page) (d : Nat) (t : T d) (n : Nat) (r : T d × Option (Txt × T d) × Nat) : Prop where
  len : P'.length + 2 = r.2.2
  le : n ≤ r.2.2
  holds : T.Holds P' d r.1
  more : ∀ m ∈ r.2.1, T.Holds P' d m.2
  frame : ∀ i, 2 ≤ i → i < n → i ∉ T.ids d t → P'[i - 2]? = P[i - 2]?
  ids : ∀ i ∈ T.ids d r.1 ++ moreIds d r.2.1, (i ∈ T.ids d t ∨ n ≤ i) ∧ i < r.2.2
  nodup : (T.ids d r.1 ++ moreIds d r.2.1).Nodup
/-- A tree on pages. -/
structure T.On (P : List Page) (d : Nat) (t : T d) (n : Nat) : Prop where
  len : P.length + 2 = n
  holds : T.Holds P d t
  lt : ∀ i ∈ T.ids d t, i < n
  nodup : (T.ids d t).Nodup
end Sp
end Go.Proofs.YtmcpkhknjdiocaaGreatDoor
namespace Go.Proofs.YtmcpkhknjdiocaaGreatDoor
open Go.RowKit
attribute [local go_sem low] mk_extract
attribute [local go_sem] After.cell After.frozen mk_extract_end ByteArray.mk_append_mk
namespace Sp
end Sp
end Go.Proofs.YtmcpkhknjdiocaaGreatDoor
namespace Go.Proofs.YtmcpkhknjdiocaaGreatDoor
open Go.RowKit
attribute [local go_sem low] mk_extract
attribute [local go_sem] After.cell After.frozen mk_extract_end ByteArray.mk_append_mk
namespace Sp
/-- A right tree has fewer pages than items. -/
theorem T.Ok.cnt : ∀ {d : Nat} {t : T d}, T.Ok d false t → (T.ids d t).length + 1 ≤ (T.items d t).length
  | 0, t, h => by
    have h2 : 2 ≤ t.2.length := h.2.1
    show 1 + 1 ≤ t.2.length
    exact h2
  | d + 1, (id, cs), h => by
    obtain ⟨h2, _, _, _, _, ho⟩ := h
    have h2 : 2 ≤ cs.length := h2
    have ho : ∀ c ∈ cs, T.Ok d false c.2 := ho
    have hsum : ∀ l : List (Txt × T d), (∀ c ∈ l, T.Ok d false c.2) → (l.flatMap fun a : Txt × T d => T.ids d a.2).length + l.length ≤ (l.flatMap fun a : Txt × T d => T.items d a.2).length := by
      intro l hl
      induction l with
      | nil => simp
      | cons a l ih =>
        have h1 := (hl a (by simp)).cnt
        have h2 := ih fun c hc => hl c (by simp [hc])
        simp only [List.flatMap_cons, List.length_append, List.length_cons]
        omega
    have := hsum cs ho
    show (id :: cs.flatMap fun a : Txt × T d => T.ids d a.2).length + 1 ≤ (cs.flatMap fun a : Txt × T d => T.items d a.2).length
    simp only [List.length_cons]
    omega
/-- And so many levels. -/
theorem T.Ok.deep : ∀ {d : Nat} {t : T d}, T.Ok d false t → 2 ^ (d + 1) ≤ (T.items d t).length
  | 0, t, h => h.2.1
  | d + 1, (id, cs), h => by
    obtain ⟨h2, _, _, _, _, ho⟩ := h
    have h2 : 2 ≤ cs.length := h2
    have ho : ∀ c ∈ cs, T.Ok d false c.2 := ho
    match cs, h2 with
    | a :: b :: l, _ =>
      have h1 := (ho a (by simp)).deep
      have h3 := (ho b (by simp)).deep
      show 2 ^ (d + 1 + 1) ≤ ((a :: b :: l).flatMap fun a : Txt × T d => T.items d a.2).length
      simp only [List.flatMap_cons, List.length_append]
      rw [Nat.pow_succ]
      omega
end Sp
end Go.Proofs.YtmcpkhknjdiocaaGreatDoor
namespace Go.Proofs.YtmcpkhknjdiocaaGreatDoor
open Go.RowKit
attribute [local go_sem low] mk_extract
attribute [local go_sem] After.cell After.frozen mk_extract_end ByteArray.mk_append_mk
namespace Sp
/-- A tree, with its levels. -/
structure Rt where
  d : Nat
  t : T d
def Rt.items (o : Option Rt) : List Item := match o with | none => [] | some r => T.items r.d r.t
def Rt.root (o : Option Rt) : Nat := match o with | none => 0 | some r => T.id r.d r.t
def putR (x : Item) (o : Option Rt) (n : Nat) : Option Rt × Nat :=
  match o with
  | none => (some ⟨0, (n, [x])⟩, n + 1)
  | some r => match (T.put x r.d r.t n).2.1 with
    | none => (some ⟨r.d, (T.put x r.d r.t n).1⟩, (T.put x r.d r.t n).2.2)
    | some m => (some ⟨r.d + 1, ((T.put x r.d r.t n).2.2, [([], (T.put x r.d r.t n).1), m])⟩, (T.put x r.d r.t n).2.2 + 1)
/-- A whole right tree on pages: all pages are the tree's. -/
def Rt.At (P : List Page) (o : Option Rt) (n : Nat) : Prop := match o with
  | none => P = [] ∧ n = 2
  | some r => T.On P r.d r.t n ∧ T.Ok r.d true r.t ∧ (T.ids r.d r.t).length + 2 = n
end Sp
end Go.Proofs.YtmcpkhknjdiocaaGreatDoor
namespace Go.Proofs.YtmcpkhknjdiocaaGreatDoor
open Go.RowKit
attribute [local go_sem low] mk_extract
attribute [local go_sem] After.cell After.frozen mk_extract_end ByteArray.mk_append_mk
namespace Sp
def leafOf : (d : Nat) → T d → Txt → Txt → List Item × Txt
  | 0, t, _, b => (t.2, b)
  | d + 1, t, key, b => match t.2[downI key t.2]? with
    | none => ([], b)
    | some c => leafOf d c.2 key (match t.2[downI key t.2 + 1]? with | some c' => c'.1 | none => b)
/-- What lies around a leaf. -/
def LeafAt (d : Nat) (t : T d) (key b : Txt) : Prop :=
  ∃ A B, T.items d t = A ++ ((leafOf d t key b).1 ++ B) ∧ (∀ y ∈ A, lt y.key key = true) ∧ (leafOf d t key b).1 ≠ [] ∧
    (((leafOf d t key b).2 = b ∧ B = []) ∨ (lt key (leafOf d t key b).2 = true ∧ (∀ y ∈ (leafOf d t key b).1, lt y.key (leafOf d t key b).2 = true) ∧ (∀ y ∈ B, lt y.key (leafOf d t key b).2 = false) ∧ B ≠ [] ∧
      ∀ b', ∃ B', B = (leafOf d t (leafOf d t key b).2 b').1 ++ B'))
end Sp
end Go.Proofs.YtmcpkhknjdiocaaGreatDoor
namespace Go.Proofs.YtmcpkhknjdiocaaGreatDoor
open Go.RowKit
attribute [local go_sem low] mk_extract
attribute [local go_sem] After.cell After.frozen mk_extract_end ByteArray.mk_append_mk
namespace Sp
/-- The last key but the first that isn't above, of so many. -/
def dn (ks : List Txt) (key : Txt) : Nat → Nat
  | 0 => 0
  | i + 1 => if i ≠ 0 ∧ lt key (ks.getD i []) = false then i else dn ks key i
end Sp
end Go.Proofs.YtmcpkhknjdiocaaGreatDoor
namespace Go.Proofs.YtmcpkhknjdiocaaGreatDoor
open Go.RowKit
attribute [local go_sem low] mk_extract
attribute [local go_sem] After.cell After.frozen mk_extract_end ByteArray.mk_append_mk
theorem pageV_one (p : Sp.Page) (r : Refs) : ∀ u ∈ pageV p r, u.oneCell' = true := by
  intro u hu
  simp only [pageV, mtV, List.mem_append, List.mem_cons, List.not_mem_nil, or_false] at hu
  rcases hu with rfl | rfl | rfl | rfl | rfl | rfl | rfl | rfl | rfl | rfl | rfl | rfl | rfl | rfl <;> rfl
theorem PgCells.one {w : World} {M : Nat → Prop} : ∀ {P : List Sp.Page} {xs : List Value}, PgCells w M P xs → ∀ u ∈ xs, u.oneCell' = true
  | [], xs, h, u, hu => by
    have h : xs = [] := h
    rw [h] at hu; simp at hu
  | p :: P, xs, ⟨r, ys, e, _, h⟩, u, hu => by
    rw [e] at hu
    rcases List.mem_append.1 hu with hu | hu
    · exact pageV_one p r u hu
    · exact h.one u hu
theorem PgCells.set {w : World} {M : Nat → Prop} {q : Sp.Page} {s : Refs} (hq : PageRd w M q s) : ∀ {P : List Sp.Page} {xs : List Value} {k : Nat}, PgCells w M P xs → k < P.length → PgCells w M (P.set k q) (xs.take (k * 14) ++ pageV q s ++ xs.drop (k * 14 + 14))
  | [], _, _, _, h => by simp at h
  | p :: P, xs, 0, ⟨r, ys, e, _, h⟩, _ => by
    have hl : (pageV p r).length = 14 := by simp [pageV, mtV]
    refine ⟨s, ys, ?_, hq, h⟩
    rw [e, Nat.zero_mul, List.take_zero, List.nil_append, Nat.zero_add, ← hl, List.drop_left]
  | p :: P, xs, k + 1, ⟨r, ys, e, hr, h⟩, hk => by
    have hl : (pageV p r).length = 14 := by simp [pageV, mtV]
    refine ⟨r, ys.take (k * 14) ++ pageV q s ++ ys.drop (k * 14 + 14), ?_, hr, h.set hq (by simpa using hk)⟩
    rw [e, show (k + 1) * 14 = (pageV p r).length + k * 14 by omega, List.take_append, show (pageV p r).length + k * 14 + 14 = (pageV p r).length + (k * 14 + 14) by omega, List.drop_append]
    rw [List.take_of_length_le (by omega), List.drop_eq_nil_of_le (by omega), Nat.add_sub_cancel_left, Nat.add_sub_cancel_left]
    simp
/-- The block of an owned row. -/
theorem own_blk {w : World} {base n : Nat} {e : TypeId} {size g cap : Nat} {xs : List Value} (h : w.ownsRow base e size (.slice (some ⟨g, 0, none⟩) n cap) n xs) :
    ∃ cur, Blk w g e cur ∧ n * size ≤ cur.size ∧ cur.toList.take (n * size) = xs ∧ ∀ (w' : World) (cur' : Array Value), Blk w' g e cur' → cur'.size = cur.size → w'.ownsRow base e size (.slice (some ⟨g, 0, none⟩) n cap) n (cur'.toList.take (n * size)) := by
  obtain ⟨h1, h2⟩ := h
  rcases h2 with ⟨h', _⟩ | ⟨g', cap', cur, hv, hb, hB, hn, hm, hs, ht⟩
  · cases h'
  · simp only [Value.slice.injEq, Option.some.injEq, Addr.mk.injEq] at hv
    obtain ⟨⟨rfl, _⟩, _, rfl⟩ := hv
    have hle : n * size ≤ cur.size := by
      rw [hs]; exact Nat.mul_le_mul_right _ hn
    refine ⟨cur, hB, hle, ht, fun w' cur' hB' hs' => ⟨?_, .inr ⟨g, cap, cur', rfl, hb, hB', hn, hm, hs'.trans hs, rfl⟩⟩⟩
    rw [List.length_take, Array.length_toList, hs']
    omega
theorem own_nil (w : World) (base : Nat) (e : TypeId) (size : Nat) : w.ownsRow base e size (.slice none 0 0) 0 [] := ⟨by simp, .inl ⟨rfl, rfl⟩⟩
theorem own_some {w : World} {base n : Nat} {e : TypeId} {size : Nat} {v : Value} {xs : List Value} (h : w.ownsRow base e size v n xs) (hn : 0 < n) : ∃ g cap, v = .slice (some ⟨g, 0, none⟩) n cap ∧ g < w.heap.size ∧ ∀ j u, xs[j]? = some u → w.cell? ⟨g, j, none⟩ = some u := by
  obtain ⟨h1, h2⟩ := h
  rcases h2 with ⟨h', h0⟩ | ⟨g, cap, cur, hv, hb, hB, hnc, hm, hs, ht⟩
  · rw [h'] at *
    omega
  · have hB : Blk w g e cur := hB
    refine ⟨g, cap, hv, hB.lt, fun j u hu => (hB.cell j).trans ?_⟩
    rw [← ht, List.getElem?_take] at hu
    split at hu
    · rw [← hu, Array.getElem?_toList]
    · cases hu
theorem wpList_gen {P : Program} {ops rest : _} {a : Act} {w : World} {Q : Exit → Act → World → Prop} (R : World → Prop) (hR : R w) (h : ∀ W, R W → wpList P ops Q rest a W) : wpList P ops Q rest a w := h w hR
/-- A store whose pages lie in a new row that it doesn't know yet. -/
structure SetW (w w4 : World) (s : Nat) (v' : Value) (fp vi vp : Value) (P : List Sp.Page) : Prop where
  bs : Blk w4 s StoreT #[fp, .int .i64 ((P.length + 2 : Nat) : Int), .int .i64 400, .slice none 0 0, .slice none 0 0, vi, vp]
  oi : w4.ownsRow 0 3 1 vi P.length (idsV P.length)
  op : ∃ xs, w4.ownsRow 0 PageT 14 v' P.length xs ∧ PgCells w4 (OneM s) P xs
  nb : ∀ k, v'.ownBlock = some k → k ≠ s
  ck : Chg (OneM s) w w4
theorem SetW.done {w w4 : World} {s : Nat} {v' fp vi vp : Value} {P : List Sp.Page} (h : SetW w w4 s v' fp vi vp P) : StoreAt (w4.setCell ⟨s, 6, none⟩ v') s fp vi v' P ∧ Chg (OneM s) w (w4.setCell ⟨s, 6, none⟩ v') := by
  have hk := Chg.set1 w4 s 6 v'
  obtain ⟨xs, h1, h2⟩ := h.op
  refine ⟨⟨h.bs.set_ 6 v', own_chg2 h.oi hk fun k hk h' => ?_, xs, own_chg2 h1 hk fun k hk h' => h.nb k hk h', h2.chg hk⟩, h.ck.trans hk⟩
  exact own_not h.oi (t := StoreT) (by decide) k hk _ (h'.symm ▸ h.bs)
theorem chg_setRow1' (w : World) (k : Nat) (cs : Array Value) : Chg (OneM k) w (w.setRow k cs) :=
  ⟨rfl, rfl, rfl, by simp, fun i _ hs => setRow_other w k i cs (fun e => hs e)⟩
end Go.Proofs.YtmcpkhknjdiocaaGreatDoor
namespace Go.Proofs.YtmcpkhknjdiocaaGreatDoor
open Go.RowKit
attribute [local go_sem low] mk_extract
attribute [local go_sem] After.cell After.frozen mk_extract_end ByteArray.mk_append_mk
theorem lt_le (x key : Txt) : (Op.bytesLess x key = true ∨ (x == key) = true) ↔ Sp.lt key x = false := by
  show (Sp.lt x key = true ∨ (x == key) = true) ↔ Sp.lt key x = false
  rw [beq_iff_eq]
  constructor
  · rintro (h | rfl)
    · rcases hq : Sp.lt key x with _ | _
      · rfl
      · exact absurd (Sp.lt_trans h hq) (by rw [Sp.lt_irr]; exact Bool.false_ne_true)
    · exact Sp.lt_irr _
  · intro h
    by_cases hx : x = key
    · exact .inr hx
    · exact .inl (by
        rcases Sp.lt_tri x key with h' | h' | h'
        · exact h'
        · exact absurd h' hx
        · rw [h'] at h; cases h)
end Go.Proofs.YtmcpkhknjdiocaaGreatDoor
namespace Go.Proofs.YtmcpkhknjdiocaaGreatDoor
open Go.RowKit
attribute [local go_sem low] mk_extract
attribute [local go_sem] After.cell After.frozen mk_extract_end ByteArray.mk_append_mk
/-- A page on its way into a store: how things lie. -/
structure DrS (w W : World) (s b ni : Nat) (fp lv vi vp : Value) (P : List Sp.Page) (p : Sp.Page) (r : Refs) : Prop where
  bs : Blk W s StoreT #[fp, lv, .int .i64 400, .slice none 0 0, .slice none 0 0, vi, vp]
  oi : W.ownsRow 0 3 1 vi ni (idsV ni)
  op : ∃ xs, W.ownsRow 0 PageT 14 vp P.length xs ∧ PgCells W (OneM s) P xs
  bp : Blk W b PageT (pageV p r).toArray
  pr : PageRd W (OneM s) p r
  ck : Chg (OneM s) w W
  hb : w.heap.size ≤ b
theorem own_base {w : World} {base base' : Nat} {e : TypeId} {size n : Nat} {v : Value} {xs : List Value} (h : w.ownsRow base e size v n xs) (hb : base' ≤ base) : w.ownsRow base' e size v n xs := by
  obtain ⟨h1, h2⟩ := h
  rcases h2 with h2 | ⟨g, cap, cur, hv, hg, r⟩
  · exact ⟨h1, .inl h2⟩
  · exact ⟨h1, .inr ⟨g, cap, cur, hv, by omega, r⟩⟩
theorem DrS.ids {w W W' : World} {s b ni : Nat} {fp lv vi vp : Value} {P : List Sp.Page} {p : Sp.Page} {r : Refs} (h : DrS w W s b ni fp lv vi vp P p r) (hb : Below W.heap.size W W') {v : Value} (hv : W'.ownsRow W.heap.size 3 1 v (ni + 1) (idsV (ni + 1))) :
    DrS w (W'.setCell ⟨s, 5, none⟩ v) s b (ni + 1) fp lv v vp P p r := by
  have hs := h.bs.lt
  have hk := Chg.set1 W' s 5 v
  obtain ⟨xs, h1, h2⟩ := h.op
  refine ⟨(h.bs.below hb hs).set_ 5 v, own_base (own_chg2 hv hk fun k hk h' => ?_) (Nat.zero_le _), ⟨xs, ?_, ?_⟩, ?_, ?_, (h.ck.trans (Chg.of_below hb)).trans hk, h.hb⟩
  · have h' : k = s := h'
    exact own_not hv (t := StoreT) (by decide) k hk _ (h'.symm ▸ (h.bs.below hb hs))
  · refine own_chg2 (own_chg2 (S := NoM) h1 (Chg.of_below hb) (fun _ _ h => h)) hk fun k hk h' => ?_
    have h' : k = s := h'
    exact own_not h1 (t := StoreT) (by decide) k hk _ (h'.symm ▸ h.bs)
  · exact (h2.chg (Chg.of_below hb)).chg hk
  · refine (h.bp.below hb h.bp.lt).chg hk fun e => ?_
    have e : b = s := e
    exact Blk.not_ h.bs (t' := PageT) (by decide) _ (e ▸ h.bp)
  · exact (h.pr.chg (Chg.of_below hb)).chg hk
theorem DrS.page {w W W' : World} {s b ni : Nat} {fp lv vi vp : Value} {P : List Sp.Page} {p : Sp.Page} {r : Refs} (h : DrS w W s b ni fp lv vi vp P p r) (hb : Below W.heap.size W W') {v : Value} {xs : List Value} (hx : PgCells W (OneM s) P xs) (hv : W'.ownsRow W.heap.size PageT 14 v (P.length + 1) (xs ++ pageV p r)) :
    DrS w (W'.setCell ⟨s, 6, none⟩ v) s b ni fp lv vi v (P ++ [p]) p r := by
  have hs := h.bs.lt
  have hk := Chg.set1 W' s 6 v
  refine ⟨(h.bs.below hb hs).set_ 6 v, ?_, ⟨_, own_base (own_chg2 (by rw [List.length_append]; exact hv) hk fun k hk h' => ?_) (Nat.zero_le _), ?_⟩, ?_, ?_, (h.ck.trans (Chg.of_below hb)).trans hk, h.hb⟩
  · refine own_chg2 (own_chg2 (S := NoM) h.oi (Chg.of_below hb) (fun _ _ h => h)) hk fun k hk h' => ?_
    have h' : k = s := h'
    exact own_not h.oi (t := StoreT) (by decide) k hk _ (h'.symm ▸ h.bs)
  · have h' : k = s := h'
    exact own_not hv (t := StoreT) (by decide) k hk _ (h'.symm ▸ (h.bs.below hb hs))
  · have hq : PgCells (W'.setCell ⟨s, 6, none⟩ v) (OneM s) [p] (pageV p r) := ⟨r, [], by simp, (h.pr.chg (Chg.of_below hb)).chg hk, rfl⟩
    exact hq.app ((hx.chg (Chg.of_below hb)).chg hk)
  · refine (h.bp.below hb h.bp.lt).chg hk fun e => ?_
    have e : b = s := e
    exact Blk.not_ h.bs (t' := PageT) (by decide) _ (e ▸ h.bp)
  · exact (h.pr.chg (Chg.of_below hb)).chg hk
theorem own_cap {w : World} {base n : Nat} {e : TypeId} {size g cap : Nat} {xs : List Value} (h : w.ownsRow base e size (.slice (some ⟨g, 0, none⟩) n cap) n xs) : n ≤ cap ∧ cap ≤ maxLen := by
  obtain ⟨h1, h2⟩ := h
  rcases h2 with ⟨h', _⟩ | ⟨g', cap', cur, hv, hb, hB, hn, hm, hs, ht⟩
  · cases h'
  · simp only [Value.slice.injEq, Option.some.injEq, Addr.mk.injEq] at hv
    obtain ⟨_, _, rfl⟩ := hv
    exact ⟨hn, hm⟩
theorem grown_below {W w' : World} (hgr : W.grownBy w' (Value.slice none 0 0).ownBlock) : Below W.heap.size W w' := (Chg.of_grown (S := NoM) hgr (fun k hk => by simp [Value.ownBlock] at hk)).to_below
theorem grown_own {W w' : World} {base n : Nat} {e : TypeId} {size : Nat} {v : Value} {xs : List Value} (own : W.ownsRow base e size v n xs) (hb : base ≤ W.heap.size) (hgr : W.grownBy w' v.ownBlock) : Below base W w' :=
  (Chg.of_grown (S := fun k => v.ownBlock = some k) hgr (fun k hk => .inl hk)).below hb (fun k hk e => by
    rcases own.2 with ⟨rfl, _⟩ | ⟨g, cap, cur, rfl, hbg, _⟩
    · simp [Value.ownBlock] at e
    · have : g = k := by simpa [Value.ownBlock] using e
      omega)
theorem cell_one_keep {w0 W2 : World} {t : TypeId} {u : Value} (h : Below (w0.alloc (.cells #[u] t)).heap.size (w0.alloc (.cells #[u] t)) W2) : ∀ j u', [u][j]? = some u' → W2.cell? ((⟨w0.heap.size, 0, none⟩ : Addr).add j) = some u' := by
  intro j u' hu
  have hlt : w0.heap.size < (w0.alloc (.cells #[u] t)).heap.size := by simp
  obtain ⟨rfl, rfl⟩ : j = 0 ∧ u = u' := by
    cases j with
    | zero => exact ⟨rfl, by simpa using hu⟩
    | succ j => simp at hu
  rw [Go.WideShapes.add_plain]
  exact (h.cell (p := ⟨w0.heap.size, 0 + 0, none⟩) hlt).trans ((Blk.new w0 t #[u]).cell 0)
theorem cell_one_keepD {w0 W2 : World} {t : TypeId} {u : Value} (h : Below (w0.alloc (.cells #[u] t)).drew.heap.size (w0.alloc (.cells #[u] t)).drew W2) : ∀ j u', [u][j]? = some u' → W2.cell? ((⟨w0.heap.size, 0, none⟩ : Addr).add j) = some u' :=
  cell_one_keep ⟨h.os, h.tape, h.output, h.size, h.block⟩
theorem cells_new (w0 : World) (t : TypeId) (l : List Value) : ∀ j u, l[j]? = some u → (w0.alloc (.cells l.toArray t)).cell? ((⟨w0.heap.size, 0, none⟩ : Addr).add j) = some u := by
  intro j u hu
  rw [Go.WideShapes.add_plain, Nat.zero_add]
  exact ((Blk.new w0 t l.toArray).cell j).trans (by simpa using hu)
theorem cells_keep {w W : World} {g off : Nat} {xs : List Value} (h : Below w.heap.size w W) (hg : g < w.heap.size) (hc : ∀ j u, xs[j]? = some u → w.cell? ⟨g, off + j, none⟩ = some u) : ∀ j u, xs[j]? = some u → W.cell? ((⟨g, off, none⟩ : Addr).add j) = some u := fun j u hu => by
  rw [Go.WideShapes.add_plain]
  exact (h.cell (p := ⟨g, off + j, none⟩) hg).trans (hc j u hu)
end Go.Proofs.YtmcpkhknjdiocaaGreatDoor
namespace Go.Proofs.YtmcpkhknjdiocaaGreatDoor
open Go.RowKit
attribute [local go_sem low] mk_extract
attribute [local go_sem] After.cell After.frozen mk_extract_end ByteArray.mk_append_mk
/-- A store in memory, whatever its last number is. -/
structure StL (w : World) (s : Nat) (fp lv vi vp : Value) (P : List Sp.Page) : Prop where
  bs : Blk w s StoreT #[fp, lv, .int .i64 400, .slice none 0 0, .slice none 0 0, vi, vp]
  oi : w.ownsRow 0 3 1 vi P.length (idsV P.length)
  op : ∃ xs, w.ownsRow 0 PageT 14 vp P.length xs ∧ PgCells w (OneM s) P xs
/-- A store that may have no page yet. -/
def StF (w : World) (s : Nat) (fp : Value) (P : List Sp.Page) : Prop := ∃ vi vp, StoreAt w s fp vi vp P ∧ (P = [] → vi = .slice none 0 0 ∧ vp = .slice none 0 0)
section
variable {w w' : World} {s : Nat} {fp lv vi vp : Value} {P : List Sp.Page}
theorem StoreAt.l (h : StoreAt w s fp vi vp P) : StL w s fp (.int .i64 ((P.length + 2 : Nat) : Int)) vi vp P := ⟨h.bs, h.oi, h.op⟩
theorem StL.at_ (h : StL w s fp (.int .i64 ((P.length + 2 : Nat) : Int)) vi vp P) : StoreAt w s fp vi vp P := ⟨h.bs, h.oi, h.op⟩
theorem StL.go (h : StL w s fp lv vi vp P) (hb : Below w.heap.size w w') : StL w' s fp lv vi vp P := by
  obtain ⟨xs, h1, h2⟩ := h.op
  exact ⟨h.bs.below hb h.bs.lt, own_chg2 (S := NoM) h.oi (Chg.of_below hb) (fun _ _ h => h), ⟨xs, own_chg2 (S := NoM) h1 (Chg.of_below hb) (fun _ _ h => h), h2.chg (Chg.of_below hb)⟩⟩
theorem StL.last (h : StL w s fp lv vi vp P) (u : Value) : StL (w.setCell ⟨s, 1, none⟩ u) s fp u vi vp P := by
  have hk := Chg.set1 w s 1 u
  obtain ⟨xs, h1, h2⟩ := h.op
  refine ⟨h.bs.set_ 1 u, own_chg2 h.oi hk fun k hk h' => ?_, xs, own_chg2 h1 hk fun k hk h' => ?_, h2.chg hk⟩
  · have h' : k = s := h'
    exact own_not h.oi (t := StoreT) (by decide) k hk _ (h'.symm ▸ h.bs)
  · have h' : k = s := h'
    exact own_not h1 (t := StoreT) (by decide) k hk _ (h'.symm ▸ h.bs)
theorem StF.go (h : StF w s fp P) (hb : Below w.heap.size w w') : StF w' s fp P := by
  obtain ⟨vi, vp, h1, h2⟩ := h
  exact ⟨vi, vp, h1.go hb, h2⟩
theorem StF.of (h : StoreAt w s fp vi vp P) (hP : P ≠ []) : StF w s fp P := ⟨vi, vp, h, fun e => absurd e hP⟩
end
/-- What Add holds at the place where its last number is raised. -/
structure AddS (w W : World) (s b : Nat) (fp lv vi vp : Value) (P : List Sp.Page) (p : Sp.Page) (r : Refs) : Prop where
  st : StL W s fp lv vi vp P
  bp : Blk W b PageT (pageV p r).toArray
  pr : PageRd W (OneM s) p r
  ck : Chg (OneM s) w W
theorem AddS.go {w W W' : World} {s b : Nat} {fp lv vi vp : Value} {P : List Sp.Page} {p : Sp.Page} {r : Refs} (h : AddS w W s b fp lv vi vp P p r) (hb : Below W.heap.size W W') : AddS w W' s b fp lv vi vp P p r :=
  ⟨h.st.go hb, h.bp.below hb h.bp.lt, h.pr.go hb, h.ck.trans (Chg.of_below hb)⟩
theorem AddS.last {w W : World} {s b : Nat} {fp lv vi vp : Value} {P : List Sp.Page} {p : Sp.Page} {r : Refs} (h : AddS w W s b fp lv vi vp P p r) (u : Value) : AddS w (W.setCell ⟨s, 1, none⟩ u) s b fp u vi vp P p r :=
  ⟨h.st.last u, h.bp.chg (Chg.set1 W s 1 u) (fun e => by
    have e : b = s := e
    exact Blk.not_ h.st.bs (t' := PageT) (by decide) _ (e ▸ h.bp)), h.pr.chg (Chg.set1 W s 1 u), h.ck.trans (Chg.set1 W s 1 u)⟩
end Go.Proofs.YtmcpkhknjdiocaaGreatDoor
namespace Go.Proofs.YtmcpkhknjdiocaaGreatDoor
open Go.RowKit
attribute [local go_sem low] mk_extract
attribute [local go_sem] After.cell After.frozen mk_extract_end ByteArray.mk_append_mk
def pgZ : Array Value := #[.int .i64 0, .slice none 0 0, .slice none 0 0, .slice none 0 0, .string ⟨#[]⟩, .slice none 0 0, .slice none 0 0, .int .i64 0, .int .u64 0, .int .i64 0, .int .i64 0, .int .i64 0, .int .i64 0, .int .i64 0]
end Go.Proofs.YtmcpkhknjdiocaaGreatDoor
namespace Go.Proofs.YtmcpkhknjdiocaaGreatDoor
open Go.RowKit
attribute [local go_sem low] mk_extract
attribute [local go_sem] After.cell After.frozen mk_extract_end ByteArray.mk_append_mk
/-- Items that lie side by side. -/
def ItP (w : World) (M : Nat → Prop) : List Sp.Item → List Value → Prop
  | [], xs => xs = []
  | x :: l, xs => ∃ V c ys, xs = itemV x V c ++ ys ∧ Txts w M V x.vals ∧ ItP w M l ys
theorem itemV_len (x : Sp.Item) (V : Option Addr) (c : Nat) : (itemV x V c).length = 10 := rfl
theorem itemV_one (x : Sp.Item) (V : Option Addr) (c : Nat) : ∀ u ∈ itemV x V c, u.oneCell' = true := by
  intro u hu
  simp only [itemV, List.mem_cons, List.not_mem_nil, or_false] at hu
  rcases hu with rfl | rfl | rfl | rfl | rfl | rfl | rfl | rfl | rfl | rfl <;> rfl
theorem ItP.chg {w w' : World} {M : Nat → Prop} (hk : Chg M w w') : ∀ {l : List Sp.Item} {xs : List Value}, ItP w M l xs → ItP w' M l xs
  | [], _, h => h
  | _ :: _, _, ⟨V, c, ys, e, ht, h⟩ => ⟨V, c, ys, e, ht.chg hk, h.chg hk⟩
theorem ItP.len {w : World} {M : Nat → Prop} : ∀ {l : List Sp.Item} {xs : List Value}, ItP w M l xs → xs.length = l.length * 10
  | [], xs, h => by
    have h : xs = [] := h
    rw [h]; rfl
  | x :: l, xs, ⟨V, c, ys, e, _, h⟩ => by
    have := h.len
    rw [e, List.length_append, this, itemV_len, List.length_cons]
    omega
theorem ItP.app {w : World} {M : Nat → Prop} {m : List Sp.Item} {ys : List Value} (hq : ItP w M m ys) : ∀ {l : List Sp.Item} {xs : List Value}, ItP w M l xs → ItP w M (l ++ m) (xs ++ ys)
  | [], xs, h => by
    have h : xs = [] := h
    rw [h]; exact hq
  | _ :: _, xs, ⟨V, c, zs, e, hr, h⟩ => ⟨V, c, zs ++ ys, by rw [e, List.append_assoc], hr, hq.app h⟩
theorem ItP.snoc {w : World} {M : Nat → Prop} {l : List Sp.Item} {xs : List Value} (h : ItP w M l xs) {x : Sp.Item} {V : Option Addr} {c : Nat} (ht : Txts w M V x.vals) : ItP w M (l ++ [x]) (xs ++ itemV x V c) :=
  ItP.app (m := [x]) (ys := itemV x V c) ⟨V, c, [], by simp, ht, rfl⟩ h
theorem ItP.one {w : World} {M : Nat → Prop} : ∀ {l : List Sp.Item} {xs : List Value}, ItP w M l xs → ∀ u ∈ xs, u.oneCell' = true
  | [], xs, h, u, hu => by
    have h : xs = [] := h
    rw [h] at hu; simp at hu
  | x :: l, xs, ⟨V, c, ys, e, _, h⟩, u, hu => by
    rw [e] at hu
    rcases List.mem_append.1 hu with hu | hu
    · exact itemV_one x V c u hu
    · exact h.one u hu
theorem ItP.at_ {w : World} {M : Nat → Prop} : ∀ {l : List Sp.Item} {xs : List Value}, ItP w M l xs → ∀ k, k < l.length → ∃ V c, Txts w M V (l.getD k Sp.item0).vals ∧ ∀ j u, (itemV (l.getD k Sp.item0) V c)[j]? = some u → xs[k * 10 + j]? = some u
  | [], _, _, k, hk => absurd hk (by simp)
  | x :: l, xs, ⟨V, c, ys, e, ht, h⟩, 0, _ => ⟨V, c, ht, fun j u hu => by
      rw [e, Nat.zero_mul, Nat.zero_add, List.getElem?_append_left]
      · exact hu
      · exact (List.getElem?_eq_some_iff.1 hu).1⟩
  | x :: l, xs, ⟨V, c, ys, e, ht, h⟩, k + 1, hk => by
    obtain ⟨V', c', ht', hc⟩ := h.at_ k (by simpa using hk)
    refine ⟨V', c', by simpa using ht', fun j u hu => ?_⟩
    have := hc j u (by simpa using hu)
    rw [e, List.getElem?_append_right (by rw [itemV_len]; omega), itemV_len, show (k + 1) * 10 + j - 10 = k * 10 + j by omega]
    exact this
theorem ItP.items {w : World} {M : Nat → Prop} {l : List Sp.Item} {xs : List Value} (h : ItP w M l xs) {g off : Nat} (hg : g < w.heap.size) (hm : ¬ M g) (hc : ∀ j u, xs[j]? = some u → w.cell? ⟨g, off + j, none⟩ = some u) (hl : l.length ≤ 1000) : Items w M (some ⟨g, off, none⟩) l := by
  refine ⟨by omega, .inr ⟨g, off, rfl, hg, hm, fun k hk => ?_⟩⟩
  obtain ⟨V, c, ht, hx⟩ := h.at_ k hk
  have hcell : ∀ j u, (itemV (l.getD k Sp.item0) V c)[j]? = some u → w.cell? ⟨g, off + k * 10 + j, none⟩ = some u := fun j u hu => by
    rw [Nat.add_assoc]
    exact hc _ u (hx j u hu)
  exact ⟨V, c, ⟨hcell 0 _ rfl, hcell 1 _ rfl, hcell 2 _ rfl, hcell 3 _ rfl, hcell 4 _ rfl, hcell 5 _ rfl, hcell 6 _ rfl, hcell 7 _ rfl, hcell 8 _ rfl, hcell 9 _ rfl⟩, ht⟩
theorem getD_take {α : Type} (l : List α) (d : α) {h k : Nat} (hk : k < (l.take h).length) : (l.take h).getD k d = l.getD k d := by
  have hk2 := hk
  rw [List.length_take] at hk2
  simp [List.getD, List.getElem?_take, show k < h by omega]
theorem Items.take {w : World} {M : Nat → Prop} {A : Option Addr} {l : List Sp.Item} (h : Items w M A l) (n : Nat) : Items w M A (l.take n) := by
  refine ⟨Nat.le_trans (by rw [List.length_take]; omega) h.1, ?_⟩
  rcases h.2 with rfl | ⟨b, off, e, hb, hm, hc⟩
  · exact .inl (by simp)
  · refine .inr ⟨b, off, e, hb, hm, fun k hk => ?_⟩
    rw [getD_take l _ hk]
    exact hc k (by rw [List.length_take] at hk; omega)
theorem Items.drop {w : World} {M : Nat → Prop} {b off : Nat} {l : List Sp.Item} (h : Items w M (some ⟨b, off, none⟩) l) (n : Nat) : Items w M (some ⟨b, off + n * 10, none⟩) (l.drop n) := by
  refine ⟨Nat.le_trans (by rw [List.length_drop]; omega) h.1, ?_⟩
  rcases h.2 with rfl | ⟨b', off', e, hb, hm, hc⟩
  · exact .inl (by simp)
  · obtain ⟨rfl, rfl⟩ : b = b' ∧ off = off' := by simpa using e
    refine .inr ⟨b, off + n * 10, rfl, hb, hm, fun k hk => ?_⟩
    obtain ⟨V, c, h1, h2⟩ := hc (n + k) (by rw [List.length_drop] at hk; omega)
    have e1 : (l.drop n).getD k Sp.item0 = l.getD (n + k) Sp.item0 := by simp [List.getD]
    rw [e1]
    refine ⟨V, c, ?_, h2⟩
    rw [show off + n * 10 + k * 10 = off + (n + k) * 10 by omega]
    exact h1
theorem Row.take {w : World} {M : Nat → Prop} {A : Option Addr} {cs : List Value} (h : Row w M A cs) (n : Nat) : Row w M A (cs.take n) := by
  refine ⟨Nat.le_trans (by rw [List.length_take]; omega) h.1, ?_⟩
  rcases h.2 with rfl | ⟨b, off, e, hb, hm, hc⟩
  · exact .inl (by simp)
  · refine .inr ⟨b, off, e, hb, hm, fun j u hu => hc j u ?_⟩
    rw [List.getElem?_take] at hu
    split at hu
    · exact hu
    · cases hu
theorem Row.drop {w : World} {M : Nat → Prop} {b off : Nat} {cs : List Value} (h : Row w M (some ⟨b, off, none⟩) cs) (n : Nat) : Row w M (some ⟨b, off + n, none⟩) (cs.drop n) := by
  refine ⟨Nat.le_trans (by rw [List.length_drop]; omega) h.1, ?_⟩
  rcases h.2 with rfl | ⟨b', off', e, hb, hm, hc⟩
  · exact .inl (by simp)
  · obtain ⟨rfl, rfl⟩ : b = b' ∧ off = off' := by simpa using e
    refine .inr ⟨b, off + n, rfl, hb, hm, fun j u hu => ?_⟩
    rw [Nat.add_assoc]
    exact hc _ u (by rw [List.getElem?_drop] at hu; exact hu)
theorem Txts.take {w : World} {M : Nat → Prop} {A : Option Addr} {l : List Txt} (h : Txts w M A l) (n : Nat) : Txts w M A (l.take n) := by
  have := Row.take h n
  unfold Txts
  rwa [List.map_take]
theorem Txts.drop {w : World} {M : Nat → Prop} {b off : Nat} {l : List Txt} (h : Txts w M (some ⟨b, off, none⟩) l) (n : Nat) : Txts w M (some ⟨b, off + n, none⟩) (l.drop n) := by
  have := Row.drop h n
  unfold Txts
  rwa [List.map_drop]
theorem Ints.take {w : World} {M : Nat → Prop} {A : Option Addr} {l : List Int} (h : Ints w M A l) (n : Nat) : Ints w M A (l.take n) := by
  have := Row.take h n
  unfold Ints
  rwa [List.map_take]
theorem Ints.drop {w : World} {M : Nat → Prop} {b off : Nat} {l : List Int} (h : Ints w M (some ⟨b, off, none⟩) l) (n : Nat) : Ints w M (some ⟨b, off + n, none⟩) (l.drop n) := by
  have := Row.drop h n
  unfold Ints
  rwa [List.map_drop]
/-- The pages of leaves and branches, where their rows lie. -/
def refsI (A : Option Addr) (c : Nat) : Refs := ⟨A, none, none, none, none, c, 0, 0, 0, 0⟩
def refsB (K : Option Addr) (k : Nat) (D : Option Addr) (d : Nat) : Refs := ⟨none, K, D, none, none, 0, k, d, 0, 0⟩
end Go.Proofs.YtmcpkhknjdiocaaGreatDoor
namespace Go.Proofs.YtmcpkhknjdiocaaGreatDoor
open Go.RowKit
attribute [local go_sem low] mk_extract
attribute [local go_sem] After.cell After.frozen mk_extract_end ByteArray.mk_append_mk
namespace Sp
/-- What is wanted from a key on: nothing below it, all above it. -/
def Wants (w : Item → Bool) (key : Txt) : Prop := (∀ y : Item, lt y.key key = true → w y = false) ∧ ∀ y : Item, lt key y.key = true → w y = true
/-- The key of a number. -/
def keyN (n : Nat) : Txt := [UInt8.ofNat (97 + n / 26), UInt8.ofNat (97 + n % 26)]
def itN (n : Nat) : Item := ⟨keyN n, 1, [118], 0, 0, [], 0, root0⟩
theorem keyN_lt : ∀ a, a < 256 → ∀ b, b < 256 → lt (keyN a) (keyN b) = decide (a < b) := by decide +kernel
/-- The numbers whose items a row has, in order: a number put in. -/
def insN (n : Nat) : List Nat → List Nat
  | [] => [n]
  | m :: l => if m < n then m :: insN n l else if m = n then m :: l else n :: m :: l
theorem mem_insN {n k : Nat} : ∀ {l : List Nat}, k ∈ insN n l ↔ k = n ∨ k ∈ l
  | [] => by simp [insN]
  | m :: l => by
    unfold insN
    split
    · rw [List.mem_cons, mem_insN, List.mem_cons]
      constructor
      · rintro (h | h | h) <;> simp [h]
      · rintro (h | h | h) <;> simp [h]
    · split
      · rename_i h
        subst h
        simp
      · simp
theorem insN_len {n : Nat} : ∀ l : List Nat, (insN n l).length ≤ l.length + 1
  | [] => by simp [insN]
  | m :: l => by
    have := insN_len (n := n) l
    unfold insN
    split
    · simp; omega
    · split <;> simp
theorem insIt_N {n : Nat} (hn : n < 256) : ∀ {l : List Nat}, (∀ k ∈ l, k < 256) → insIt (itN n) (l.map itN) = (insN n l).map itN
  | [], _ => rfl
  | m :: l, h => by
    have hm := h m (by simp)
    have e1 : lt (itN m).key (itN n).key = decide (m < n) := keyN_lt m hm n hn
    have ih := insIt_N hn (l := l) fun k hk => h k (by simp [hk])
    have e2 : (itN m).key = (itN n).key ↔ m = n := by
      constructor
      · intro e
        have a1 := keyN_lt m hm n hn
        have a2 := keyN_lt n hn m hm
        rw [show keyN m = keyN n from e, lt_irr] at a1
        rw [show keyN m = keyN n from e, lt_irr] at a2
        have := of_decide_eq_false a1.symm
        have := of_decide_eq_false a2.symm
        omega
      · rintro rfl; rfl
    rw [List.map_cons]
    unfold insIt insN
    by_cases h1 : m < n
    · rw [if_pos (by rw [e1]; exact decide_eq_true h1), if_pos h1, ih]
      rfl
    · rw [if_neg (by rw [e1]; simpa using h1), if_neg h1]
      by_cases h2 : m = n
      · rw [if_pos (e2.2 h2), if_pos h2, h2]
        rfl
      · rw [if_neg (fun e => h2 (e2.1 e)), if_neg h2]
        rfl
/-- The numbers that are in a tree of these. -/
def numsOf (keys : List Nat) : List Nat := keys.foldl (fun l n => insN n l) []
theorem numsOf_snoc (keys : List Nat) (n : Nat) : numsOf (keys ++ [n]) = insN n (numsOf keys) := by
  unfold numsOf
  rw [List.foldl_append]
  rfl
end Sp
end Go.Proofs.YtmcpkhknjdiocaaGreatDoor
