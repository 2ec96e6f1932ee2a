/- Trees of the document: how many pages a tree of numbers has; how deep it is. Trees of the document: an item put into a leaf's row, step by step; a branch's rows with a child replaced. Trees of the document: what is laid when an item is put in, by a row's length. Trees made of numbers: what is at or behind a number; the walk over all; the least one by counting. Trees of the document: how many pages a put needs at most; a put into a whole tree, on pages. The document's put into a leaf: what is held. The document's stores: a page that is laid behind others. The document's stores: a page that is laid where none is. The document's stores: a page is laid behind others, or where none is. The document's stores: a page is added; read; touched. The document's put into a leaf. The document's put: at a leaf. The document's put: the branch that is made anew: what is held. -/
import Derived.Test.YtmcpkhknjdiocaaGreatDoorQB19
import Derived.Test.YtmcpkhknjdiocaaGreatDoorQB27
import Derived.Deep.RegionLaw
import Derived.BigQuiet
set_option linter.unusedSimpArgs false
set_option linter.unusedVariables false
namespace Go.Proofs.YtmcpkhknjdiocaaGreatDoor
open Go.RowKit
attribute [local go_sem low] mk_extract
attribute [local go_sem] After.cell After.frozen mk_extract_end ByteArray.mk_append_mk
namespace Sp
theorem T.Ok.cnt_top {d : Nat} {t : T d} (h : T.Ok d true t) : (T.ids d t).length ≤ (T.items d t).length := by
  cases d with
  | zero =>
    show 1 ≤ t.2.length
    exact h.2.1
  | succ d =>
    have h' : T.Ok (d + 1) false t := h
    have := h'.cnt
    omega
theorem Rt.At.cnt {P : List Page} {o : Option Rt} {n : Nat} (h : Rt.At P o n) : n ≤ (Rt.items o).length + 2 := by
  cases o with
  | none =>
    obtain ⟨_, rfl⟩ := h
    simp
  | some r =>
    obtain ⟨_, h2, h3⟩ := h
    have := h2.cnt_top
    show n ≤ (T.items r.d r.t).length + 2
    omega
theorem numsOf_lt {keys : List Nat} (h : ∀ k ∈ keys, k < 256) : ∀ k ∈ numsOf keys, k < 256 := by
  have : ∀ (l : List Nat), (∀ k ∈ l, k < 256) → ∀ k ∈ keys.foldl (fun l n => insN n l) l, k < 256 := by
    induction keys with
    | nil => exact fun l hl => hl
    | cons a keys ih =>
      intro l hl
      refine ih (fun k hk => h k (by simp [hk])) _ fun k hk => ?_
      rcases mem_insN.1 hk with rfl | hk
      · exact h k (by simp)
      · exact hl k hk
  exact this [] (by simp)
theorem numsOf_len (keys : List Nat) : (numsOf keys).length ≤ keys.length := by
  have : ∀ (l : List Nat), (keys.foldl (fun l n => insN n l) l).length ≤ l.length + keys.length := by
    induction keys with
    | nil => simp
    | cons a keys ih =>
      intro l
      have h1 := ih (insN a l)
      have h2 := insN_len (n := a) l
      rw [List.foldl_cons, List.length_cons]
      omega
  simpa [numsOf] using this []
end Sp
end Go.Proofs.YtmcpkhknjdiocaaGreatDoor
namespace Go.Proofs.YtmcpkhknjdiocaaGreatDoor
open Go.RowKit
attribute [local go_sem low] mk_extract
attribute [local go_sem] After.cell After.frozen mk_extract_end ByteArray.mk_append_mk
namespace Sp
/-- How far a row is made: so many of the leaf's items are behind it; is the new one in it? -/
def LfOk (x : Item) (l0 : List Item) (k : Nat) (L : List Item) (dn : Bool) : Prop := insIt x l0 = L ++ (if dn then l0.drop k else insIt x (l0.drop k))
theorem LfOk.start (x : Item) (l0 : List Item) : LfOk x l0 0 [] false := rfl
theorem drop_getD {l0 : List Item} {k : Nat} (hk : k < l0.length) : l0.drop k = l0.getD k item0 :: l0.drop (k + 1) := by
  rw [List.drop_eq_getElem_cons hk]
  simp [List.getD, hk]
theorem LfOk.behind {x : Item} {l0 : List Item} {k : Nat} {L : List Item} (h : LfOk x l0 k L true) (hk : k < l0.length) : LfOk x l0 (k + 1) (L ++ [l0.getD k item0]) true := by
  unfold LfOk at *
  rw [h]
  simp only [if_true]
  rw [drop_getD hk]
  simp
theorem LfOk.ahead {x : Item} {l0 : List Item} {k : Nat} {L : List Item} (h : LfOk x l0 k L false) (hk : k < l0.length) (hlt : lt (l0.getD k item0).key x.key = true) : LfOk x l0 (k + 1) (L ++ [l0.getD k item0]) false := by
  unfold LfOk at *
  rw [h]
  simp only [Bool.false_eq_true, if_false]
  rw [drop_getD hk]
  conv => lhs; unfold insIt
  rw [if_pos hlt]
  simp
theorem LfOk.same {x : Item} {l0 : List Item} {k : Nat} {L : List Item} (h : LfOk x l0 k L false) (hk : k < l0.length) (hlt : lt (l0.getD k item0).key x.key = false) (he : (l0.getD k item0).key = x.key) : LfOk x l0 (k + 1) (L ++ [x]) true := by
  unfold LfOk at *
  rw [h]
  simp only [Bool.false_eq_true, if_false, if_true]
  rw [drop_getD hk]
  conv => lhs; unfold insIt
  rw [if_neg (by rw [hlt]; simp), if_pos he]
  simp
theorem LfOk.done {x : Item} {l0 L : List Item} (h : LfOk x l0 l0.length L true) : insIt x l0 = L := by
  unfold LfOk at h
  simpa using h
theorem LfOk.last {x : Item} {l0 L : List Item} (h : LfOk x l0 l0.length L false) : insIt x l0 = L ++ [x] := by
  unfold LfOk at h
  simpa [insIt] using h
end Sp
end Go.Proofs.YtmcpkhknjdiocaaGreatDoor
namespace Go.Proofs.YtmcpkhknjdiocaaGreatDoor
open Go.RowKit
attribute [local go_sem low] mk_extract
attribute [local go_sem] After.cell After.frozen mk_extract_end ByteArray.mk_append_mk
namespace Sp
def moreId (d : Nat) (m : Option (Txt × T d)) : Nat := match m with | none => 0 | some m => T.id d m.2
def moreKey {d : Nat} (m : Option (Txt × T d)) : Txt := match m with | none => [] | some m => m.1
/-- A tree's child on its pages. -/
theorem T.On.kid {P : List Page} {d id n : Nat} {cs : List (Txt × T d)} {c : Txt × T d} {k : Nat} (h : T.On P (d + 1) (id, cs) n) (hc : cs[k]? = some c) : T.On P d c.2 n := by
  have hcm : c ∈ cs := List.mem_of_getElem? hc
  refine ⟨h.len, h.holds.2 c hcm, fun i hi => h.lt i (List.mem_cons_of_mem _ (List.mem_flatMap.2 ⟨c, hcm, hi⟩)), ?_⟩
  have h2 : (cs.flatMap fun a : Txt × T d => T.ids d a.2).Nodup := (List.nodup_cons.1 (show (id :: cs.flatMap fun a : Txt × T d => T.ids d a.2).Nodup from h.nodup)).2
  rw [split_at hc, List.flatMap_append, List.flatMap_cons] at h2
  exact (List.nodup_append.1 (List.nodup_append.1 h2).2.1).1
end Sp
end Go.Proofs.YtmcpkhknjdiocaaGreatDoor
namespace Go.Proofs.YtmcpkhknjdiocaaGreatDoor
open Go.RowKit
attribute [local go_sem low] mk_extract
attribute [local go_sem] After.cell After.frozen mk_extract_end ByteArray.mk_append_mk
namespace Sp
/-- The first number from one on. -/
def fromN (l : List Nat) (n : Nat) : Option Nat := l.find? fun k => decide (n ≤ k)
/-- The least number from k on among so many; 256: none. -/
def leastF (k : Nat) (keys : List Nat) : Nat := keys.foldl (fun a n => if k ≤ n then min a n else a) 256
/-- What Get, Above, Behind tell of a tree of numbers. -/
def getI (l : List Item) (key : Txt) : Option Item := (l.find? fun y => !lt y.key key).bind fun y => if y.key = key then some y else none
end Sp
end Go.Proofs.YtmcpkhknjdiocaaGreatDoor
namespace Go.Proofs.YtmcpkhknjdiocaaGreatDoor
open Go.RowKit
attribute [local go_sem low] mk_extract
attribute [local go_sem] After.cell After.frozen mk_extract_end ByteArray.mk_append_mk
namespace Sp
end Sp
end Go.Proofs.YtmcpkhknjdiocaaGreatDoor
namespace Go.Proofs.YtmcpkhknjdiocaaGreatDoor
open Go.RowKit
attribute [local go_sem low] mk_extract
attribute [local go_sem] After.cell After.frozen mk_extract_end ByteArray.mk_append_mk
theorem ItemAt.cells {w : World} {b o : Nat} {x : Sp.Item} {V : Option Addr} {c : Nat} (h : ItemAt w b o x V c) : ∀ j v, (itemV x V c).toArray[j]? = some v → w.cell? ⟨b, o + j, none⟩ = some v := by
  intro j v hv
  rw [List.getElem?_toArray] at hv
  match j, hv with
  | 0, hv => exact h.c0.trans hv
  | 1, hv => exact h.c1.trans hv
  | 2, hv => exact h.c2.trans hv
  | 3, hv => exact h.c3.trans hv
  | 4, hv => exact h.c4.trans hv
  | 5, hv => exact h.c5.trans hv
  | 6, hv => exact h.c6.trans hv
  | 7, hv => exact h.c7.trans hv
  | 8, hv => exact h.c8.trans hv
  | 9, hv => exact h.c9.trans hv
  | j + 10, hv => simp [itemV] at hv
theorem item_fold (x : Sp.Item) (V : Option Addr) (c : Nat) : List.foldl (fun (cs : Array Value) (x : Value × Nat) => cs.setIfInBounds x.snd x.fst) #[.string ⟨#[]⟩, .int .i64 0, .string ⟨#[]⟩, .int .i64 0, .int .i64 0, .slice none 0 0, .int .i64 0, .int .i64 0, .int .i64 0, .int .i64 0] (itemV x V c).zipIdx = (itemV x V c).toArray := by
  simp [itemV]
/-- At the start. -/
structure PlS (w W : World) (s b : Nat) (fp : Value) (P : List Sp.Page) (l0 : List Sp.Item) (r : Refs) (x : Sp.Item) (V : Option Addr) (c : Nat) : Prop where
  st : StF W s fp P
  bp : Blk W b PageT (pageV (Sp.leafPg l0) r).toArray
  bx : Blk W (b + 1) ItemT (itemV x V c).toArray
  pr : PageRd W (OneM s) (Sp.leafPg l0) r
  xv : Txts W (OneM s) V x.vals
  hb : Below w.heap.size w W
/-- A row that is being made, of items that were there. -/
structure LfW (w0 W : World) (s : Nat) (L : List Sp.Item) (v : Value) : Prop where
  hb : Below w0.heap.size w0 W
  own : ∃ xs, W.ownsRow w0.heap.size ItemT 10 v L.length xs ∧ ItP w0 (OneM s) L xs
theorem LfW.start (w0 : World) (s : Nat) : LfW w0 w0 s [] (.slice none 0 0) := ⟨Below.refl _ _, [], own_nil _ _ _ _, rfl⟩
theorem LfW.app {w0 W w' : World} {s : Nat} {L : List Sp.Item} {v v' : Value} {xs : List Value} {y : Sp.Item} {V : Option Addr} {c n : Nat} (h : LfW w0 W s L v) (hown : W.ownsRow w0.heap.size ItemT 10 v L.length xs) (hx : ItP w0 (OneM s) L xs) (hy : Txts w0 (OneM s) V y.vals)
    (hown' : w'.ownsRow w0.heap.size ItemT 10 v' n (xs ++ itemV y V c)) (hn : n = L.length + 1) (hgr : (W.alloc (.cells (itemV y V c).toArray ItemT)).grownBy w' v.ownBlock) : LfW w0 w' s (L ++ [y]) v' := by
  have hal : Below w0.heap.size w0 (W.alloc (.cells (itemV y V c).toArray ItemT)) := h.hb.alloc h.hb.size _
  have hown2 := own_chg2 (S := NoM) hown ((Chg.refl _ _).alloc (.cells (itemV y V c).toArray ItemT)) (fun _ _ h => h)
  refine ⟨hal.trans (grown_own hown2 hal.size hgr), xs ++ itemV y V c, ?_, hx.snoc hy⟩
  subst hn
  rw [List.length_append]
  exact hown'
theorem LfW.go {w0 W w' : World} {s : Nat} {L : List Sp.Item} {v : Value} (h : LfW w0 W s L v) (hb : Below W.heap.size W w') : LfW w0 w' s L v := by
  obtain ⟨xs, h1, h2⟩ := h.own
  exact ⟨h.hb.trans (hb.mono h.hb.size), xs, own_chg2 (S := NoM) h1 (Chg.of_below hb) (fun _ _ h => h), h2⟩
/-- The row that was made is a leaf's. -/
theorem LfW.row {w0 W : World} {s : Nat} {L : List Sp.Item} {v : Value} (h : LfW w0 W s L v) (hs : s < w0.heap.size) (hn : 0 < L.length) (hl : L.length ≤ 1000) :
    ∃ g cap, v = .slice (some ⟨g, 0, none⟩) L.length cap ∧ w0.heap.size ≤ g ∧ g < W.heap.size ∧ L.length ≤ cap ∧ cap ≤ maxLen ∧ Items W (OneM s) (some ⟨g, 0, none⟩) L := by
  obtain ⟨xs, h1, h2⟩ := h.own
  obtain ⟨g, cap, rfl, hg, hc⟩ := own_some h1 hn
  obtain ⟨h3, h4⟩ := own_cap h1
  have hge : w0.heap.size ≤ g := by
    rcases h1.2 with ⟨h', _⟩ | ⟨g2, _, _, hv, hb, _⟩
    · cases h'
    · simp only [Value.slice.injEq, Option.some.injEq, Addr.mk.injEq] at hv
      omega
  refine ⟨g, cap, rfl, hge, hg, h3, h4, (h2.chg (Chg.of_below h.hb)).items hg (fun e => by unfold OneM at e; omega) (fun j u hu => ?_) hl⟩
  rw [Nat.zero_add]
  exact hc j u hu
end Go.Proofs.YtmcpkhknjdiocaaGreatDoor
namespace Go.Proofs.YtmcpkhknjdiocaaGreatDoor
open Go.RowKit
attribute [local go_sem low] mk_extract
attribute [local go_sem] After.cell After.frozen mk_extract_end ByteArray.mk_append_mk
end Go.Proofs.YtmcpkhknjdiocaaGreatDoor
namespace Go.Proofs.YtmcpkhknjdiocaaGreatDoor
open Go.RowKit
attribute [local go_sem low] mk_extract
attribute [local go_sem] After.cell After.frozen mk_extract_end ByteArray.mk_append_mk
end Go.Proofs.YtmcpkhknjdiocaaGreatDoor
namespace Go.Proofs.YtmcpkhknjdiocaaGreatDoor
open Go.RowKit
attribute [local go_sem low] mk_extract
attribute [local go_sem] After.cell After.frozen mk_extract_end ByteArray.mk_append_mk
end Go.Proofs.YtmcpkhknjdiocaaGreatDoor
namespace Go.Proofs.YtmcpkhknjdiocaaGreatDoor
open Go.RowKit
attribute [local go_sem low] mk_extract
attribute [local go_sem] After.cell After.frozen mk_extract_end ByteArray.mk_append_mk
end Go.Proofs.YtmcpkhknjdiocaaGreatDoor
namespace Go.Proofs.YtmcpkhknjdiocaaGreatDoor
open Go.RowKit
attribute [local go_sem low] mk_extract
attribute [local go_sem] After.cell After.frozen mk_extract_end ByteArray.mk_append_mk
attribute [local go_sem] itemV_len item_fold
end Go.Proofs.YtmcpkhknjdiocaaGreatDoor
namespace Go.Proofs.YtmcpkhknjdiocaaGreatDoor
open Go.RowKit
attribute [local go_sem low] mk_extract
attribute [local go_sem] After.cell After.frozen mk_extract_end ByteArray.mk_append_mk
/-- What put tells of a tree. -/
def PutOut (x : Sp.Item) (d : Nat) (t : Sp.T d) (s n : Nat) (fp : Value) (P : List Sp.Page) (w : World) (e : Ending) (w' : World) : Prop :=
  e = .returned (.tuple #[.int .i64 ((Sp.T.id d t : Nat) : Int), .int .i64 (Sp.moreId d (Sp.T.put x d t n).2.1 : Nat), .string ⟨(Sp.moreKey (Sp.T.put x d t n).2.1).toArray⟩, .int .i64 0]) ∧
    ∃ P', StF w' s fp P' ∧ Sp.PutRes P P' d t n (Sp.T.put x d t n) ∧ Chg (OneM s) w w'
/-- What put holds of its arguments. -/
structure PuS (w W : World) (s : Nat) (fp : Value) (P : List Sp.Page) (x : Sp.Item) (V : Option Addr) (c : Nat) : Prop where
  st : StF W s fp P
  bx : Blk W w.heap.size ItemT (itemV x V c).toArray
  xv : Txts W (OneM s) V x.vals
  ck : Chg (OneM s) w W
  hs : s < w.heap.size
theorem PuS.start {w : World} {s : Nat} {fp : Value} {P : List Sp.Page} {x : Sp.Item} {V : Option Addr} (c : Nat) (h : StF w s fp P) (hV : Txts w (OneM s) V x.vals) : PuS w (w.alloc (.cells (itemV x V c).toArray ItemT)) s fp P x V c :=
  ⟨h.go ((Below.refl _ _).alloc (Nat.le_refl _) _), Blk.new _ _ _, hV.go ((Below.refl _ _).alloc (Nat.le_refl _) _), Chg.of_below ((Below.refl _ _).alloc (Nat.le_refl _) _), by obtain ⟨_, _, h, _⟩ := h; exact h.bs.lt⟩
theorem PuS.go {w W W' : World} {s : Nat} {fp : Value} {P : List Sp.Page} {x : Sp.Item} {V : Option Addr} {c : Nat} (h : PuS w W s fp P x V c) (hb : Below W.heap.size W W') : PuS w W' s fp P x V c :=
  ⟨h.st.go hb, h.bx.below hb h.bx.lt, h.xv.go hb, h.ck.trans (Chg.of_below hb), h.hs⟩
/-- And of the page that it read. -/
structure PqS (w W : World) (s b : Nat) (fp : Value) (P : List Sp.Page) (x : Sp.Item) (V : Option Addr) (c : Nat) (p : Sp.Page) (r : Refs) : Prop where
  u : PuS w W s fp P x V c
  bp : Blk W b PageT (pageV p r).toArray
  pr : PageRd W (OneM s) p r
  hne : w.heap.size < b
theorem PqS.start {w W : World} {s : Nat} {fp : Value} {P : List Sp.Page} {x : Sp.Item} {V : Option Addr} {c : Nat} {p : Sp.Page} {r : Refs} (h : PuS w W s fp P x V c) (hr : PageRd W (OneM s) p r) : PqS w (W.alloc (.cells (pageV p r).toArray PageT)) s W.heap.size fp P x V c p r :=
  ⟨h.go ((Below.refl _ _).alloc (Nat.le_refl _) _), Blk.new _ _ _, hr.go ((Below.refl _ _).alloc (Nat.le_refl _) _), h.bx.lt⟩
theorem PqS.go {w W W' : World} {s b : Nat} {fp : Value} {P : List Sp.Page} {x : Sp.Item} {V : Option Addr} {c : Nat} {p : Sp.Page} {r : Refs} (h : PqS w W s b fp P x V c p r) (hb : Below W.heap.size W W') : PqS w W' s b fp P x V c p r :=
  ⟨h.u.go hb, h.bp.below hb h.bp.lt, h.pr.go hb, h.hne⟩
theorem PqS.call {w W W' : World} {s b : Nat} {fp : Value} {P P1 : List Sp.Page} {x : Sp.Item} {V : Option Addr} {c : Nat} {p : Sp.Page} {r : Refs} (h : PqS w W s b fp P x V c p r) (hst : StF W' s fp P1) (hk : Chg (OneM s) W W') : PqS w W' s b fp P1 x V c p r :=
  ⟨⟨hst, h.u.bx.chg hk (fun e => by have := h.u.hs; have e : w.heap.size = s := e; omega), h.u.xv.chg hk, h.u.ck.trans hk, h.u.hs⟩, h.bp.chg hk (fun e => by have := h.u.hs; have := h.hne; have e : b = s := e; omega), h.pr.chg hk, h.hne⟩
attribute [local go_sem] itemV_len
end Go.Proofs.YtmcpkhknjdiocaaGreatDoor
namespace Go.Proofs.YtmcpkhknjdiocaaGreatDoor
open Go.RowKit
attribute [local go_sem low] mk_extract
attribute [local go_sem] After.cell After.frozen mk_extract_end ByteArray.mk_append_mk
theorem own_ge {w : World} {base n : Nat} {e : TypeId} {size g cap : Nat} {xs : List Value} (h : w.ownsRow base e size (.slice (some ⟨g, 0, none⟩) n cap) n xs) : base ≤ g := by
  rcases h.2 with ⟨h', _⟩ | ⟨g2, _, _, hv, hb, _⟩
  · cases h'
  · simp only [Value.slice.injEq, Option.some.injEq, Addr.mk.injEq] at hv
    omega
theorem own_to_row {w : World} {base n : Nat} {e : TypeId} {g cap s : Nat} {xs : List Value} (h : w.ownsRow base e 1 (.slice (some ⟨g, 0, none⟩) n cap) n xs) (hs : s < base) (hn : n ≤ 1000) : Row w (OneM s) (some ⟨g, 0, none⟩) xs := by
  have hge := own_ge h
  have hl : xs.length = n := by simpa using h.1
  refine ⟨by omega, ?_⟩
  rcases Nat.eq_zero_or_pos n with rfl | hpos
  · exact .inl (List.length_eq_zero_iff.1 hl)
  · obtain ⟨g', cap', e', hg, hc⟩ := own_some h hpos
    obtain ⟨rfl, rfl⟩ : g = g' ∧ cap = cap' := by simpa using e'
    refine .inr ⟨g, 0, rfl, hg, fun e => ?_, fun j u hu => ?_⟩
    · unfold OneM at e
      omega
    · rw [Nat.zero_add]
      exact hc j u hu
/-- A branch in the making: its page, its own rows of keys, of numbers. -/
structure QkS (w0 W : World) (b g gc d dc : Nat) (ks : List Txt) (is : List Int) : Prop where
  hb : Below w0.heap.size w0 W
  bh : Blk W b PageT (pageV (Sp.branchPg ks is) (refsB (some ⟨g, 0, none⟩) gc (some ⟨d, 0, none⟩) dc)).toArray
  ok_ : W.ownsRow w0.heap.size StrT 1 (.slice (some ⟨g, 0, none⟩) ks.length gc) ks.length (ks.map tv)
  od : W.ownsRow w0.heap.size IntT 1 (.slice (some ⟨d, 0, none⟩) is.length dc) is.length (is.map iv)
  ge : w0.heap.size ≤ b
theorem QkS.go {w0 W W' : World} {b g gc d dc : Nat} {ks : List Txt} {is : List Int} (h : QkS w0 W b g gc d dc ks is) (hb : Below W.heap.size W W') : QkS w0 W' b g gc d dc ks is :=
  ⟨h.hb.trans (hb.mono h.hb.size), h.bh.below hb h.bh.lt, own_chg2 (S := NoM) h.ok_ (Chg.of_below hb) (fun _ _ h => h), own_chg2 (S := NoM) h.od (Chg.of_below hb) (fun _ _ h => h), h.ge⟩
theorem below_set {w0 W : World} {B : Nat} (h : Below B w0 W) {b o : Nat} (hb : B ≤ b) (u : Value) : Below B w0 (W.setCell ⟨b, o, none⟩ u) := Below.setCell h hb u
theorem QkS.keys {w0 W W' : World} {b g gc d dc g' gc' : Nat} {ks ks' : List Txt} {is : List Int} (h : QkS w0 W b g gc d dc ks is) (hb : Below W.heap.size W W')
    (hv : W'.ownsRow W.heap.size StrT 1 (.slice (some ⟨g', 0, none⟩) ks'.length gc') ks'.length (ks'.map tv)) : QkS w0 (W'.setCell ⟨b, 2, none⟩ (.slice (some ⟨g', 0, none⟩) ks'.length gc')) b g' gc' d dc ks' is := by
  have h1 := h.go hb
  have hk := Chg.set1 W' b 2 (.slice (some ⟨g', 0, none⟩) ks'.length gc')
  refine ⟨below_set h1.hb h.ge _, h1.bh.set_ 2 _, own_base (own_chg2 hv hk fun k hk h' => ?_) h.hb.size, own_chg2 h1.od hk fun k hk h' => ?_, h.ge⟩
  · have h' : k = b := h'
    exact own_not hv (t := PageT) (by decide) k hk _ (h'.symm ▸ h1.bh)
  · have h' : k = b := h'
    exact own_not h1.od (t := PageT) (by decide) k hk _ (h'.symm ▸ h1.bh)
theorem QkS.kids {w0 W W' : World} {b g gc d dc d' dc' : Nat} {ks : List Txt} {is is' : List Int} (h : QkS w0 W b g gc d dc ks is) (hb : Below W.heap.size W W')
    (hv : W'.ownsRow W.heap.size IntT 1 (.slice (some ⟨d', 0, none⟩) is'.length dc') is'.length (is'.map iv)) : QkS w0 (W'.setCell ⟨b, 3, none⟩ (.slice (some ⟨d', 0, none⟩) is'.length dc')) b g gc d' dc' ks is' := by
  have h1 := h.go hb
  have hk := Chg.set1 W' b 3 (.slice (some ⟨d', 0, none⟩) is'.length dc')
  refine ⟨below_set h1.hb h.ge _, h1.bh.set_ 3 _, own_chg2 h1.ok_ hk fun k hk h' => ?_, own_base (own_chg2 hv hk fun k hk h' => ?_) h.hb.size, h.ge⟩
  · have h' : k = b := h'
    exact own_not h1.ok_ (t := PageT) (by decide) k hk _ (h'.symm ▸ h1.bh)
  · have h' : k = b := h'
    exact own_not hv (t := PageT) (by decide) k hk _ (h'.symm ▸ h1.bh)
theorem own_blk_lt {w : World} {base n : Nat} {e : TypeId} {size g cap : Nat} {xs : List Value} (h : w.ownsRow base e size (.slice (some ⟨g, 0, none⟩) n cap) n xs) : ∃ cur, Blk w g e cur := by
  obtain ⟨cur, h1, _⟩ := own_blk h
  exact ⟨cur, h1⟩
theorem QkS.kid {w0 W : World} {b g gc d dc : Nat} {ks : List Txt} {is : List Int} (h : QkS w0 W b g gc d dc ks is) (k : Nat) (i : Int) : QkS w0 (W.setCell ⟨d, k, none⟩ (.int .i64 i)) b g gc d dc ks (is.set k i) := by
  have hk := Chg.set1 W d k (.int .i64 i)
  have hge := own_ge h.od
  obtain ⟨cur, hd⟩ := own_blk_lt h.od
  refine ⟨below_set h.hb hge _, ?_, own_chg2 h.ok_ hk fun j hj h' => ?_, ?_, h.ge⟩
  · have := h.bh.chg hk fun e => ?_
    · simp only [pageV, Sp.branchPg, List.length_set] at *
      exact this
    · have e : b = d := e
      exact Blk.not_ hd (t' := PageT) (by decide) _ (e ▸ h.bh)
  · have h' : j = d := h'
    exact own_not h.ok_ (t := IntT) (by decide) j hj _ (h'.symm ▸ hd)
  · have := own_set h.od (j := k) (.int .i64 i)
    rw [List.length_set, List.map_set]
    exact this
/-- What is read of it. -/
theorem QkS.rd {w0 W : World} {b g gc d dc s : Nat} {ks : List Txt} {is : List Int} (h : QkS w0 W b g gc d dc ks is) (hs : s < w0.heap.size) (hk : ks.length ≤ 1000) (hi : is.length ≤ 1000) : Txts W (OneM s) (some ⟨g, 0, none⟩) ks ∧ Ints W (OneM s) (some ⟨d, 0, none⟩) is :=
  ⟨own_to_row h.ok_ hs hk, own_to_row h.od hs hi⟩
set_option maxHeartbeats 4000000 in
/-- The page's block is there; then it is filled. -/
theorem QkS.filled {w0 w3 W : World} {b g gc d dc : Nat} {ks : List Txt} {is : List Int} (hb : Below w0.heap.size w0 w3) (hn : Blk w3 b PageT pgZ) (ge : w0.heap.size ≤ b)
    (hk : w3.ownsRow w0.heap.size StrT 1 (.slice (some ⟨g, 0, none⟩) ks.length gc) ks.length (ks.map tv)) (hi : w3.ownsRow w0.heap.size IntT 1 (.slice (some ⟨d, 0, none⟩) is.length dc) is.length (is.map iv))  (hW : W = ((((((((((((((w3.setCell ⟨b, 0, none⟩ (.int .i64 2)).setCell ⟨b, 1, none⟩ (.slice none 0 0)).setCell ⟨b, 2, none⟩ (.slice (some ⟨g, 0, none⟩) ks.length gc)).setCell ⟨b, 3, none⟩ (.slice (some ⟨d, 0, none⟩) is.length dc)).setCell ⟨b, 4, none⟩ (.string ⟨#[]⟩)).setCell ⟨b, 5, none⟩ (.slice none 0 0)).setCell ⟨b, 6, none⟩ (.slice none 0 0)).setCell ⟨b, 7, none⟩ (.int .i64 0)).setCell ⟨b, 8, none⟩ (.int .u64 0)).setCell ⟨b, 9, none⟩ (.int .i64 0)).setCell ⟨b, 10, none⟩ (.int .i64 0)).setCell ⟨b, 11, none⟩ (.int .i64 0)).setCell ⟨b, 12, none⟩ (.int .i64 0)).setCell ⟨b, 13, none⟩ (.int .i64 0))) :
    QkS w0 W b g gc d dc ks is := by
  subst hW
  have hbl := ((((((((((((((hn.set_ 0 (.int .i64 2)).set_ 1 (.slice none 0 0)).set_ 2 (.slice (some ⟨g, 0, none⟩) ks.length gc)).set_ 3 (.slice (some ⟨d, 0, none⟩) is.length dc)).set_ 4 (.string ⟨#[]⟩)).set_ 5 (.slice none 0 0)).set_ 6 (.slice none 0 0)).set_ 7 (.int .i64 0)).set_ 8 (.int .u64 0)).set_ 9 (.int .i64 0)).set_ 10 (.int .i64 0)).set_ 11 (.int .i64 0)).set_ 12 (.int .i64 0)).set_ 13 (.int .i64 0))
  simp only [pgZ, List.setIfInBounds_toArray, List.set_cons_succ, List.set_cons_zero] at hbl
  have ck := (((((((((((((((Chg.refl (OneM b) w3).setCell (p := ⟨b, 0, none⟩) (.inl rfl) (.int .i64 2)).setCell (p := ⟨b, 1, none⟩) (.inl rfl) (.slice none 0 0)).setCell (p := ⟨b, 2, none⟩) (.inl rfl) (.slice (some ⟨g, 0, none⟩) ks.length gc)).setCell (p := ⟨b, 3, none⟩) (.inl rfl) (.slice (some ⟨d, 0, none⟩) is.length dc)).setCell (p := ⟨b, 4, none⟩) (.inl rfl) (.string ⟨#[]⟩)).setCell (p := ⟨b, 5, none⟩) (.inl rfl) (.slice none 0 0)).setCell (p := ⟨b, 6, none⟩) (.inl rfl) (.slice none 0 0)).setCell (p := ⟨b, 7, none⟩) (.inl rfl) (.int .i64 0)).setCell (p := ⟨b, 8, none⟩) (.inl rfl) (.int .u64 0)).setCell (p := ⟨b, 9, none⟩) (.inl rfl) (.int .i64 0)).setCell (p := ⟨b, 10, none⟩) (.inl rfl) (.int .i64 0)).setCell (p := ⟨b, 11, none⟩) (.inl rfl) (.int .i64 0)).setCell (p := ⟨b, 12, none⟩) (.inl rfl) (.int .i64 0)).setCell (p := ⟨b, 13, none⟩) (.inl rfl) (.int .i64 0))
  refine ⟨(below_set (below_set (below_set (below_set (below_set (below_set (below_set (below_set (below_set (below_set (below_set (below_set (below_set (below_set hb ge (.int .i64 2)) ge (.slice none 0 0)) ge (.slice (some ⟨g, 0, none⟩) ks.length gc)) ge (.slice (some ⟨d, 0, none⟩) is.length dc)) ge (.string ⟨#[]⟩)) ge (.slice none 0 0)) ge (.slice none 0 0)) ge (.int .i64 0)) ge (.int .u64 0)) ge (.int .i64 0)) ge (.int .i64 0)) ge (.int .i64 0)) ge (.int .i64 0)) ge (.int .i64 0)), hbl, own_chg2 hk ck fun k hk' h' => ?_, own_chg2 hi ck fun k hk' h' => ?_, ge⟩
  · have h' : k = b := h'
    exact own_not hk (t := PageT) (by decide) k hk' _ (h'.symm ▸ hn)
  · have h' : k = b := h'
    exact own_not hi (t := PageT) (by decide) k hk' _ (h'.symm ▸ hn)
theorem QkS.made {w0 w3 W : World} {b : Nat} {g gc d dc : Nat} {ks : List Txt} {is : List Int} (hb : Below w0.heap.size w0 w3)
    (hk : w3.ownsRow w0.heap.size StrT 1 (.slice (some ⟨g, 0, none⟩) ks.length gc) ks.length (ks.map tv)) (hi : w3.ownsRow w0.heap.size IntT 1 (.slice (some ⟨d, 0, none⟩) is.length dc) is.length (is.map iv))  (hW : W = w3.alloc (.cells #[.int .i64 2, .slice none 0 0, .slice (some ⟨g, 0, none⟩) ks.length gc, .slice (some ⟨d, 0, none⟩) is.length dc, .string ⟨#[]⟩, .slice none 0 0, .slice none 0 0, .int .i64 0, .int .u64 0, .int .i64 0, .int .i64 0, .int .i64 0, .int .i64 0, .int .i64 0] PageT)) (hb' : b = w3.heap.size) :
    QkS w0 W b g gc d dc ks is := by
  subst hW
  subst hb'
  have hal : Below w3.heap.size w3 (w3.alloc (.cells (pageV (Sp.branchPg ks is) (refsB (some ⟨g, 0, none⟩) gc (some ⟨d, 0, none⟩) dc)).toArray PageT)) := (Below.refl _ _).alloc (Nat.le_refl _) _
  exact ⟨hb.trans (hal.mono hb.size), Blk.new _ _ _, own_chg2 (S := NoM) hk (Chg.of_below hal) (fun _ _ h => h), own_chg2 (S := NoM) hi (Chg.of_below hal) (fun _ _ h => h), hb.size⟩
theorem QkS.row {w0 X : World} {b g gc d dc : Nat} {ks : List Txt} {is : List Int} {old : Array Value} (hb : Below w0.heap.size w0 X) (hn : Blk X b PageT old) (ge : w0.heap.size ≤ b)
    (hk : X.ownsRow w0.heap.size StrT 1 (.slice (some ⟨g, 0, none⟩) ks.length gc) ks.length (ks.map tv)) (hi : X.ownsRow w0.heap.size IntT 1 (.slice (some ⟨d, 0, none⟩) is.length dc) is.length (is.map iv)) :
    QkS w0 (X.setRow b (pageV (Sp.branchPg ks is) (refsB (some ⟨g, 0, none⟩) gc (some ⟨d, 0, none⟩) dc)).toArray) b g gc d dc ks is :=
  ⟨below_setRow hb ge _, hn.row, own_chg2 hk (chg_setRow1' X b _) fun k hk' h' => own_not hk (t := PageT) (by decide) k hk' _ ((show k = b from h').symm ▸ hn),
    own_chg2 hi (chg_setRow1' X b _) fun k hk' h' => own_not hi (t := PageT) (by decide) k hk' _ ((show k = b from h').symm ▸ hn), ge⟩
end Go.Proofs.YtmcpkhknjdiocaaGreatDoor
