/- A map from numbers: what is in it; looked up, put in, taken out. The package's store, in plain Lean. The package's store: what it holds, in memory. Rows of numbers: where so many lie side by side. Rows of numbers: some that are side by side are taken out. The package's store in memory: what is turned of it. The package's store: numbers side by side are taken. Pages that may be are small; what a store reads, in plain Lean. The package's store: a page is added. -/
import Derived.Test.YtlpmjeiogdlifaaGreatQB03
import Derived.Test.YtlpmjeiogdlifaaGreatQB08
import Derived.Test.YtlpmjeiogdlifaaGreatQB09
import Derived.Test.YtlpmjeiogdlifaaGreatQB10
import Derived.Test.YtlpmjeiogdlifaaGreatQB18
import Derived.Test.YtlpmjeiogdlifaaGreatQB19
import Derived.BigRegion
import Derived.RegionTactic
import Derived.Shelf.SlicesE.DeleteFunc
import Derived.Lib.SlKeysI
set_option linter.unusedSimpArgs false
set_option linter.unusedVariables false
namespace Go.Proofs.YtlpmjeiogdlifaaGreat
open Go.RowKit
attribute [local go_sem low] mk_extract
attribute [local go_sem] After.cell After.frozen mk_extract_end ByteArray.mk_append_mk
namespace Sp
def lookD {α : Type} (D : List (Int × α)) (i : Int) : Option α := (D.find? (fun x => x.1 == i)).map (·.2)
def putD {α : Type} (D : List (Int × α)) (i : Int) (v : α) : List (Int × α) := if (lookD D i).isSome then D.map (fun x => if x.1 = i then (i, v) else x) else D ++ [(i, v)]
def delD {α : Type} (D : List (Int × α)) (i : Int) : List (Int × α) := D.filter (fun x => x.1 != i)
section
variable {α : Type} {D : List (Int × α)} {i : Int} {v : α}
theorem lookD_none : lookD D i = none ↔ ∀ x ∈ D, x.1 ≠ i := by
  unfold lookD
  rw [Option.map_eq_none_iff, List.find?_eq_none]
  constructor
  · intro h x hx e; exact h x hx (by simpa using e)
  · intro h x hx e; exact h x hx (by simpa using e)
theorem lookD_mem (h : lookD D i = some v) : (i, v) ∈ D := by
  unfold lookD at h
  obtain ⟨x, hx, rfl⟩ := Option.map_eq_some_iff.1 h
  have h1 := List.find?_some hx
  have h2 := List.mem_of_find?_eq_some hx
  have : x.1 = i := by simpa using h1
  rw [← this]
  exact h2
theorem putD_keys : (putD D i v).map (·.1) = if (lookD D i).isSome then D.map (·.1) else D.map (·.1) ++ [i] := by
  unfold putD
  split
  · rw [List.map_map]
    apply List.map_congr_left
    intro x _
    simp only [Function.comp]
    split
    · rename_i h; exact h.symm
    · rfl
  · simp
theorem putD_nodup (hn : (D.map (·.1)).Nodup) : ((putD D i v).map (·.1)).Nodup := by
  rw [putD_keys]
  split
  · exact hn
  · rename_i h
    have h : lookD D i = none := by simpa using h
    have h := lookD_none.1 h
    rw [List.nodup_append]
    refine ⟨hn, by simp, fun a ha b hb e => ?_⟩
    obtain ⟨x, hx, rfl⟩ := List.mem_map.1 ha
    rw [List.mem_singleton.1 hb] at e
    exact h x hx e
theorem delD_at : ∀ {D : List (Int × α)} {j : Nat}, (D.map (·.1)).Nodup → D[j]? = some (i, v) → delD D i = D.eraseIdx j
  | [], _, _, h => by simp at h
  | x :: D, 0, hn, h => by
    have hx : x = (i, v) := by simpa using h
    subst hx
    rw [List.map_cons, List.nodup_cons] at hn
    unfold delD
    rw [List.filter_cons_of_neg (by simp), List.eraseIdx_zero, List.tail_cons]
    exact List.filter_eq_self.2 fun y hy => by
      have : y.1 ≠ i := fun e => hn.1 (List.mem_map.2 ⟨y, hy, e⟩)
      simpa using this
  | x :: D, j + 1, hn, h => by
    rw [List.map_cons, List.nodup_cons] at hn
    have hj : D[j]? = some (i, v) := by simpa using h
    have hx : x.1 ≠ i := fun e => hn.1 (by rw [e]; exact List.mem_map.2 ⟨(i, v), List.mem_of_getElem? hj, rfl⟩)
    have ih := delD_at hn.2 hj
    unfold delD at ih ⊢
    rw [List.filter_cons_of_pos (by simpa using hx), List.eraseIdx_cons_succ, ih]
theorem eraseIdx_map' {β : Type} (f : α → β) : ∀ (l : List α) (j : Nat), (l.map f).eraseIdx j = (l.eraseIdx j).map f
  | [], _ => rfl
  | _ :: _, 0 => rfl
  | x :: l, j + 1 => by rw [List.map_cons, List.eraseIdx_cons_succ, List.eraseIdx_cons_succ, List.map_cons, eraseIdx_map' f l j]
theorem delD_nodup (hn : (D.map (·.1)).Nodup) : ((delD D i).map (·.1)).Nodup :=
  hn.sublist ((List.filter_sublist (l := D)).map _)
end
end Sp
def MapV (w : World) (d : Nat) (D : List (Int × Value)) : Prop := ∃ es clock, w.heap[d]? = some (.map es clock) ∧ es.toList.map (fun e => (e.key, e.val)) = D.map (fun x => (Value.int .i64 x.1, x.2)) ∧ MapKept.Stamped es clock
theorem MapV.lt {w : World} {d : Nat} {D : List (Int × Value)} (h : MapV w d D) : d < w.heap.size := by
  obtain ⟨es, c, h, _⟩ := h
  exact (Array.getElem?_eq_some_iff.1 h).1
theorem MapV.chg {S : Nat → Prop} {w w' : World} {d : Nat} {D : List (Int × Value)} (h : MapV w d D) (hk : Chg S w w') (hS : ¬ S d) : MapV w' d D := by
  have hl := h.lt
  obtain ⟨es, c, h1, h2⟩ := h
  exact ⟨es, c, (hk.block d hl hS).trans h1, h2⟩
theorem MapV.go {w w' : World} {d : Nat} {D : List (Int × Value)} (h : MapV w d D) (hb : Below w.heap.size w w') : MapV w' d D := h.chg (Chg.of_below (S := NoM) hb) (fun h => h)
theorem MapV.not_blk {w : World} {d : Nat} {D : List (Int × Value)} (h : MapV w d D) {t : TypeId} {cs : Array Value} : ¬ Blk w d t cs := fun hb => by
  obtain ⟨es, c, h1, _⟩ := h
  unfold Blk at hb
  rw [hb] at h1
  cases h1
theorem MapV.nodup {w : World} {d : Nat} {D : List (Int × Value)} (h : MapV w d D) : (D.map (·.1)).Nodup := by
  obtain ⟨es, c, _, h2, h3⟩ := h
  have h4 := h3.2.2
  have e : es.toList.map (·.key) = (D.map (·.1)).map (Value.int .i64) := by
    have := congrArg (List.map (·.1)) h2
    rw [List.map_map, List.map_map] at this
    rw [List.map_map]
    exact this
  rw [e] at h4
  exact (List.pairwise_map.1 h4).imp fun h e => h (by rw [e])
theorem MapV.keys {es : Array MapEntry} {D : List (Int × Value)} (h : es.toList.map (fun e => (e.key, e.val)) = D.map (fun x => (Value.int .i64 x.1, x.2))) : ∀ x ∈ es.toList, MapKept.IsKey (.int .i64) x.key := fun x hx => by
  have : (x.key, x.val) ∈ es.toList.map (fun e => (e.key, e.val)) := List.mem_map.2 ⟨x, hx, rfl⟩
  rw [h] at this
  obtain ⟨y, _, hy⟩ := List.mem_map.1 this
  have : x.key = .int .i64 y.1 := (congrArg Prod.fst hy).symm
  rw [this]
  rfl
theorem MapV.find {es : Array MapEntry} {D : List (Int × Value)} (h : es.toList.map (fun e => (e.key, e.val)) = D.map (fun x => (Value.int .i64 x.1, x.2))) (i : Int) :
    (Instr.findNow (.int .i64) (.int .i64 i) es.toList 0 = some none ∧ Sp.lookD D i = none) ∨ ∃ j e v, Instr.findNow (.int .i64) (.int .i64 i) es.toList 0 = some (some (j, v)) ∧ es.toList[j]? = some e ∧ e.key = .int .i64 i ∧ Sp.lookD D i = some v := by
  have aux : ∀ (l : List MapEntry) (D : List (Int × Value)) (n : Nat), l.map (fun e => (e.key, e.val)) = D.map (fun x => (Value.int .i64 x.1, x.2)) → (Instr.findNow (.int .i64) (.int .i64 i) l n = some none ∧ Sp.lookD D i = none) ∨ ∃ j e v, Instr.findNow (.int .i64) (.int .i64 i) l n = some (some (n + j, v)) ∧ l[j]? = some e ∧ e.key = .int .i64 i ∧ Sp.lookD D i = some v := by
    intro l
    induction l with
    | nil =>
      intro D n h
      cases D with
      | nil => exact .inl ⟨rfl, rfl⟩
      | cons y D => cases h
    | cons e l ih =>
      intro D n h
      cases D with
      | nil => cases h
      | cons y D =>
        rw [List.map_cons, List.map_cons] at h
        injection h with h1 h2
        have hk : e.key = .int .i64 y.1 := congrArg Prod.fst h1
        have hv : e.val = y.2 := congrArg Prod.snd h1
        by_cases hy : y.1 = i
        · refine .inr ⟨0, e, y.2, ?_, rfl, by rw [hk, hy], ?_⟩
          · simp [Instr.findNow, Instr.sameNow, hk, hy, hv]
          · simp [Sp.lookD, hy]
        · have hy' : ¬ i = y.1 := fun e => hy e.symm
          have hl : Sp.lookD (y :: D) i = Sp.lookD D i := by
            unfold Sp.lookD
            rw [List.find?_cons_of_neg (by simpa using hy)]
          have hf : Instr.findNow (.int .i64) (.int .i64 i) (e :: l) n = Instr.findNow (.int .i64) (.int .i64 i) l (n + 1) := by
            have hb : (i == y.1) = false := beq_eq_false_iff_ne.2 hy'
            simp [Instr.findNow, Instr.sameNow, hk, hb]
          rw [hl, hf]
          rcases ih D (n + 1) h2 with h | ⟨j, e', v, h1, h2, h3⟩
          · exact .inl h
          · exact .inr ⟨j + 1, e', v, by rw [h1, show n + (j + 1) = n + 1 + j by omega], by simpa using h2, h3⟩
  rcases aux es.toList D 0 h with h | ⟨j, e, v, h1, h2⟩
  · exact .inl h
  · exact .inr ⟨j, e, v, by rw [h1, Nat.zero_add], h2⟩
section
variable {mt et : TypeId} (ht : Tryz.prog.underlying mt = some (.map 3 et))
include ht
theorem MapV.look {w : World} {d : Nat} {D : List (Int × Value)} (h : MapV w d D) (i : Int) {z : Value} (hz : (zeroValue et).run Tryz.prog w = .ok z w) (ok : Bool) :
    (Instr.lookup mt (.map (some d)) (.int .i64 i) ok).run Tryz.prog w = .ok (if ok then .tuple #[(Sp.lookD D i).getD z, .bool (Sp.lookD D i).isSome] else (Sp.lookD D i).getD z) w := by
  obtain ⟨es, c, h1, h2, h3⟩ := h
  have hk : MapKept.IsKey (.int .i64) (.int .i64 i) := rfl
  have hd := Tryz.underlying3
  rcases MapV.find h2 i with ⟨hf, hl⟩ | ⟨j, e, v, hf, _, _, hl⟩
  · simp [Instr.lookup, run_underlying ht, MapKept.run_getObj_map h1, MapKept.run_checkKey hd hk, MapKept.run_findKey hd hf, hz, Result.andThen, hl]
    all_goals (cases ok <;> rfl)
  · simp [Instr.lookup, run_underlying ht, MapKept.run_getObj_map h1, MapKept.run_checkKey hd hk, MapKept.run_findKey hd hf, Result.andThen, hl]
    all_goals (cases ok <;> rfl)
theorem MapV.put {w : World} {d : Nat} {D : List (Int × Value)} (h : MapV w d D) (i : Int) (v : Value) :
    ∃ o, (Instr.mapUpdate mt (.map (some d)) (.int .i64 i) v).run Tryz.prog w = .ok () (turnM w d o) ∧ MapV (turnM w d o) d (Sp.putD D i v) := by
  obtain ⟨es, c, h1, h2, h3⟩ := h
  have hk : MapKept.IsKey (.int .i64) (.int .i64 i) := rfl
  have hd := Tryz.underlying3
  rcases MapV.find h2 i with ⟨hf, hl⟩ | ⟨j, e, v0, hf, hj, hek, hl⟩
  · have hno := Sp.lookD_none.1 hl
    refine ⟨.map (es.push { key := .int .i64 i, val := v, born := c }) (c + 1), ?_, _, _, setB_heap h1, ?_, MapKept.stamped_push h3 fun x hx e => ?_⟩
    · simp [Instr.mapUpdate, run_underlying ht, MapKept.run_getObj_map h1, MapKept.run_checkKey hd hk, MapKept.run_findKey hd hf, MapKept.run_setObj_map _ h1, Result.andThen, turnM]
    · unfold Sp.putD
      rw [hl]
      simp [h2]
    · have : (x.key, x.val) ∈ es.toList.map (fun e => (e.key, e.val)) := List.mem_map.2 ⟨x, hx, rfl⟩
      rw [h2] at this
      obtain ⟨y, hy, hy2⟩ := List.mem_map.1 this
      have : x.key = .int .i64 y.1 := (congrArg Prod.fst hy2).symm
      rw [this] at e
      injection e with _ e
      exact hno y hy e
  · have hj' : es[j]? = some e := by simpa using hj
    refine ⟨.map (es.modify j fun e => { e with key := .int .i64 i, val := v }) c, ?_, _, _, setB_heap h1, ?_, MapKept.stamped_modify h3 _ _ (fun _ _ => rfl) (fun e' _ he' => by rw [hj'] at he'; cases he'; exact hek.symm)⟩
    · simp [Instr.mapUpdate, run_underlying ht, MapKept.run_getObj_map h1, MapKept.run_checkKey hd hk, MapKept.run_findKey hd hf, hj', hek, MapKept.run_keyThatStays hk, MapKept.run_setObj_map _ h1, Result.andThen, turnM]
    · have hn := h3.2.2
      unfold Sp.putD
      rw [hl]
      apply List.ext_getElem?
      intro k
      have h2k : (es.toList[k]?).map (fun e => (e.key, e.val)) = (D[k]?).map (fun x => (Value.int .i64 x.1, x.2)) := by rw [← List.getElem?_map, h2, List.getElem?_map]
      simp only [Option.isSome_some, if_true, List.getElem?_map, Array.getElem?_toList, Array.getElem?_modify, Option.map_map] at h2k ⊢
      cases hE : es[k]? with
      | none =>
        rw [hE] at h2k
        cases hD : D[k]? with
        | none => simp
        | some x => rw [hD] at h2k; simp at h2k
      | some e2 =>
        rw [hE] at h2k
        cases hD : D[k]? with
        | none => rw [hD] at h2k; simp at h2k
        | some x =>
          rw [hD] at h2k
          simp only [Option.map_some, Option.some.injEq, Prod.mk.injEq] at h2k
          by_cases hkj : j = k
          · subst hkj
            rw [hj'] at hE
            cases hE
            have hx : x.1 = i := by
              have := h2k.1.symm.trans hek
              injection this
            simp [hx]
          · have hx : x.1 ≠ i := fun hx => by
              have hkk : e2.key = e.key := by rw [h2k.1, hx, hek]
              have hlt1 : j < (es.toList.map (·.key)).length := by rw [List.length_map]; exact (List.getElem?_eq_some_iff.1 hj).1
              have hlt2 : k < (es.toList.map (·.key)).length := by rw [List.length_map, Array.length_toList]; exact (Array.getElem?_eq_some_iff.1 hE).1
              have g1 : (es.toList.map (·.key))[j] = e.key := by
                rw [List.getElem_map]
                exact congrArg _ (List.getElem?_eq_some_iff.1 hj).2
              have g2 : (es.toList.map (·.key))[k] = e2.key := by
                rw [List.getElem_map, Array.getElem_toList]
                exact congrArg _ (Array.getElem?_eq_some_iff.1 hE).2
              exact hkj ((List.getElem_inj hn).1 (g1.trans (hkk.symm.trans g2.symm)))
            simp [hkj, hx, h2k.1, h2k.2]
theorem MapV.del {w : World} {d : Nat} {D : List (Int × Value)} (h : MapV w d D) (i : Int) {kt : TypeId} (ty : TypeId) :
    ∃ o, (Builtin.delete_ #[mt, kt] ty #[.map (some d), .int .i64 i]).run Tryz.prog w = .ok (.tuple #[]) (turnM w d o) ∧ MapV (turnM w d o) d (Sp.delD D i) := by
  obtain ⟨es, c, h1, h2, h3⟩ := h
  have hk : MapKept.IsKey (.int .i64) (.int .i64 i) := rfl
  have hd := Tryz.underlying3
  rcases MapV.find h2 i with ⟨hf, hl⟩ | ⟨j, e, v0, hf, hj, hek, hl⟩
  · have hno := Sp.lookD_none.1 hl
    refine ⟨.map es c, ?_, es, c, setB_heap h1, ?_, h3⟩
    · simp [Builtin.delete_, run_underlying ht, MapKept.run_getObj_map h1, MapKept.run_checkKey hd hk, MapKept.run_findKey hd hf, MapKept.run_setObj_map _ h1, Result.andThen, turnM]
    · rw [h2]
      unfold Sp.delD
      rw [List.filter_eq_self.2 fun x hx => by simpa using hno x hx]
  · have hj' : es[j]? = some e := by simpa using hj
    have hjl : j < es.size := (Array.getElem?_eq_some_iff.1 hj').1
    refine ⟨.map (es.eraseIdxIfInBounds j) c, ?_, _, _, setB_heap h1, ?_, MapKept.stamped_erase h3 j⟩
    · simp [Builtin.delete_, run_underlying ht, MapKept.run_getObj_map h1, MapKept.run_checkKey hd hk, MapKept.run_findKey hd hf, MapKept.run_setObj_map _ h1, Result.andThen, turnM]
    · have hn := MapV.nodup (w := w) (d := d) ⟨es, c, h1, h2, h3⟩
      have hDj : ∃ v1, D[j]? = some (i, v1) := by
        have h2k : (es.toList[j]?).map (fun e => (e.key, e.val)) = (D[j]?).map (fun x => (Value.int .i64 x.1, x.2)) := by rw [← List.getElem?_map, h2, List.getElem?_map]
        rw [hj] at h2k
        cases hD : D[j]? with
        | none => rw [hD] at h2k; simp at h2k
        | some x =>
          rw [hD] at h2k
          simp only [Option.map_some, Option.some.injEq, Prod.mk.injEq] at h2k
          have hx : x.1 = i := by
            have := h2k.1.symm.trans hek
            injection this
          exact ⟨x.2, by rw [← hx]⟩
      obtain ⟨v1, hDj⟩ := hDj
      rw [Array.eraseIdxIfInBounds_eq, dif_pos hjl, Array.toList_eraseIdx, ← Sp.eraseIdx_map', h2, Sp.eraseIdx_map', ← Sp.delD_at hn hDj]
end
end Go.Proofs.YtlpmjeiogdlifaaGreat
namespace Go.Proofs.YtlpmjeiogdlifaaGreat
open Go.RowKit
attribute [local go_sem low] mk_extract
attribute [local go_sem] After.cell After.frozen mk_extract_end ByteArray.mk_append_mk
namespace Sp
structure Sto where
  d : List (Int × Page)
  freed : List Int
  avail : List Int
  last : Int
  most : Int
def readF (s : Txt) : Page × Option Int := if readOk s then (parse s, none) else (pg0, some 12)
def Sto.read (s : Sto) (V : List Txt) (id : Int) : Page × Option Int :=
  if id < 2 ∨ s.most ≤ id then (pg0, some 14) else match lookD s.d id with
    | some p => if p.kind = 0 then (pg0, some 12) else (p, none)
    | none => readF (atV V id)
def runAt (l : List Int) (n i : Nat) : Bool := (List.range n).all fun k => decide (i + k < l.length ∧ l.getD (i + k) 0 - l.getD i 0 = (k : Int))
def runI (l : List Int) (n : Int) : Option Int := if n < 1 then none else ((List.range l.length).find? (runAt l n.toNat)).map fun i => l.getD i 0
def dropI (l : List Int) (a n : Int) : List Int := l.filter fun x => !decide (0 < n ∧ a ≤ x ∧ x - a < n)
def Sto.numbers (s : Sto) (n : Int) : (Int × Option Int) × Sto :=
  if 120 < (s.d.length : Int) + n then ((0, some 17), s) else match runI s.avail n with
    | some id => ((id, none), { s with avail := dropI s.avail id n })
    | none => if s.most < s.last + n then ((0, some 14), s) else ((s.last, none), { s with last := s.last + n })
def Sto.add (s : Sto) (p : Page) : (Int × Option Int) × Sto :=
  if isPage p = false then ((0, some 10), s) else match s.numbers 1 with
    | ((id, none), s') => ((id, none), { s' with d := putD s'.d id p })
    | ((id, some e), s') => ((id, some e), s')
def Sto.set_ (s : Sto) (id : Int) (p : Page) : Option Int × Sto :=
  if (lookD s.d id).isSome ∧ isPage p = true then (none, { s with d := putD s.d id p }) else (some 10, s)
def Sto.drop (s : Sto) (id : Int) : Sto :=
  if (lookD s.d id).isSome then { s with d := delD s.d id, avail := insI id s.avail } else if 2 ≤ id ∧ id < s.last ∧ id ∉ s.avail then { s with freed := insI id s.freed } else s
def Sto.touch (s : Sto) (V : List Txt) (id : Int) : (Int × Option Int) × Sto :=
  if (lookD s.d id).isSome then ((id, none), s) else match s.read V id with
    | (_, some e) => ((0, some e), s)
    | (p, none) => match s.add p with
      | ((n, none), s') => ((n, none), s'.drop id)
      | ((n, some e), s') => ((n, some e), s')
def runD (d : List (Int × Page)) (id : Int) : Nat → List (Int × Page)
  | 0 => d
  | k + 1 => putD (runD d id k) (id + k) pg0
def Sto.run (s : Sto) (n : Int) : (Int × Option Int) × Sto :=
  if n < 1 then ((0, some 10), s) else if 120 < n then ((0, some 17), s) else match s.numbers n with
    | ((id, none), s') => ((id, none), { s' with d := runD s'.d id n.toNat })
    | ((_, some e), s') => ((0, some e), s')
def Rise (L : List Int) : Prop := L.Pairwise (· < ·) ∧ ∀ x ∈ L, 2 ≤ x ∧ x < 400
theorem rise_len : ∀ {L : List Int} {a b : Int}, L.Pairwise (· < ·) → (∀ x ∈ L, a ≤ x ∧ x < b) → (L.length : Int) ≤ max (b - a) 0
  | [], _, _, _, _ => by simp; omega
  | x :: L, a, b, h, hb => by
    obtain ⟨h1, h2⟩ := List.pairwise_cons.1 h
    have hx := hb x (by simp)
    have := rise_len (a := x + 1) (b := b) h2 fun y hy => ⟨by have := h1 y hy; omega, (hb y (by simp [hy])).2⟩
    rw [List.length_cons]
    omega
theorem Rise.len {L : List Int} (h : Rise L) : L.length ≤ 400 := by
  have := rise_len h.1 h.2
  omega
theorem Rise.nil : Rise [] := ⟨List.Pairwise.nil, fun _ h => by cases h⟩
theorem posI_parts (n : Int) : ∀ {L : List Int}, L.Pairwise (· < ·) → (∀ x ∈ L.take (posI n L), x < n) ∧ ∀ x ∈ L.drop (posI n L), n ≤ x
  | [], _ => by simp
  | a :: l, h => by
    obtain ⟨h1, h2⟩ := List.pairwise_cons.1 h
    by_cases ha : a < n
    · have e : posI n (a :: l) = posI n l + 1 := by simp [posI, List.countP_cons, ha]
      obtain ⟨i1, i2⟩ := posI_parts n h2
      rw [e, List.take_succ_cons, List.drop_succ_cons]
      refine ⟨fun x hx => ?_, i2⟩
      rcases List.mem_cons.1 hx with rfl | hx
      · exact ha
      · exact i1 x hx
    · have e : posI n (a :: l) = 0 := by
        unfold posI
        rw [List.countP_eq_zero]
        intro x hx
        rcases List.mem_cons.1 hx with rfl | hx
        · simpa using Int.not_lt.1 ha
        · have := h1 x hx
          have : n ≤ x := by omega
          simpa using this
      rw [e, List.take_zero, List.drop_zero]
      refine ⟨fun x hx => (by cases hx), fun x hx => ?_⟩
      rcases List.mem_cons.1 hx with rfl | hx
      · omega
      · have := h1 x hx; omega
theorem mem_insI {n x : Int} {L : List Int} : x ∈ insI n L ↔ x = n ∨ x ∈ L := by
  unfold insI
  split
  · rename_i h
    constructor
    · exact .inr
    · rintro (rfl | h')
      · exact h
      · exact h'
  · constructor
    · intro h
      rcases List.mem_append.1 h with h | h
      · exact .inr (List.mem_of_mem_take h)
      · rcases List.mem_cons.1 h with h | h
        · exact .inl h
        · exact .inr (List.mem_of_mem_drop h)
    · rintro (rfl | h)
      · simp
      · rw [← List.take_append_drop (posI n L) L] at h
        rcases List.mem_append.1 h with h | h
        · exact List.mem_append.2 (.inl h)
        · exact List.mem_append.2 (.inr (List.mem_cons.2 (.inr h)))
theorem insI_up {n : Int} {L : List Int} (h : L.Pairwise (· < ·)) : (insI n L).Pairwise (· < ·) := by
  unfold insI
  split
  · exact h
  · rename_i hn
    obtain ⟨h1, h2⟩ := posI_parts n h
    have h3 : ∀ x ∈ L.drop (posI n L), n < x := fun x hx => by
      have := h2 x hx
      have : x ≠ n := fun e => hn (e ▸ List.mem_of_mem_drop hx)
      omega
    refine List.pairwise_append.2 ⟨h.sublist (List.take_sublist _ _), List.pairwise_cons.2 ⟨h3, h.sublist (List.drop_sublist _ _)⟩, fun x hx y hy => ?_⟩
    rcases List.mem_cons.1 hy with rfl | hy
    · exact h1 x hx
    · have := h1 x hx; have := h3 y hy; omega
theorem Rise.ins {n : Int} {L : List Int} (h : Rise L) (h2 : 2 ≤ n) (h4 : n < 400) : Rise (insI n L) :=
  ⟨insI_up h.1, fun x hx => by
    rcases mem_insI.1 hx with rfl | hx
    · exact ⟨h2, h4⟩
    · exact h.2 x hx⟩
theorem Rise.drop {a n : Int} {L : List Int} (h : Rise L) : Rise (dropI L a n) :=
  ⟨h.1.sublist List.filter_sublist, fun x hx => h.2 x (List.mem_filter.1 hx).1⟩
theorem mem_dropI {a n x : Int} {L : List Int} : x ∈ dropI L a n ↔ x ∈ L ∧ ¬ (0 < n ∧ a ≤ x ∧ x - a < n) := by
  unfold dropI
  rw [List.mem_filter, Bool.not_eq_true', decide_eq_false_iff_not]
theorem runI_some {l : List Int} {n id : Int} (h : runI l n = some id) : 1 ≤ n ∧ ∃ i, i < l.length ∧ l.getD i 0 = id ∧ ∀ k, k < n.toNat → i + k < l.length ∧ l.getD (i + k) 0 = id + k := by
  unfold runI at h
  split at h
  · cases h
  · rename_i hn
    obtain ⟨i, hi, rfl⟩ := Option.map_eq_some_iff.1 h
    have h1 := List.find?_some hi
    unfold runAt at h1
    rw [List.all_eq_true] at h1
    have h2 : ∀ k, k < n.toNat → i + k < l.length ∧ l.getD (i + k) 0 = l.getD i 0 + k := fun k hk => by
      have := h1 k (List.mem_range.2 hk)
      have := of_decide_eq_true this
      omega
    exact ⟨by omega, i, by have := (h2 0 (by omega)).1; omega, rfl, h2⟩
theorem runI_mem {l : List Int} {n id : Int} (h : runI l n = some id) (k : Nat) (hk : (k : Int) < n) : id + k ∈ l := by
  obtain ⟨_, i, _, _, h2⟩ := runI_some h
  obtain ⟨h3, h4⟩ := h2 k (by omega)
  rw [← h4, List.getD_eq_getElem?_getD, List.getElem?_eq_getElem h3]
  exact List.getElem_mem h3
structure Sto.Ok (s : Sto) : Prop where
  last : 2 ≤ s.last ∧ s.last ≤ 400
  most : 2 ≤ s.most ∧ s.most ≤ 400
  avail : Rise s.avail
  freed : Rise s.freed
  nodup : (s.d.map (·.1)).Nodup
  keys : ∀ x ∈ s.d, 2 ≤ x.1 ∧ x.1 < 400
  cnt : s.d.length ≤ 120
theorem putD_len {α : Type} (D : List (Int × α)) (i : Int) (v : α) : (putD D i v).length ≤ D.length + 1 := by
  unfold putD
  split
  · rw [List.length_map]; omega
  · rw [List.length_append, List.length_singleton]; omega
theorem putD_has {α : Type} {D : List (Int × α)} {i : Int} {v : α} (h : (lookD D i).isSome) : (putD D i v).length = D.length := by
  unfold putD
  rw [if_pos h, List.length_map]
theorem putD_mem {α : Type} {D : List (Int × α)} {i : Int} {v : α} {x : Int × α} (h : x ∈ putD D i v) : x = (i, v) ∨ x ∈ D := by
  unfold putD at h
  split at h
  · obtain ⟨y, hy, rfl⟩ := List.mem_map.1 h
    split
    · exact .inl rfl
    · exact .inr hy
  · rcases List.mem_append.1 h with h | h
    · exact .inr h
    · exact .inl (List.mem_singleton.1 h)
theorem Sto.Ok.numbers {s : Sto} (h : s.Ok) {n : Int} (hn : 1 ≤ n) : (s.numbers n).2.Ok ∧ (s.numbers n).2.d = s.d ∧ (s.numbers n).2.most = s.most ∧ (s.numbers n).2.freed = s.freed ∧ ((s.numbers n).1.2 = none → 2 ≤ (s.numbers n).1.1 ∧ (s.numbers n).1.1 + n ≤ 400 ∧ (s.d.length : Int) + n ≤ 120) := by
  unfold Sto.numbers
  split
  · exact ⟨h, rfl, rfl, rfl, fun h => by cases h⟩
  · rename_i hc
    split
    · rename_i id hr
      refine ⟨{ h with avail := h.avail.drop }, rfl, rfl, rfl, fun _ => ?_⟩
      have h1 := runI_mem hr 0 (by omega)
      have h2 := runI_mem hr (n - 1).toNat (by omega)
      have h3 := h.avail.2 _ h1
      have h4 := h.avail.2 _ h2
      refine ⟨by simpa using h3.1, ?_, by omega⟩
      show id + n ≤ 400
      omega
    · have := h.last; have := h.most
      split
      · exact ⟨h, rfl, rfl, rfl, fun h => by cases h⟩
      · refine ⟨{ h with last := ⟨?_, ?_⟩ }, rfl, rfl, rfl, fun _ => ⟨?_, ?_, ?_⟩⟩
        · show 2 ≤ s.last + n; omega
        · show s.last + n ≤ 400; omega
        · show 2 ≤ s.last; omega
        · show s.last + n ≤ 400; omega
        · omega
end Sp
end Go.Proofs.YtlpmjeiogdlifaaGreat
namespace Go.Proofs.YtlpmjeiogdlifaaGreat
open Go.RowKit
attribute [local go_sem low] mk_extract
attribute [local go_sem] After.cell After.frozen mk_extract_end ByteArray.mk_append_mk
abbrev StoT : TypeId := 99
abbrev PgMapT : TypeId := 97
def DPg (w : World) (M : Nat → Prop) : List (Int × Sp.Page) → List (Int × Value) → Prop
  | [], D => D = []
  | x :: l, D => ∃ r E, D = (x.1, .agg (pageV x.2 r).toArray) :: E ∧ PageRd w M x.2 r ∧ x.2.Small ∧ DPg w M l E
section
variable {w w' : World} {M : Nat → Prop}
theorem DPg.chg (hk : Chg M w w') : ∀ {l : List (Int × Sp.Page)} {D : List (Int × Value)}, DPg w M l D → DPg w' M l D
  | [], _, h => h
  | _ :: _, _, ⟨r, E, e, h1, h2, h⟩ => ⟨r, E, e, h1.chg hk, h2, h.chg hk⟩
theorem DPg.keys : ∀ {l : List (Int × Sp.Page)} {D : List (Int × Value)}, DPg w M l D → D.map (·.1) = l.map (·.1)
  | [], _, h => by
    have h : _ = [] := h
    rw [h]; rfl
  | _ :: _, _, ⟨r, E, e, _, _, h⟩ => by rw [e, List.map_cons, List.map_cons, h.keys]
theorem DPg.len {l : List (Int × Sp.Page)} {D : List (Int × Value)} (h : DPg w M l D) : D.length = l.length := by
  have := congrArg List.length h.keys
  simpa using this
theorem DPg.look (i : Int) : ∀ {l : List (Int × Sp.Page)} {D : List (Int × Value)}, DPg w M l D → (Sp.lookD l i = none ∧ Sp.lookD D i = none) ∨ ∃ p r, Sp.lookD l i = some p ∧ Sp.lookD D i = some (.agg (pageV p r).toArray) ∧ PageRd w M p r ∧ p.Small
  | [], _, h => by
    have h : _ = [] := h
    rw [h]
    exact .inl ⟨rfl, rfl⟩
  | x :: l, _, ⟨r, E, e, h1, h2, h⟩ => by
    rw [e]
    by_cases hx : x.1 = i
    · right
      exact ⟨x.2, r, by simp [Sp.lookD, hx], by simp [Sp.lookD, hx], h1, h2⟩
    · have e1 : Sp.lookD (x :: l) i = Sp.lookD l i := by
        unfold Sp.lookD
        rw [List.find?_cons_of_neg (by simpa using hx)]
      have e2 : Sp.lookD ((x.1, Value.agg (pageV x.2 r).toArray) :: E) i = Sp.lookD E i := by
        unfold Sp.lookD
        rw [List.find?_cons_of_neg (by simpa using hx)]
      rw [e1, e2]
      exact DPg.look i h
theorem DPg.some_iff {l : List (Int × Sp.Page)} {D : List (Int × Value)} (h : DPg w M l D) (i : Int) : (Sp.lookD D i).isSome = (Sp.lookD l i).isSome := by
  rcases h.look i with ⟨h1, h2⟩ | ⟨p, r, h1, h2, _⟩ <;> rw [h1, h2] <;> rfl
theorem DPg.app {m : List (Int × Sp.Page)} {E : List (Int × Value)} (hq : DPg w M m E) : ∀ {l : List (Int × Sp.Page)} {D : List (Int × Value)}, DPg w M l D → DPg w M (l ++ m) (D ++ E)
  | [], _, h => by
    have h : _ = [] := h
    rw [h]; exact hq
  | _ :: _, _, ⟨r, F, e, h1, h2, h⟩ => ⟨r, F ++ E, by rw [e]; rfl, h1, h2, DPg.app hq h⟩
theorem DPg.turn {i : Int} {p : Sp.Page} {r0 : Refs} (hp : PageRd w M p r0) (hs : p.Small) : ∀ {l : List (Int × Sp.Page)} {D : List (Int × Value)}, DPg w M l D → DPg w M (l.map fun x => if x.1 = i then (i, p) else x) (D.map fun x => if x.1 = i then (i, .agg (pageV p r0).toArray) else x)
  | [], _, h => by
    have h : _ = [] := h
    rw [h]; rfl
  | x :: l, _, ⟨r, E, e, h1, h2, h⟩ => by
    rw [e, List.map_cons, List.map_cons]
    dsimp only
    split
    · exact ⟨r0, _, rfl, hp, hs, h.turn hp hs⟩
    · exact ⟨r, _, rfl, h1, h2, h.turn hp hs⟩
theorem DPg.put {i : Int} {p : Sp.Page} {r0 : Refs} {l : List (Int × Sp.Page)} {D : List (Int × Value)} (h : DPg w M l D) (hp : PageRd w M p r0) (hs : p.Small) : DPg w M (Sp.putD l i p) (Sp.putD D i (.agg (pageV p r0).toArray)) := by
  unfold Sp.putD
  rw [h.some_iff i]
  split
  · exact h.turn hp hs
  · exact DPg.app (m := [(i, p)]) ⟨r0, [], rfl, hp, hs, rfl⟩ h
theorem DPg.del {i : Int} : ∀ {l : List (Int × Sp.Page)} {D : List (Int × Value)}, DPg w M l D → DPg w M (Sp.delD l i) (Sp.delD D i)
  | [], _, h => by
    have h : _ = [] := h
    rw [h]; rfl
  | x :: l, _, ⟨r, E, e, h1, h2, h⟩ => by
    rw [e]
    have ih := DPg.del (i := i) h
    unfold Sp.delD at ih ⊢
    by_cases hx : x.1 = i
    · rw [List.filter_cons_of_neg (by simpa using hx), List.filter_cons_of_neg (by simpa using hx)]
      exact ih
    · rw [List.filter_cons_of_pos (by simpa using hx), List.filter_cons_of_pos (by simpa using hx)]
      exact ⟨r, _, rfl, h1, h2, ih⟩
end
structure RowAt (w : World) (u : Value) (L : List Int) : Prop where
  own : w.ownsRow 0 IntT 1 u L.length (L.map iv)
  ok : Sp.Rise L
structure StAt (w : World) (M : Nat → Prop) (t f m d : Nat) (fv : Value) (V : List Txt) (s : Sp.Sto) : Prop where
  bt : ∃ uf ua, Blk w t StoT #[.pointer (some ⟨f, 0, none⟩), .map (some d), uf, ua, .int .i64 s.last, .int .i64 s.most] ∧ RowAt w uf s.freed ∧ RowAt w ua s.avail
  fa : FileAt w f fv m V
  dm : ∃ D, MapV w d D ∧ DPg w M s.d D
  hm : d ≠ m
  hM : M t ∧ M d
  lt : ∀ k, M k → k < w.heap.size
section
variable {w w' : World} {M : Nat → Prop} {t f m d : Nat} {fv : Value} {V : List Txt} {s : Sp.Sto}
theorem RowAt.chg {S : Nat → Prop} {u : Value} {L : List Int} (h : RowAt w u L) (hk : Chg S w w') (hS : ∀ k, u.ownBlock = some k → ¬ S k) : RowAt w' u L := ⟨own_chg2 h.own hk hS, h.ok⟩
theorem RowAt.iv {u : Value} {L : List Int} (h : RowAt w u L) : IV w u L := own_iv h.own (by have := h.ok.len; omega)
theorem StAt.chg {S : Nat → Prop} (h : StAt w M t f m d fv V s) (hk : Chg S w w') (hSM : ∀ k, S k → M k) (ht : ¬ S t) (hf : ¬ S f) (hm : ¬ S m) (hd : ¬ S d) (hv : ∀ k, fv.ownBlock = some k → ¬ S k) (hI : ∀ k cs, Blk w k IntT cs → ¬ S k) : StAt w' M t f m d fv V s := by
  obtain ⟨uf, ua, h1, h2, h3⟩ := h.bt
  obtain ⟨D, h4, h5⟩ := h.dm
  have hrow : ∀ {u : Value} {L : List Int}, RowAt w u L → RowAt w' u L := fun {u L} hr => hr.chg hk fun k hk' => by
    rcases hr.own.2 with ⟨e, _⟩ | ⟨g, cap, cur, e, _, hh, _⟩
    · rw [e] at hk'; simp [Value.ownBlock] at hk'
    · rw [e] at hk'
      have : g = k := by simpa [Value.ownBlock] using hk'
      exact this ▸ hI g cur hh
  exact ⟨⟨uf, ua, h1.chg hk ht, hrow h2, hrow h3⟩, h.fa.chg hk hf hm hv, ⟨D, h4.chg hk hd, h5.chg (hk.mono fun k _ h => hSM k h)⟩, h.hm, h.hM, fun k hk' => Nat.lt_of_lt_of_le (h.lt k hk') hk.size⟩
theorem StAt.go (h : StAt w M t f m d fv V s) (hb : Below w.heap.size w w') : StAt w' M t f m d fv V s :=
  h.chg (Chg.of_below (S := NoM) hb) (fun _ h => absurd h (fun h => h)) (fun h => h) (fun h => h) (fun h => h) (fun h => h) (fun _ _ h => h) (fun _ _ _ h => h)
end
end Go.Proofs.YtlpmjeiogdlifaaGreat
namespace Go.Proofs.YtlpmjeiogdlifaaGreat
open Go.RowKit
attribute [local go_sem low] mk_extract
attribute [local go_sem] After.cell After.frozen mk_extract_end ByteArray.mk_append_mk
namespace Sp
end Sp
theorem cell_lt' {w : World} {a : Addr} {v : Value} (h : w.cell? a = some v) : a.block < w.heap.size := by
  unfold World.cell? at h
  cases hq : w.heap[a.block]? with
  | none => simp [hq] at h
  | some o => exact (Array.getElem?_eq_some_iff.1 hq).1
end Go.Proofs.YtlpmjeiogdlifaaGreat
namespace Go.Proofs.YtlpmjeiogdlifaaGreat
open Go.RowKit
attribute [local go_sem low] mk_extract
attribute [local go_sem] After.cell After.frozen mk_extract_end ByteArray.mk_append_mk
open Go.Sort
def renDel : Go.Shelf.Ren := ⟨fun | 6 => 244 | 10 => 214 | n => n, fun | 22 => 32 | 23 => 3 | 3 => 3 | 4 => 4 | 25 => 167 | 0 => 0 | n => n, fun | n => n⟩
def Sp.dropP (a n x : Int) : Bool := decide (0 < n) && decide (a ≤ x) && decide ((x - a) % 18446744073709551616 < n)
end Go.Proofs.YtlpmjeiogdlifaaGreat
namespace Go.Proofs.YtlpmjeiogdlifaaGreat
open Go.RowKit
attribute [local go_sem low] mk_extract
attribute [local go_sem] After.cell After.frozen mk_extract_end ByteArray.mk_append_mk
def erO : Option Int → Value
  | none => .nilIface
  | some k => .iface 69 (.int .i64 k)
theorem own_ty {w : World} {base : Nat} {e : TypeId} {n : Nat} {v : Value} {xs : List Value} (h : w.ownsRow base e 1 v n xs) {k : Nat} (hk : v.ownBlock = some k) : ∃ cs, Blk w k e cs := by
  rcases h.2 with ⟨rfl, _⟩ | ⟨g, cap, cur, rfl, _, hh, _⟩
  · simp [Value.ownBlock] at hk
  · have : g = k := by simpa [Value.ownBlock] using hk
    exact ⟨cur, this ▸ hh⟩
theorem own_slice {w : World} {base : Nat} {e : TypeId} {n : Nat} {v : Value} {xs : List Value} (h : w.ownsRow base e 1 v n xs) : ∃ A c, v = .slice A n c := by
  rcases h.2 with ⟨rfl, h0⟩ | ⟨g, cap, cur, rfl, _⟩
  · exact ⟨none, 0, by rw [h0]⟩
  · exact ⟨_, _, rfl⟩
section
variable {w w' : World} {M : Nat → Prop} {t f m d : Nat} {fv : Value} {V : List Txt} {s : Sp.Sto}
theorem RowAt.far {u : Value} {L : List Int} (h : RowAt w u L) {ty : TypeId} (hne : ty ≠ IntT) {cs : Array Value} (hb : Blk w t ty cs) (hk : Chg (OneM t) w w') : RowAt w' u L :=
  h.chg hk fun k hk' e => by
    have e : k = t := e
    subst e
    obtain ⟨cs', h'⟩ := own_ty h.own hk'
    exact hb.not_ hne _ h'
theorem StAt.turnT (h : StAt w M t f m d fv V s) (hk : Chg (OneM t) w w') {s' : Sp.Sto} {uf ua : Value} (hb : Blk w' t StoT #[.pointer (some ⟨f, 0, none⟩), .map (some d), uf, ua, .int .i64 s'.last, .int .i64 s'.most])
    (h2 : RowAt w' uf s'.freed) (h3 : RowAt w' ua s'.avail) (hd : s'.d = s.d) : StAt w' M t f m d fv V s' := by
  obtain ⟨_, _, h1, _, _⟩ := h.bt
  obtain ⟨D, h4, h5⟩ := h.dm
  refine ⟨⟨uf, ua, hb, h2, h3⟩, h.fa.chg hk (fun e => ?_) (fun e => ?_) (fun k hk' e => ?_), ⟨D, h4.chg hk (fun e => ?_), ?_⟩, h.hm, h.hM, fun k hk' => Nat.lt_of_lt_of_le (h.lt k hk') hk.size⟩
  · have e : f = t := e
    subst e
    obtain ⟨sv, hf⟩ := h.fa.bf
    exact h1.not_ (by decide) _ hf
  · have e : m = t := e
    subst e
    exact h.fa.map.not_blk h1
  · have e : k = t := e
    subst e
    obtain ⟨cs', h'⟩ := own_ty h.fa.own hk'
    exact h1.not_ (by decide) _ h'
  · have e : d = t := e
    subst e
    exact h4.not_blk h1
  · rw [hd]
    exact h5.chg (hk.mono fun k _ e => by
      have e : k = t := e
      exact e ▸ h.hM.1)
theorem StAt.avail_ (h : StAt w M t f m d fv V s) {u : Value} {L : List Int} (ho : RowAt w u L) : StAt (w.setCell ⟨t, 3, none⟩ u) M t f m d fv V { s with avail := L } := by
  obtain ⟨uf, ua, h1, h2, h3⟩ := h.bt
  have hk : Chg (OneM t) w (w.setCell ⟨t, 3, none⟩ u) := Chg.set1 w t 3 u
  exact h.turnT hk (h1.set_ 3 u) (h2.far (by decide) h1 hk) (ho.far (by decide) h1 hk) rfl
end
end Go.Proofs.YtlpmjeiogdlifaaGreat
namespace Go.Proofs.YtlpmjeiogdlifaaGreat
open Go.RowKit
attribute [local go_sem low] mk_extract
attribute [local go_sem] After.cell After.frozen mk_extract_end ByteArray.mk_append_mk
open Go.Conc
end Go.Proofs.YtlpmjeiogdlifaaGreat
namespace Go.Proofs.YtlpmjeiogdlifaaGreat
open Go.RowKit
attribute [local go_sem low] mk_extract
attribute [local go_sem] After.cell After.frozen mk_extract_end ByteArray.mk_append_mk
namespace Sp
end Sp
end Go.Proofs.YtlpmjeiogdlifaaGreat
namespace Go.Proofs.YtlpmjeiogdlifaaGreat
open Go.RowKit
attribute [local go_sem low] mk_extract
attribute [local go_sem] After.cell After.frozen mk_extract_end ByteArray.mk_append_mk
open Go.Conc
theorem Sp.Sto.add_no (s : Sp.Sto) (p : Sp.Page) (h : Sp.isPage p = false) : s.add p = ((0, some 10), s) := if_pos h
theorem Sp.Sto.add_yes (s : Sp.Sto) (p : Sp.Page) (h : Sp.isPage p = true) : s.add p = (match s.numbers 1 with
    | ((id, none), s') => ((id, none), { s' with d := Sp.putD s'.d id p })
    | ((id, some e), s') => ((id, some e), s') : (Int × Option Int) × Sp.Sto) := if_neg (by rw [h]; simp)
def TwoM (t d k : Nat) : Prop := k = t ∨ k = d
end Go.Proofs.YtlpmjeiogdlifaaGreat
