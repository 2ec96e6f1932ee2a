/- Pages that may be lost: what package file's functions do. Pages that may be lost: a copy of a row of texts, a page of it, a new file. Pages that may be lost: a new file, a page that is written. Pages that may be lost: a page that is written. More words for a walk: a struct stored inside a row; an append at a step of a region that draws. isVals. The document's numbers and texts as bytes, its sums, its small words. The document's vals. Whether a number, a root, a key may be. slices.Equal at texts and numbers. Whether an item may be; whether items are alike. -/
import Derived.Test.YtmcpkhknjdiocaaGreatQB02
import Derived.MapKept
import Derived.RegionTactic
import Derived.BigRegion
import Derived.Maps.Own
import Derived.Laws.CopyRow
import Derived.Laws.AppendOwn
import Derived.Laws.AppendOwnNone
import Derived.Test.YtmcpkhknjdiocaaGreatProg
import Derived.ChangeAlike
set_option linter.unusedSimpArgs false
set_option linter.unusedVariables false
namespace Go.Proofs.YtmcpkhknjdiocaaGreat
open Go.RowKit
attribute [local go_sem low] mk_extract
attribute [local go_sem] After.cell After.frozen mk_extract_end ByteArray.mk_append_mk
def turnM (w : World) (b : Nat) (o : Obj) : World := { w with heap := w.heap.setIfInBounds b o }
abbrev MapT : TypeId := 94
abbrev FileT : TypeId := 96
/-- A map by integers, whatever it holds. -/
def MapOk (w : World) (m : Nat) : Prop := ∃ es clock, w.heap[m]? = some (.map es clock) ∧ ∀ x ∈ es.toList, MapKept.IsKey (.int .i64) x.key
theorem MapOk.lt {w : World} {m : Nat} (h : MapOk w m) : m < w.heap.size := by
  obtain ⟨es, clock, hb, _⟩ := h
  exact (Array.getElem?_eq_some_iff.1 hb).1
theorem MapOk.chg {S : Nat → Prop} {w w' : World} {m : Nat} (h : MapOk w m) (hk : Chg S w w') (hS : ¬ S m) : MapOk w' m := by
  have hl := h.lt
  obtain ⟨es, clock, hb, hks⟩ := h
  exact ⟨es, clock, (hk.block m hl hS).trans hb, hks⟩
theorem MapOk.not_blk {w : World} {m : Nat} (h : MapOk w m) {t : TypeId} {cs : Array Value} : ¬ Blk w m t cs := fun hb => by
  obtain ⟨es, clock, hm, _⟩ := h
  unfold Blk at hb
  rw [hm] at hb
  cases hb
theorem modify_keys {es : Array MapEntry} (h : ∀ x ∈ es.toList, MapKept.IsKey (.int .i64) x.key) (i : Nat) (f : MapEntry → MapEntry) (hf : ∀ e, MapKept.IsKey (.int .i64) e.key → MapKept.IsKey (.int .i64) (f e).key) : ∀ x ∈ (es.modify i f).toList, MapKept.IsKey (.int .i64) x.key := by
  intro x hx
  rw [Array.toList_modify] at hx
  obtain ⟨j, hj, rfl⟩ := List.getElem_of_mem hx
  rw [List.getElem_modify]
  have hj' : j < es.toList.length := by rwa [List.length_modify] at hj
  split
  · exact hf _ (h _ (List.getElem_mem hj'))
  · exact h _ (List.getElem_mem hj')
theorem push_keys {es : Array MapEntry} (h : ∀ x ∈ es.toList, MapKept.IsKey (.int .i64) x.key) (e : MapEntry) (he : MapKept.IsKey (.int .i64) e.key) : ∀ x ∈ (es.push e).toList, MapKept.IsKey (.int .i64) x.key := by
  intro x hx
  rw [Array.toList_push, List.mem_append, List.mem_singleton] at hx
  rcases hx with hx | rfl
  · exact h x hx
  · exact he
theorem setB_heap {W : World} {m : Nat} {o o' : Obj} (h : W.heap[m]? = some o) : (turnM W m o').heap[m]? = some o' := (MapKept.heap_set h).1
theorem chg_setB (W : World) (m : Nat) (o : Obj) : Chg (OneM m) W (turnM W m o) := by
  refine ⟨rfl, rfl, rfl, by simp [turnM], fun k hk hs => ?_⟩
  unfold OneM at hs
  simp only [turnM]
  rw [Array.getElem?_setIfInBounds_ne (fun e => hs e.symm)]
theorem zeroBool (W : World) : (zeroValue 4).run Tryz.prog W = .ok (.bool false) W := by kernel_rfl
/-- A store into such a map, in its two steps. -/
theorem MapOk.entry {w : World} {m : Nat} (h : MapOk w m) (i : Int) : ∃ v0 st es1 c1 es2, (∀ x ∈ es2.toList, MapKept.IsKey (.int .i64) x.key) ∧
    (∀ W, W.heap[m]? = w.heap[m]? → (Instr.mapEntry MapT (.map (some m)) (.int .i64 i)).run Tryz.prog W = .ok (.tuple #[v0, .int .i64 st]) (turnM W m (.map es1 c1))) ∧
    (∀ W, W.heap[m]? = some (.map es1 c1) → (Instr.entryStore MapT (.map (some m)) (.int .i64 st) (.bool true)).run Tryz.prog W = .ok () (turnM W m (.map es2 c1))) := by
  obtain ⟨es, clock, hb, hks⟩ := h
  have hk : MapKept.IsKey (.int .i64) (.int .i64 i) := rfl
  have hd := Tryz.underlying3
  have ht := Tryz.underlying94
  have store : ∀ (es1 : Array MapEntry) (c1 st : Nat), (∀ x ∈ es1.toList, MapKept.IsKey (.int .i64) x.key) → (∃ e ∈ es1, e.born = st) → ∃ es2 : Array MapEntry, (∀ x ∈ es2.toList, MapKept.IsKey (.int .i64) x.key) ∧
      (∀ W : World, W.heap[m]? = some (.map es1 c1) → (Instr.entryStore MapT (.map (some m)) (.int .i64 st) (.bool true)).run Tryz.prog W = .ok () (turnM W m (.map es2 c1))) := by
    intro es1 c1 st hk1 ⟨e0, he0, hst⟩
    cases hf : es1.findIdx? (fun e => ((e.born : Nat) : Int) == ((st : Nat) : Int)) with
    | none =>
      rw [Array.findIdx?_eq_none_iff] at hf
      have := hf e0 he0
      rw [hst] at this
      simp at this
    | some j =>
      refine ⟨es1.modify j fun e => { e with val := .bool true }, modify_keys hk1 _ _ (fun e h => h), fun W hW => ?_⟩
      simp [Instr.entryStore, MapKept.run_getObj_map hW, asInt, asIntOf, hf, MapKept.run_setObj_map _ hW, Result.andThen, turnM]
  rcases MapKept.findNow_spec hk es.toList 0 hks with ⟨h1, _⟩ | ⟨j, e, h1, h2, h3⟩
  · obtain ⟨es2, hk2, hs2⟩ := store (es.push ⟨.int .i64 i, .bool false, clock⟩) (clock + 1) clock (push_keys hks _ rfl) ⟨_, Array.mem_push_self, rfl⟩
    refine ⟨.bool false, clock, _, _, es2, hk2, fun W hW => ?_, hs2⟩
    have hbW := hW.trans hb
    simp [Instr.mapEntry, run_underlying ht, MapKept.run_getObj_map hbW, MapKept.run_checkKey hd hk, MapKept.run_findKey hd h1, zeroBool, MapKept.run_setObj_map _ hbW, Result.andThen, turnM, goInt]
  · have hj : es[j]? = some e := by simpa using h2
    have hej : (es.modify j fun e => { e with key := .int .i64 i })[j]? = some { e with key := .int .i64 i } := by
      rw [Array.getElem?_modify]
      simp [hj]
    obtain ⟨es2, hk2, hs2⟩ := store (es.modify j fun e => { e with key := .int .i64 i }) clock e.born (modify_keys hks _ _ (fun _ _ => rfl)) ⟨_, Array.mem_of_getElem? hej, rfl⟩
    refine ⟨e.val, e.born, _, _, es2, hk2, fun W hW => ?_, hs2⟩
    have hbW := hW.trans hb
    simp [Instr.mapEntry, run_underlying ht, MapKept.run_getObj_map hbW, MapKept.run_checkKey hd hk, MapKept.run_findKey hd h1, hj, h3, MapKept.run_keyThatStays hk, MapKept.run_setObj_map _ hbW, Result.andThen, turnM, goInt]
/-- A file in memory: its pages as they are; what else it holds is whatever it is. -/
structure FileAt (w : World) (f : Nat) (v : Value) (m : Nat) (V : List Txt) : Prop where
  bf : ∃ sv, Blk w f FileT #[v, sv, .map (some m)]
  own : w.ownsRow 0 StrT 1 v V.length (V.map tv)
  map : MapOk w m
  sz : ∀ s ∈ V, s.length ≤ 4611686018427387904
theorem FileAt.chg {S : Nat → Prop} {w w' : World} {f m : Nat} {v : Value} {V : List Txt} (h : FileAt w f v m V) (hk : Chg S w w') (hf : ¬ S f) (hm : ¬ S m) (hv : ∀ k, v.ownBlock = some k → ¬ S k) : FileAt w' f v m V := by
  obtain ⟨sv, hb⟩ := h.bf
  exact ⟨⟨sv, hb.chg hk hf⟩, own_chg2 h.own hk hv, h.map.chg hk hm, h.sz⟩
theorem own_lt {w : World} {base : Nat} {e : TypeId} {size n : Nat} {v : Value} {xs : List Value} (h : w.ownsRow base e size v n xs) : ∀ k, v.ownBlock = some k → k < w.heap.size := fun k hk => by
  rcases h.2 with ⟨rfl, _⟩ | ⟨g, cap, cur, rfl, _, hh, _⟩
  · simp [Value.ownBlock] at hk
  · have : g = k := by simpa [Value.ownBlock] using hk
    subst this
    exact (Array.getElem?_eq_some_iff.1 hh).1
theorem FileAt.go {w w' : World} {f m : Nat} {v : Value} {V : List Txt} (h : FileAt w f v m V) (hb : Below w.heap.size w w') : FileAt w' f v m V := by
  obtain ⟨sv, hf⟩ := h.bf
  exact h.chg (S := fun k => w.heap.size ≤ k) ⟨hb.os, hb.tape, hb.output, hb.size, fun i hi _ => hb.block i hi⟩ (by have := hf.lt; omega) (by have := h.map.lt; omega) (fun k hk => by have := own_lt h.own k hk; omega)
end Go.Proofs.YtmcpkhknjdiocaaGreat
namespace Go.Proofs.YtmcpkhknjdiocaaGreat
open Go.RowKit
attribute [local go_sem low] mk_extract
attribute [local go_sem] After.cell After.frozen mk_extract_end ByteArray.mk_append_mk
theorem run_eql_slice_nl (b off n c : Nat) (W : World) : (binOp .eql 26 (.slice (some ⟨b, off, none⟩) n c) (.slice none 0 0)).run Tryz.prog W = .ok (.bool false) W := by
  unfold binOp
  simp [run_equal_slice_nil W 26 9 _ n c Tryz.underlying26]
set_option maxRecDepth 100000 in
set_option maxHeartbeats 1600000 in
theorem clone_any (l : List Txt) (b off c : Nat) {M : Nat → Prop} (w : World) (hl : Txts w M (some ⟨b, off, none⟩) l) (hn : l.length ≤ 1000) :
    Calls Tryz.prog 41 #[.slice (some ⟨b, off, none⟩) l.length c] w fun e w' => ∃ g cap, e = .returned (.slice (some ⟨g, 0, none⟩) l.length cap) ∧ w'.ownsRow w.heap.size StrT 1 (.slice (some ⟨g, 0, none⟩) l.length cap) l.length (l.map tv) ∧ Below w.heap.size w w' := by
  obtain ⟨i0, hi0, hz0, hz1, hz2⟩ := info_parts info_str
  have HL := Lib.hid hl
  have HN := Lib.hid hn
  clear hl hn
  have hnl := fun W => run_eql_slice_nl (b := b) (off := off) l.length c W
  go_enter Tryz.func41, Tryz.ntmps41
  go_wp2_with (at_builtin; refine wpList_append_own _ rfl _ _ 26 rfl w.heap.size StrT i0 _ 1 16 Tryz.underlying26 hi0 hz0 hz1 hz2 rfl (by decide) _ 0 [] rfl ?c0 ⟨b, off, none⟩ l.length c (l.map tv) rfl ?c6 ?c1 ?c2 ?c3 ?c4 ?c5 ?_)
  case c0 => exact ⟨rfl, .inr ⟨w.heap.size, 0, #[], rfl, Nat.le_refl _, heap_alloc_new _ _, Nat.le_refl _, by simp [maxLen], rfl, rfl⟩⟩
  case c6 => simp
  case c1 =>
    intro j u hu
    have hj : j < l.length := by
      have := (List.getElem?_eq_some_iff.1 hu).1
      rwa [List.length_map] at this
    obtain ⟨b', off', e, hb, hc⟩ := HL.out.at_ hj
    obtain ⟨rfl, rfl⟩ : b = b' ∧ off = off' := by simpa using e
    have h := hc j hj
    have hal : Below w.heap.size w (w.alloc (.cells #[] StrT)) := (Below.refl _ _).alloc (Nat.le_refl _) _
    rw [Go.WideShapes.add_plain]
    refine (hal.cell (p := ⟨b, off + j, none⟩) hb).trans (h.trans ?_)
    rw [List.getElem?_map, List.getElem?_eq_getElem hj] at hu
    simp only [Option.map_some, Option.some.injEq] at hu
    rw [← hu]
    simp [List.getD, hj, tv]
  case c2 =>
    intro u hu
    obtain ⟨s, _, rfl⟩ := List.mem_map.1 hu
    rfl
  case c3 => have := HN.out; simp only [maxLen]; omega
  case c4 => have := HN.out; omega
  case c5 => simp
  intro v' w' hown' hgr' hnil
  obtain ⟨g, cap, rfl⟩ : ∃ g cap, v' = .slice (some ⟨g, 0, none⟩) l.length cap := by
    rcases hown'.2 with ⟨h, _⟩ | ⟨g, cap, cur, h, _⟩
    · exact absurd h (fun e => (hnil e).elim)
    · exact ⟨g, cap, h⟩
  clear hnil
  have hb2 : Below w.heap.size w w' := by
    have h1 : Below w.heap.size w (w.alloc (.cells #[] StrT)) := (Below.refl _ _).alloc (Nat.le_refl _) _
    exact h1.trans (Chg.below (S := fun k => some w.heap.size = some k) (Chg.of_grown hgr' (fun k hk => .inl (by simpa [Value.ownBlock] using hk))) (by simp) (fun k hk e => by simp at e; omega))
  have HB := Lib.hid hb2
  have HO := Lib.hid hown'
  clear hown' hgr' hb2
  go_wp2_with fail
  go_ret
  exact ⟨g, cap, rfl, HO.out, HB.out⟩
namespace Sp
/-- A page of some; none: no bytes. -/
def atV (V : List Txt) (i : Int) : Txt := if i < 0 then [] else V.getD i.toNat []
end Sp
set_option maxRecDepth 100000 in
set_option maxHeartbeats 1600000 in
theorem at_any (V : List Txt) (A : Option Addr) (c : Nat) {M : Nat → Prop} (i : Int) (w : World) (hV : Txts w M A V) :
    Calls Tryz.prog 143 #[.slice A V.length c, .int .i64 i] w fun e w' => e = .returned (.string ⟨(Sp.atV V i).toArray⟩) ∧ w = w' := by
  by_cases h0 : i < 0
  · have HV := Lib.hid (show Sp.atV V i = [] by unfold Sp.atV; rw [if_pos h0])
    rw [HV.out]
    clear hV
    go_enter Tryz.func143, Tryz.ntmps143
    go_wp2_with fail
    go_ret
    exact ⟨rfl, rfl⟩
  · obtain ⟨j, rfl⟩ := Int.eq_ofNat_of_zero_le (by omega : 0 ≤ i)
    by_cases h1 : j < V.length
    · obtain ⟨b, off, rfl, hb, hc⟩ := hV.at_ h1
      have hcj := hc j h1
      have HV := Lib.hid (show Sp.atV V j = V.getD j [] by unfold Sp.atV; rw [if_neg h0]; rfl)
      rw [HV.out]
      clear hV hc
      generalize V.getD j [] = s at *
      go_enter Tryz.func143, Tryz.ntmps143
      go_wp2_with fail
      go_ret
      exact ⟨rfl, rfl⟩
    · have HV := Lib.hid (show Sp.atV V j = [] by unfold Sp.atV; rw [if_neg h0]; exact (List.getD_eq_getElem?_getD ..).trans (by rw [List.getElem?_eq_none (by simpa using h1)]; rfl))
      rw [HV.out]
      clear hV
      have h2 : (V.length : Int) ≤ (j : Int) := by omega
      go_enter Tryz.func143, Tryz.ntmps143
      go_wp2_with fail
      go_ret
      exact ⟨rfl, rfl⟩
theorem FileAt.txts {w : World} {f m n c : Nat} {A : Option Addr} {V : List Txt} (h : FileAt w f (.slice A n c) m V) (hn : V.length ≤ 4611686018427387904) : n = V.length ∧ Txts w NoM A V := by
  obtain ⟨A', c', e⟩ := own_form h.own
  simp only [Value.slice.injEq] at e
  obtain ⟨rfl, rfl, rfl⟩ := e
  refine ⟨rfl, ?_⟩
  have := TRow.of_own h.own (by rw [List.length_map]; exact hn)
  exact this.row (fun _ _ h => h)
set_option maxRecDepth 100000 in
set_option maxHeartbeats 1600000 in
theorem fileRead_any (f m : Nat) (v : Value) (V : List Txt) (i : Int) (w : World) (hf : FileAt w f v m V) (hn : V.length ≤ 4611686018427387904) :
    Calls Tryz.prog 124 #[.pointer (some ⟨f, 0, none⟩), .int .i64 i] w fun e w' => e = .returned (.string ⟨(Sp.atV V i).toArray⟩) ∧ w = w' := by
  obtain ⟨A, c, rfl⟩ := own_form hf.own
  have HT := Lib.hid (hf.txts hn).2
  obtain ⟨sv, hb⟩ := hf.bf
  have c0 : w.cell? ⟨f, 0, none⟩ = some (.slice A V.length c) := hb.cell 0
  clear hf hb
  go_enter Tryz.func124, Tryz.ntmps124
  go_wp2_with (go_at_call 143; refine (at_any V A c i _ HT.out).mono ?_; rintro e w2 ⟨rfl, rfl⟩)
  go_ret
  exact ⟨rfl, rfl⟩
end Go.Proofs.YtmcpkhknjdiocaaGreat
namespace Go.Proofs.YtmcpkhknjdiocaaGreat
open Go.RowKit
attribute [local go_sem low] mk_extract
attribute [local go_sem] After.cell After.frozen mk_extract_end ByteArray.mk_append_mk
theorem Txts.of_own {w : World} {base g cap : Nat} {l : List Txt} (h : w.ownsRow base StrT 1 (.slice (some ⟨g, 0, none⟩) l.length cap) l.length (l.map tv)) (hn : l.length ≤ 4611686018427387904) : Txts w NoM (some ⟨g, 0, none⟩) l :=
  (TRow.of_own h (by rw [List.length_map]; exact hn)).row (fun _ _ h => h)
theorem own_less {w : World} {base base' : Nat} {e : TypeId} {size n : Nat} {v : Value} {xs : List Value} (h : w.ownsRow base e size v n xs) (hb : base' ≤ base) : w.ownsRow base' e size v n xs := by
  refine ⟨h.1, ?_⟩
  rcases h.2 with h | ⟨g, cap, cur, hv, hg, r⟩
  · exact .inl h
  · exact .inr ⟨g, cap, cur, hv, Nat.le_trans hb hg, r⟩
set_option maxRecDepth 100000 in
set_option maxHeartbeats 1600000 in
theorem fileNew_any (l : List Txt) (b off c : Nat) {M : Nat → Prop} (w : World) (hl : Txts w M (some ⟨b, off, none⟩) l) (hn : l.length ≤ 400) (hc : l.length ≤ c) (hs : ∀ s ∈ l, s.length ≤ 4611686018427387904) :
    Calls Tryz.prog 12 #[.slice (some ⟨b, off, none⟩) l.length c] w fun e w' => ∃ f v m, e = .returned (.pointer (some ⟨f, 0, none⟩)) ∧ FileAt w' f v m l ∧ w.heap.size ≤ f ∧ w.heap.size ≤ m ∧ (∀ k, v.ownBlock = some k → w.heap.size ≤ k) ∧ Below w.heap.size w w' := by
  have HL := Lib.hid hl
  have HS := Lib.hid hs
  have h400 : (l.length : Int) ≤ 400 := by omega
  have hcc : (l.length : Int) ≤ (c : Int) := by omega
  have hmin : min (l.length : Int) 400 = (l.length : Int) := by omega
  have hmm := @run_makeMap Tryz.prog
  clear hl hs
  go_enter Tryz.func12, Tryz.ntmps12
  go_upto_region 2 with (go_at_call 41; refine (clone_any l b off c _ HL.out (by omega)).mono ?_; rintro e w1 ⟨g, cap, rfl, ho, hb1⟩; have HO := Lib.hid ho; have HB := Lib.hid hb1; clear ho hb1)
  go_wp2_with (go_at_call 41; refine (clone_any l g 0 cap _ (Txts.of_own HO.out (by omega)) (by omega)).mono ?_; rintro e w2 ⟨g2, cap2, rfl, ho2, hb2⟩; have HO2 := Lib.hid ho2; have HB2 := Lib.hid hb2; clear ho2 hb2)
  go_ret
  have hz1 := HB.out.size
  have hz2 := HB2.out.size
  refine ⟨w2.heap.size + 1, .slice (some ⟨g, 0, none⟩) l.length cap, w2.heap.size, rfl, ⟨⟨.slice (some ⟨g2, 0, none⟩) l.length cap2, ?_⟩, ?_, ⟨#[], 0, ?_, by simp⟩, HS.out⟩, by omega, by omega, fun k hk => ?_, ?_⟩
  · exact blk_second w2 _ _ _
  · have hal : Below w1.heap.size w1 ((w2.alloc (.map #[] 0)).alloc (.cells #[.slice (some ⟨g, 0, none⟩) l.length cap, .slice (some ⟨g2, 0, none⟩) l.length cap2, .map (some w2.heap.size)] FileT)) := (HB2.out.alloc hz2 _).alloc (by rw [World.size_alloc]; omega) _
    exact own_less (own_chg2 (S := NoM) HO.out (Chg.of_below hal) (fun _ _ h => h)) (Nat.zero_le _)
  · have := heap_alloc_new w2 (.map #[] 0)
    exact (((Below.refl _ _).alloc (Nat.le_refl _) _ : Below (w2.alloc (.map #[] 0)).heap.size (w2.alloc (.map #[] 0)) _).block _ (by rw [World.size_alloc]; omega)).trans this
  · have := own_lt HO.out k hk
    rcases HO.out.2 with ⟨h, _⟩ | ⟨g', cap', cur, h, hg, _⟩
    · cases h
    · simp only [Value.slice.injEq, Option.some.injEq, Addr.mk.injEq] at h
      simp only [Value.ownBlock, Option.some.injEq] at hk
      omega
  · exact ((HB.out.trans (HB2.out.mono hz1)).alloc (by omega) _).alloc (by rw [World.size_alloc]; omega) _
end Go.Proofs.YtmcpkhknjdiocaaGreat
namespace Go.Proofs.YtmcpkhknjdiocaaGreat
open Go.RowKit
attribute [local go_sem low] mk_extract
attribute [local go_sem] After.cell After.frozen mk_extract_end ByteArray.mk_append_mk
theorem own_at {w : World} {base n : Nat} {e : TypeId} {g cap : Nat} {xs : List Value} (h : w.ownsRow base e 1 (.slice (some ⟨g, 0, none⟩) n cap) n xs) {j : Nat} (hj : j < n) : w.cell? ⟨g, j, none⟩ = some (xs.getD j undef) ∧ w.frozen? ⟨g, j, none⟩ = false := by
  rcases h.2 with ⟨h', _⟩ | ⟨g', cap', cur, hv, _, hh, hnc, _, hcs, ht⟩
  · cases h'
  · simp only [Value.slice.injEq, Option.some.injEq, Addr.mk.injEq] at hv
    obtain ⟨⟨rfl, _⟩, _, rfl⟩ := hv
    have hb : Blk w g e cur := hh
    refine ⟨(hb.cell j).trans ?_, hb.frozen j⟩
    have hjc : j < cur.size := by omega
    have : xs[j]? = cur[j]? := by
      rw [← ht, List.getElem?_take, if_pos (by omega), Array.getElem?_toList]
    rw [List.getD_eq_getElem?_getD, this, Array.getElem?_eq_getElem hjc]
    rfl
theorem own_set {w : World} {base n : Nat} {e : TypeId} {g cap : Nat} {xs : List Value} (h : w.ownsRow base e 1 (.slice (some ⟨g, 0, none⟩) n cap) n xs) {j : Nat} (u : Value) : (w.setCell ⟨g, j, none⟩ u).ownsRow base e 1 (.slice (some ⟨g, 0, none⟩) n cap) n (xs.set j u) := by
  rcases h.2 with ⟨h', _⟩ | ⟨g', cap', cur, hv, hb, hh, hnc, hm, hcs, ht⟩
  · cases h'
  · simp only [Value.slice.injEq, Option.some.injEq, Addr.mk.injEq] at hv
    obtain ⟨⟨rfl, _⟩, _, rfl⟩ := hv
    have hb2 : Blk w g e cur := hh
    refine ⟨by rw [List.length_set]; exact h.1, .inr ⟨g, cap, cur.setIfInBounds j u, rfl, hb, hb2.set_ j u, hnc, hm, by rw [Array.size_setIfInBounds]; exact hcs, ?_⟩⟩
    rw [← ht, Array.toList_setIfInBounds, List.take_set]
set_option maxRecDepth 100000 in
set_option maxHeartbeats 1600000 in
theorem fileWrite_any (f m j : Nat) (v : Value) (V : List Txt) (s : Txt) (w : World) (hf : FileAt w f v m V) (hj : j < V.length) (hn : V.length ≤ 400) (hs : s.length ≤ 4611686018427387904) :
    Calls Tryz.prog 17 #[.pointer (some ⟨f, 0, none⟩), .int .i64 j, .string ⟨s.toArray⟩] w fun e w' => e = .returned .nilIface ∧ FileAt w' f v m (V.set j s) ∧ Chg (fun k => k = m ∨ v.ownBlock = some k) w w' := by
  obtain ⟨g, cap, rfl⟩ : ∃ g cap, v = .slice (some ⟨g, 0, none⟩) V.length cap := by
    rcases hf.own.2 with ⟨_, h⟩ | ⟨g, cap, cur, h, _⟩
    · omega
    · exact ⟨g, cap, h⟩
  obtain ⟨sv, hb⟩ := hf.bf
  have c0 : w.cell? ⟨f, 0, none⟩ = some (.slice (some ⟨g, 0, none⟩) V.length cap) := hb.cell 0
  have HSV := Lib.hid (show w.cell? ⟨f, 1, none⟩ = some sv from hb.cell 1)
  have c2 : w.cell? ⟨f, 2, none⟩ = some (.map (some m)) := hb.cell 2
  obtain ⟨hcj, hfj⟩ := own_at hf.own hj
  have hmg : m ≠ g := fun e => by
    subst e
    rcases hf.own.2 with ⟨h, _⟩ | ⟨g', cap', cur, h, _, hh, _⟩
    · cases h
    · simp only [Value.slice.injEq, Option.some.injEq, Addr.mk.injEq] at h
      obtain ⟨⟨rfl, _⟩, _⟩ := h
      exact hf.map.not_blk (t := StrT) (cs := cur) hh
  have hfg : f ≠ g := fun e => by
    subst e
    exact own_not hf.own (by decide) f rfl _ hb
  have hfm : f ≠ m := fun e => by
    subst e
    exact hf.map.not_blk hb
  obtain ⟨v0, st, es1, k1, es2, hk2, hE0, hS0⟩ := hf.map.entry (j : Int)
  have hW1 : (w.setCell ⟨g, j, none⟩ (.string ⟨s.toArray⟩)).heap[m]? = w.heap[m]? := (Chg.set1 w g j _).block m hf.map.lt (fun e => hmg e)
  obtain ⟨es, clock, hes, _⟩ := hf.map
  have hE := hE0 (w.setCell ⟨g, j, none⟩ (.string ⟨s.toArray⟩)).drew hW1
  have hS := hS0 (turnM (w.setCell ⟨g, j, none⟩ (.string ⟨s.toArray⟩)).drew m (.map es1 k1)) (setB_heap (hW1.trans hes))
  have hjl : (j : Int) < (V.length : Int) := by omega
  have h400 : (j : Int) < 400 := by omega
  have HF := Lib.hid hf
  have HK2 := Lib.hid hk2
  clear hf hb hE0 hS0 hk2
  go_enter Tryz.func17, Tryz.ntmps17
  go_upto_region 3 with fail
  go_loopw [14] (fun _ wr => wr = w) (fun _ _ => 0)
  case atStart => rfl
  case round =>
    subst hrel
    go_upto_region 6 with fail
    go_region
    go_wp2_with fail
    go_ret
    have h1 : Chg (OneM g) wr (wr.setCell ⟨g, j, none⟩ (.string ⟨s.toArray⟩)).drew := (Chg.set1 wr g j _).drew
    have h2 := chg_setB (wr.setCell ⟨g, j, none⟩ (.string ⟨s.toArray⟩)).drew m (.map es1 k1)
    have h3 := chg_setB (turnM (wr.setCell ⟨g, j, none⟩ (.string ⟨s.toArray⟩)).drew m (.map es1 k1)) m (.map es2 k1)
    have hgo : ∀ k, (Value.slice (some ⟨g, 0, none⟩) V.length cap).ownBlock = some k ↔ g = k := fun k => by simp [Value.ownBlock]
    have hkA : Chg (fun k => k = m ∨ (Value.slice (some ⟨g, 0, none⟩) V.length cap).ownBlock = some k) wr (turnM (turnM (wr.setCell ⟨g, j, none⟩ (.string ⟨s.toArray⟩)).drew m (.map es1 k1)) m (.map es2 k1)) :=
      ((h1.mono (fun k _ h => .inr ((hgo k).2 h.symm))).trans (h2.mono (fun k _ h => .inl h))).trans (h3.mono (fun k _ h => .inl h))
    refine ⟨rfl, ⟨⟨sv, ?_⟩, ?_, ⟨es2, k1, setB_heap (setB_heap (hW1.trans hes)), HK2.out⟩, fun x hx => ?_⟩, hkA⟩
    · obtain ⟨sv', hb⟩ := HF.out.bf
      have hsv : sv' = sv := by
        have := (hb.cell 1).symm.trans HSV.out
        simpa using this
      subst hsv
      exact hb.chg hkA (fun h => by
        rcases h with h | h
        · exact hfm h
        · exact hfg ((hgo f).1 h).symm)
    · have ho := own_set HF.out.own (j := j) (.string ⟨s.toArray⟩)
      have e : (V.map tv).set j (.string ⟨s.toArray⟩) = (V.set j s).map tv := by rw [List.map_set]; rfl
      rw [e] at ho
      rw [List.length_set]
      have h4 : Chg (OneM m) (wr.setCell ⟨g, j, none⟩ (.string ⟨s.toArray⟩)) (turnM (turnM (wr.setCell ⟨g, j, none⟩ (.string ⟨s.toArray⟩)).drew m (.map es1 k1)) m (.map es2 k1)) := ((Chg.refl _ _).drew.trans h2).trans h3
      exact own_chg2 ho h4 (fun k hk h => hmg (h.symm.trans ((hgo k).1 hk).symm))
    · rcases List.mem_or_eq_of_mem_set hx with h | rfl
      · exact HF.out.sz x h
      · exact hs
end Go.Proofs.YtmcpkhknjdiocaaGreat
namespace Go.Proofs.YtmcpkhknjdiocaaGreat
open Go.RowKit
attribute [local go_sem low] mk_extract
attribute [local go_sem] After.cell After.frozen mk_extract_end ByteArray.mk_append_mk
section
variable {P : Program}
theorem run_storeVar_at (w : World) (g off : Nat) (t ty : TypeId) (cur cells : Array Value) (hg : w.heap[g]? = some (.cells cur t (0, 0))) (hi : (P.info? ty).map (·.size) = some cells.size) (hl : off + cells.size ≤ cur.size) (h1 : cells.all (·.oneCell') = true) :
    (storeVar ty ⟨g, off, none⟩ (.agg cells)).run P w = .ok () (w.setRow g (cur.toList.take off ++ cells.toList ++ cur.toList.drop (off + cells.size)).toArray) := by
  have h := run_storeCells_at (P := P) g off t cells.toList 0 cur w hg (by simp; omega) (fun v hv => (Array.all_eq_true_iff_forall_mem.1 h1) v (by simpa using hv))
  cases hq : P.info? ty with
  | none => simp [hq] at hi
  | some i =>
    have hs : cells.size = i.size := by simp [hq] at hi; omega
    simp only [Nat.add_zero, Array.length_toList] at h
    simp [storeVar, sizeOf, typeInfo, hq, Value.cells, hs]
    simpa [hs] using h
theorem wpList_store_at {ops : Array Oper} {rest : List Oper} {o : Oper} {a : Act} {w : World} {Q : Exit → Act → World → Prop} (hgd : o.guard = none) (ty : TypeId) (x y : Operand) (ho : o.op = .store ty x y)
    (g off : Nat) (cells : Array Value) (hx : a.eval x = .pointer (some ⟨g, off, none⟩)) (hy : a.eval y = .agg cells)
    (t : TypeId) (cur : Array Value) (hg : w.heap[g]? = some (.cells cur t (0, 0))) (hi : (P.info? ty).map (·.size) = some cells.size)
    (hl : off + cells.size ≤ cur.size) (h1 : cells.all (·.oneCell') = true)
    (h : wpList P ops Q rest (a.put o.dst undef) (w.setRow g (cur.toList.take off ++ cells.toList ++ cur.toList.drop (off + cells.size)).toArray)) : wpList P ops Q (o :: rest) a w :=
  wpList_plain hgd fun _ hK => by
    unfold Oper.wp execOp
    simp only [ho, hx, hy, Instr.storeAt, Instr.sureAddr, Sem.run_bind, Sem.run_pure, Result.andThen_ok, run_storeVar_at w g off t ty cur cells hg hi hl h1]
    exact hK _ _ h
/-- An append at a step of a region that draws: whatever is appended, none too. -/
theorem step_append_own {ops : Array Oper} {o : Oper} {a : Act} {w : World} {K : Act → World → Prop} {Q : Exit → Act → World → Prop} {E : Prop} (hgd : o.guard = none) (s x : Operand) (t : TypeId)
    (ho : o.op = .call { callee := .builtin .append, args := #[s, x], argTypes := #[t, t] })
    (base : Nat) (e : TypeId) (i : TypeInfo) (z : Value) (size bytes : Nat) (ht : P.underlying t = some (.slice e)) (hi : P.info? e = some i) (hz : i.zero = some z)
    (hsize : i.size = size) (hby : i.bytes = bytes) (hzs : z.cells.size = size) (hsz : 0 < size)
    (v : Value) (n : Nat) (xs : List Value) (hs : a.eval s = v) (hown : w.ownsRow base e size v n xs)
    (ad : Addr) (m c : Nat) (news : List Value) (hx : a.eval x = .slice (some ad) m c) (hl : news.length = m * size) (hnews : ∀ j u, news[j]? = some u → w.cell? (ad.add j) = some u) (h1 : ∀ u ∈ news, u.oneCell' = true)
    (h63 : n + m ≤ maxLen) (hbytes : (n + m) * bytes ≤ 140737488355328) (hbase : base ≤ w.heap.size)
    (h : ∀ v' w', w'.ownsRow base e size v' (n + m) (xs ++ news) → w.grownBy w' v.ownBlock → (v' = .slice none 0 0 ↔ v = .slice none 0 0 ∧ m = 0) → K (a.put o.dst v') w') :
    if Region.wanted o (yielded ops a.tmps) = true then Oper.wp P o a w K Q else E := by
  have hw : Region.wanted o (yielded ops a.tmps) = true := by simp [Region.wanted, hgd]
  rw [if_pos hw]
  exact wp_append_own w s x t ho base e i z size bytes ht hi hz hsize hby hzs hsz v n xs hs hown ad m c news hx hl hnews h1 h63 hbytes hbase h
theorem step_append_none {ops : Array Oper} {o : Oper} {a : Act} {w : World} {K : Act → World → Prop} {Q : Exit → Act → World → Prop} {E : Prop} (hgd : o.guard = none) (s x : Operand) (t : TypeId)
    (ho : o.op = .call { callee := .builtin .append, args := #[s, x], argTypes := #[t, t] })
    (base : Nat) (e : TypeId) (i : TypeInfo) (size : Nat) (ht : P.underlying t = some (.slice e)) (hi : P.info? e = some i)
    (v : Value) (n : Nat) (xs : List Value) (hs : a.eval s = v) (hown : w.ownsRow base e size v n xs) (hx : a.eval x = .slice none 0 0)
    (h : K (a.put o.dst v) w) : if Region.wanted o (yielded ops a.tmps) = true then Oper.wp P o a w K Q else E := by
  have hw : Region.wanted o (yielded ops a.tmps) = true := by simp [Region.wanted, hgd]
  rw [if_pos hw]
  have hrun := run_append_owned_none (P := P) (w := w) base t o.type e i size ht hi v n xs hown
  unfold Oper.wp
  simp [execOp, ho, resolve, invoke, builtin, hs, hx, hrun, Result.andThen]
  exact h
end
end Go.Proofs.YtmcpkhknjdiocaaGreat
namespace Go.Proofs.YtmcpkhknjdiocaaGreat
open Go.RowKit
attribute [local go_sem low] mk_extract
attribute [local go_sem] After.cell After.frozen mk_extract_end ByteArray.mk_append_mk
set_option maxRecDepth 100000 in
set_option maxHeartbeats 400000 in
theorem isVals_any (l : List Txt) (A : Option Addr) (c : Nat) (least most : Int) {M : Nat → Prop} (w : World) (hr : Txts w M A l) :
    Calls Tryz.prog 132 #[.slice A l.length c, .int .i64 least, .int .i64 most] w fun e w' => e = .returned (.bool (Sp.isVals l least most)) ∧ Below w.heap.size w w' := by
  have hlen := hr.len
  have Hr := Lib.hid hr
  clear hr
  go_enter Tryz.func132, Tryz.ntmps132
  go_wp2
  go_loopw [11] (fun i wr => ∃ k : Nat, k ≤ l.length ∧ i = .int .i64 k ∧ Below w.heap.size w wr ∧ Hid (∀ j, j < k → Sp.valAt l j = true)) (fun i _ => l.length - (intOf i).toNat)
  case atStart => exact ⟨0, Nat.zero_le _, rfl, Below.refl _ _, fun j h => absurd h (by omega)⟩
  case round =>
    obtain ⟨k, hk, rfl, hb, hok⟩ := hrel
    by_cases hlt : k < l.length
    · obtain ⟨b, off, rfl, hbl, hc⟩ := Hr.out.at_ hlt
      have hc0 := (hb.cell (p := ⟨b, off + k, none⟩) hbl).trans (hc k hlt)
      have hc1 := fun (h : 0 < k) => (hb.cell (p := ⟨b, off + (k - 1), none⟩) hbl).trans (hc (k - 1) (by omega))
      clear hc
      have HV := Lib.hid (Sp.valAt_def l k)
      generalize l.getD k [] = x at *
      generalize l.getD (k - 1) [] = y at *
      go_wp2
      all_goals first
        | (go_ret
           go_light
           have hv : Sp.valAt l k = false := by have H := HV.out; clear hok Hr; rw [H]; grind [Sp.lt, List.length_pos_iff]
           exact ⟨by rw [Sp.isVals, Sp.allTo_false hlt hv]; rfl, hb⟩)
        | (go_light
           have hv : Sp.valAt l k = true := by have H := HV.out; clear hok Hr; rw [H]; grind [Sp.lt, List.length_pos_iff]
           refine ⟨⟨k + 1, by omega, by go_num, hb, fun j hj => ?_⟩, by simp [intOf]; omega⟩
           rcases Nat.lt_succ_iff_lt_or_eq.1 hj with h | rfl
           · exact hok.out j h
           · exact hv)
    · have hkl : k = l.length := by omega
      go_wp2
      all_goals
        go_ret
        refine ⟨ret_bool ?_, hb⟩
        go_light
        rw [Sp.isVals, Sp.allTo_true fun j hj => hok.out j (by omega)]
        grind
end Go.Proofs.YtmcpkhknjdiocaaGreat
namespace Go.Proofs.YtmcpkhknjdiocaaGreat
open Go.RowKit
attribute [local go_sem low] mk_extract
attribute [local go_sem] After.cell After.frozen mk_extract_end ByteArray.mk_append_mk
set_option maxRecDepth 100000 in
set_option maxHeartbeats 1600000 in
theorem dNum_any (n : Int) (h0 : 0 ≤ n) (h1 : n < 18446744073709551616) (w : World) :
    Calls Tryz.prog 68 #[.int .u64 n] w fun e w' => e = .returned (.string ⟨(Sp.le8 n).toArray⟩) ∧ Below w.heap.size w w' := by
  have hmk : ∀ w, (Instr.makeSlice 60 (.int .i64 8) (.int .i64 8)).run Tryz.prog w = .ok (.slice (some ⟨w.heap.size, 0, none⟩) 8 8) (w.alloc (.cells #[.int .u8 0, .int .u8 0, .int .u8 0, .int .u8 0, .int .u8 0, .int .u8 0, .int .u8 0, .int .u8 0] 5)) := fun _ => by kernel_rfl
  have hcv := conv8
  go_enter Tryz.func68, Tryz.ntmps68
  go_wp2
  go_rounds 9
  go_ret
  refine ⟨?_, (Below.refl _ _).alloc (Nat.le_refl _) _⟩
  refine congrArg (fun s => Ending.returned (.string s)) ?_
  have h7 : n / 256 / 256 / 256 / 256 / 256 / 256 / 256 % 256 = n / 256 / 256 / 256 / 256 / 256 / 256 / 256 := by omega
  have e2 : n / 65536 = n / 256 / 256 := by omega
  have e3 : n / 16777216 = n / 256 / 256 / 256 := by omega
  have e4 : n / 4294967296 = n / 256 / 256 / 256 / 256 := by omega
  have e5 : n / 1099511627776 = n / 256 / 256 / 256 / 256 / 256 := by omega
  have e6 : n / 281474976710656 = n / 256 / 256 / 256 / 256 / 256 / 256 := by omega
  have e7 : n / 72057594037927936 = n / 256 / 256 / 256 / 256 / 256 / 256 / 256 := by omega
  rw [e2, e3, e4, e5, e6, e7]
  simp [Sp.le8, Sp.leN, h7]
set_option maxRecDepth 100000 in
set_option maxHeartbeats 400000 in
theorem dnum_any (n : Int) (h0 : 0 ≤ n) (h1 : n < 4611686018427387904) (w : World) :
    Calls Tryz.prog 64 #[.int .i64 n] w fun e w' => e = .returned (.string ⟨(Sp.le8 n).toArray⟩) ∧ Below w.heap.size w w' := by
  go_enter Tryz.func64, Tryz.ntmps64
  go_wp2_with (go_at_call 68; refine (dNum_any _ (by omega) (by omega) _).mono ?_; rintro e w' ⟨rfl, hb⟩)
  go_ret
  exact ⟨rfl, hb⟩
theorem conv2d (w : World) (x0 x1 : Int) : (convert 60 9 (.slice (some ⟨w.heap.size, 0, none⟩) 2 2)).run Tryz.prog ((w.alloc (.cells #[.int .u8 x0, .int .u8 x1] 5)).drew) =
    .ok (.string ⟨[UInt8.ofNat x0.toNat, UInt8.ofNat x1.toNat].toArray⟩) ((w.alloc (.cells #[.int .u8 x0, .int .u8 x1] 5)).drew) := conv2 w.drew x0 x1
set_option maxRecDepth 100000 in
set_option maxHeartbeats 400000 in
theorem dText_any (s : Txt) (w : World) :
    Calls Tryz.prog 66 #[.string ⟨s.toArray⟩] w fun e w' => e = .returned (.string ⟨(Sp.text s).toArray⟩) ∧ Below w.heap.size w w' := by
  have hcv := conv2d
  go_enter Tryz.func66, Tryz.ntmps66
  go_wp2
  all_goals go_region
  all_goals
    go_wp2
    go_ret
    refine ⟨?_, ((Below.refl _ _).alloc (Nat.le_refl _) _).drew⟩
    refine congrArg (fun s => Ending.returned (.string s)) ?_
    simp only [Sp.text, Sp.cutText]
    first
      | (rw [List.take_of_length_le (by omega)]; rw [Sp.leN2 _ (by omega)]; simp; done)
      | (rw [List.take_of_length_le (by omega)]; rw [Sp.leN2 _ (by omega)]; rfl)
      | (have hl : (s.take 65535).length = 65535 := by simp; omega
         rw [hl]; rfl)
set_option maxRecDepth 100000 in
set_option maxHeartbeats 400000 in
theorem dSum_any (s : Txt) (w : World) (hs : s.length ≤ 4611686018427387904) :
    Calls Tryz.prog 70 #[.string ⟨s.toArray⟩] w fun e w' => e = .returned (.int .u64 (Sp.sum s)) ∧ w = w' := by
  go_enter Tryz.func70, Tryz.ntmps70
  go_wp2
  go_loop [3, 4] (fun n i => ∃ k : Nat, k ≤ s.length ∧ i = .int .i64 k ∧ n = .int .u64 (Sp.sum (s.take k))) (fun _ i => s.length - (intOf i).toNat)
  case atStart => exact ⟨0, Nat.zero_le _, rfl, rfl⟩
  case round =>
    obtain ⟨k, hk, rfl, rfl⟩ := hrel
    by_cases hlt : k < s.length
    · have hm := Sp.sum_range (s.take k)
      have HS := Lib.hid (Sp.sum_succ s k hlt)
      generalize Sp.sum (s.take k) = m at *
      go_wp2
      refine ⟨⟨k + 1, by omega, by go_num, ?_⟩, by simp [intOf]; omega⟩
      rw [HS.out]
      rfl
    · have hkl : k = s.length := by omega
      go_wp2
      go_ret
      exact ⟨rfl, rfl⟩
set_option maxRecDepth 100000 in
set_option maxHeartbeats 400000 in
theorem dShort_any (s : Txt) (w : World) :
    Calls Tryz.prog 81 #[.string ⟨s.toArray⟩] w fun e w' => e = .returned (.bool (Sp.short s)) ∧ Below w.heap.size w w' := by
  go_enter Tryz.func81, Tryz.ntmps81
  go_wp2
  all_goals
    go_ret
    go_light
    exact ⟨ret_bool (by grind [Sp.short, List.length_pos_iff]), Below.refl _ _⟩
set_option maxRecDepth 100000 in
set_option maxHeartbeats 400000 in
theorem dpage_any (n : Int) (w : World) :
    Calls Tryz.prog 93 #[.int .i64 n] w fun e w' => e = .returned (.bool (Sp.isID n)) ∧ Below w.heap.size w w' := by
  go_enter Tryz.func93, Tryz.ntmps93
  go_wp2
  all_goals
    go_ret
    go_light
    exact ⟨ret_bool (by grind [Sp.isID]), Below.refl _ _⟩
set_option maxRecDepth 100000 in
set_option maxHeartbeats 400000 in
theorem droot_any (r : Sp.Root) (w : World) :
    Calls Tryz.prog 96 #[.agg (rootV r).toArray] w fun e w' => e = .returned (.bool (Sp.isRoot r)) ∧ Below w.heap.size w w' := by
  obtain ⟨p, n, f⟩ := r
  simp only [rootV]
  go_enter Tryz.func96, Tryz.ntmps96
  go_wp2_with (go_at_call 93; refine (dpage_any _ _).mono ?_; rintro e w1 ⟨rfl, hb⟩; obtain ⟨hc, hf⟩ := bcell hb)
  all_goals
    go_ret
    go_light
    first
      | exact ⟨ret_bool (by grind [Sp.isRoot, Sp.noneOr]), ((Below.refl _ _).alloc (Nat.le_refl _) _).trans (hb.mono (by simp))⟩
      | exact ⟨ret_bool (by grind [Sp.isRoot, Sp.noneOr]), (Below.refl _ _).alloc (Nat.le_refl _) _⟩
set_option maxRecDepth 100000 in
set_option maxHeartbeats 400000 in
theorem dPlace_any (n : Int) (h0 : 0 ≤ n) (h1 : n < 18446744073709551616) (w : World) : Calls Tryz.prog 18 #[.int .u64 n] w fun e w' => e = .returned (.int .i64 (n % 2)) ∧ w = w' := by
  have H1 := Lib.hid h1
  clear h1
  go_enter Tryz.func18, Tryz.ntmps18
  go_wp2
  go_ret
  refine ⟨ret_int ?_, rfl⟩
  have := H1.out
  first | rfl | (simp [IntKind.wrap_u64, IntKind.wrap_i64, Int.tmod_eq_emod_of_nonneg h0]; omega) | omega
end Go.Proofs.YtmcpkhknjdiocaaGreat
namespace Go.Proofs.YtmcpkhknjdiocaaGreat
open Go.RowKit
attribute [local go_sem low] mk_extract
attribute [local go_sem] After.cell After.frozen mk_extract_end ByteArray.mk_append_mk
set_option maxRecDepth 100000 in
set_option maxHeartbeats 1600000 in
theorem dvals_any (l : List Txt) (A : Option Addr) (c : Nat) (least most : Int) {M : Nat → Prop} (w : World) (hr : Txts w M A l) :
    Calls Tryz.prog 94 #[.slice A l.length c, .int .i64 least, .int .i64 most] w fun e w' => e = .returned (.bool (Sp.isVals l least most)) ∧ Below w.heap.size w w' := by
  have hlen := hr.len
  have Hr := Lib.hid hr
  clear hr
  go_enter Tryz.func94, Tryz.ntmps94
  go_wp2
  go_loopw [7] (fun i wr => ∃ k : Nat, k ≤ l.length ∧ i = .int .i64 k ∧ Below w.heap.size w wr ∧ Hid (∀ j, j < k → Sp.valAt l j = true)) (fun i _ => l.length - (intOf i).toNat)
  case atStart => exact ⟨0, Nat.zero_le _, rfl, Below.refl _ _, fun j h => absurd h (by omega)⟩
  case round =>
    obtain ⟨k, hk, rfl, hb, hok⟩ := hrel
    by_cases hlt : k < l.length
    · obtain ⟨b, off, rfl, hbl, hc⟩ := Hr.out.at_ hlt
      have hc0 := (hb.cell (p := ⟨b, off + k, none⟩) hbl).trans (hc k hlt)
      have hc1 := fun (h : 0 < k) => (hb.cell (p := ⟨b, off + (k - 1), none⟩) hbl).trans (hc (k - 1) (by omega))
      have hbw : b < wr.heap.size := by have := hb.size; omega
      clear hc
      have HV := Lib.hid (Sp.valAt_def l k)
      generalize l.getD k [] = x at *
      generalize l.getD (k - 1) [] = y at *
      have hno : ∀ w2, Below wr.heap.size wr w2 → Sp.valAt l k = false → Ending.returned (.bool false) = .returned (.bool (Sp.isVals l least most)) ∧ Below w.heap.size w w2 := fun w2 h2 hv => ⟨by rw [Sp.isVals, Sp.allTo_false hlt hv]; rfl, hb.trans (h2.mono hb.size)⟩
      have hyes : Sp.valAt l k = true → ∀ j, j < k + 1 → Sp.valAt l j = true := fun hv j hj => by
        rcases Nat.lt_succ_iff_lt_or_eq.1 hj with h | rfl
        · exact hok.out j h
        · exact hv
      have HNO := Lib.hid hno
      have HYES := Lib.hid hyes
      clear hno hyes hok
      by_cases h1 : x.length < 1
      · have hd1 : decide ((x.length : Int) < 1) = true := decide_eq_true (by omega)
        go_wp2
        refine wp_region_after (by kernel_rfl) (by kernel_rfl) (wr.heap.size) ?_
        repeat (go_big_quiet_step (fail))
        refine wpQuiet_nil ?_
        intro w2 hb2
        go_wp2
        go_ret
        exact HNO.out _ hb2 (by rw [HV.out, decide_eq_false (by omega : ¬ 1 ≤ x.length)]; rfl)
      have hd1 : decide ((x.length : Int) < 1) = false := decide_eq_false (by omega)
      by_cases h2 : 12 < x.length
      · have hd2 : decide ((x.length : Int) > 12) = true := decide_eq_true (by omega)
        go_wp2
        refine wp_region_after (by kernel_rfl) (by kernel_rfl) (wr.heap.size) ?_
        repeat (go_big_quiet_step (fail))
        refine wpQuiet_nil ?_
        intro w2 hb2
        go_wp2
        go_ret
        exact HNO.out _ hb2 (by rw [HV.out, decide_eq_false (by omega : ¬ x.length ≤ 12), Bool.and_false, Bool.false_and])
      have hd2 : decide ((x.length : Int) > 12) = false := decide_eq_false (by omega)
      by_cases h3 : 0 < k
      · have hc1 := hc1 h3
        rcases hl : Op.bytesLess y x with _ | _
        · go_wp2
          refine wp_region_after (by kernel_rfl) (by kernel_rfl) (wr.heap.size) ?_
          repeat (go_big_quiet_step (fail))
          refine wpQuiet_nil ?_
          intro w2 hb2
          go_wp2
          go_ret
          exact HNO.out _ hb2 (by rw [HV.out, decide_eq_false (by omega : ¬ k = 0), Sp.lt, hl]; simp)
        · go_wp2
          refine wp_region_after (by kernel_rfl) (by kernel_rfl) (wr.heap.size) ?_
          repeat (go_big_quiet_step (fail))
          refine wpQuiet_nil ?_
          intro w2 hb2
          go_wp2
          refine ⟨⟨k + 1, by omega, by go_num, hb.trans (hb2.mono hb.size), HYES.out ?_⟩, by simp [intOf]; omega⟩
          rw [HV.out, Sp.lt, hl, decide_eq_true (by omega : 1 ≤ x.length), decide_eq_true (by omega : x.length ≤ 12)]
          simp
      · have h30 : k = 0 := by omega
        subst h30
        rw [Nat.add_zero] at hc0
        go_wp2
        refine wp_region_after (by kernel_rfl) (by kernel_rfl) (wr.heap.size) ?_
        repeat (go_big_quiet_step (fail))
        refine wpQuiet_nil ?_
        intro w2 hb2
        go_wp2
        refine ⟨⟨1, by omega, by go_num, hb.trans (hb2.mono hb.size), HYES.out ?_⟩, by simp [intOf]; omega⟩
        rw [HV.out, decide_eq_true (by omega : 1 ≤ x.length), decide_eq_true (by omega : x.length ≤ 12)]
        simp
    · have hkl : k = l.length := by omega
      go_wp2
      all_goals
        go_ret
        refine ⟨ret_bool ?_, hb⟩
        go_light
        rw [Sp.isVals, Sp.allTo_true fun j hj => hok.out j (by omega)]
        grind
end Go.Proofs.YtmcpkhknjdiocaaGreat
namespace Go.Proofs.YtmcpkhknjdiocaaGreat
open Go.RowKit
attribute [local go_sem low] mk_extract
attribute [local go_sem] After.cell After.frozen mk_extract_end ByteArray.mk_append_mk
set_option maxRecDepth 100000 in
set_option maxHeartbeats 400000 in
theorem num_any (n : Int) (h0 : 0 ≤ n) (h1 : n < 4611686018427387904) (w : World) :
    Calls Tryz.prog 172 #[.int .i64 n] w fun e w' => e = .returned (.string ⟨(Sp.le8 n).toArray⟩) ∧ Below w.heap.size w w' := by
  go_enter Tryz.func172, Tryz.ntmps172
  go_wp2_with (go_at_call 174; refine (packNum_any _ (by omega) (by omega) _).mono ?_; rintro e w' ⟨rfl, hb⟩)
  go_ret
  exact ⟨rfl, hb⟩
set_option maxRecDepth 100000 in
set_option maxHeartbeats 400000 in
theorem isID_any (n : Int) (w : World) :
    Calls Tryz.prog 152 #[.int .i64 n] w fun e w' => e = .returned (.bool (Sp.isID n)) ∧ Below w.heap.size w w' := by
  go_enter Tryz.func152, Tryz.ntmps152
  go_wp2
  all_goals
    go_ret
    go_light
    exact ⟨ret_bool (by grind [Sp.isID]), Below.refl _ _⟩
set_option maxRecDepth 100000 in
set_option maxHeartbeats 400000 in
theorem noneOr_any (n : Int) (w : World) :
    Calls Tryz.prog 135 #[.int .i64 n] w fun e w' => e = .returned (.bool (Sp.noneOr n)) ∧ Below w.heap.size w w' := by
  go_enter Tryz.func135, Tryz.ntmps135
  go_wp2_with (go_at_call 152; refine (isID_any _ _).mono ?_; rintro e w' ⟨rfl, hb⟩)
  all_goals
    go_ret
    go_light
    exact ⟨ret_bool (by grind [Sp.noneOr]), by first | assumption | exact Below.refl _ _⟩
set_option maxRecDepth 100000 in
set_option maxHeartbeats 400000 in
theorem short_any (s : Txt) (w : World) :
    Calls Tryz.prog 153 #[.string ⟨s.toArray⟩] w fun e w' => e = .returned (.bool (Sp.short s)) ∧ Below w.heap.size w w' := by
  go_enter Tryz.func153, Tryz.ntmps153
  go_wp2
  all_goals
    go_ret
    go_light
    exact ⟨ret_bool (by grind [Sp.short, List.length_pos_iff]), Below.refl _ _⟩
set_option maxRecDepth 100000 in
set_option maxHeartbeats 400000 in
theorem isRoot_any (r : Sp.Root) (w : World) :
    Calls Tryz.prog 134 #[.agg (rootV r).toArray] w fun e w' => e = .returned (.bool (Sp.isRoot r)) ∧ Below w.heap.size w w' := by
  obtain ⟨p, n, f⟩ := r
  simp only [rootV]
  go_enter Tryz.func134, Tryz.ntmps134
  go_wp2_with (go_at_call 135; refine (noneOr_any _ _).mono ?_; rintro e w1 ⟨rfl, hb⟩; obtain ⟨hc, hf⟩ := bcell hb)
  all_goals
    go_ret
    go_light
    exact ⟨ret_bool (by grind [Sp.isRoot]), ((Below.refl _ _).alloc (Nat.le_refl _) _).trans (hb.mono (by simp))⟩
end Go.Proofs.YtmcpkhknjdiocaaGreat
namespace Go.Proofs.YtmcpkhknjdiocaaGreat
open Go.RowKit
attribute [local go_sem low] mk_extract
attribute [local go_sem] After.cell After.frozen mk_extract_end ByteArray.mk_append_mk
set_option maxRecDepth 100000 in
set_option maxHeartbeats 400000 in
theorem equalTxts (l m : List Txt) (A B : Option Addr) (c d : Nat) {M N : Nat → Prop} (w : World) (hl : Txts w M A l) (hm : Txts w N B m) :
    Calls Tryz.prog 186 #[.slice A l.length c, .slice B m.length d] w fun e w' => e = .returned (.bool (decide (l = m))) ∧ Below w.heap.size w w' := by
  have hlen := hl.len
  have hmen := hm.len
  have Hl := Lib.hid hl
  have Hm := Lib.hid hm
  clear hl hm
  by_cases he : l.length = m.length
  · have he1 : ((l.length : Int) == (m.length : Int)) = true := by simp [he]
    have he2 : ((l.length : Int) != (m.length : Int)) = false := by simp [he]
    have HE := Lib.hid he
    clear he
    go_enter Tryz.func186, Tryz.ntmps186
    go_wp2
    go_loopw [13] (fun i wr => ∃ k : Nat, k ≤ l.length ∧ i = .int .i64 k ∧ Below w.heap.size w wr ∧ Hid (∀ j, j < k → l.getD j [] = m.getD j [])) (fun i _ => l.length - (intOf i).toNat)
    case atStart => exact ⟨0, Nat.zero_le _, rfl, Below.refl _ _, fun j h => absurd h (by omega)⟩
    case round =>
      obtain ⟨k, hk, rfl, hb, hok⟩ := hrel
      have hsz := hb.size
      by_cases hlt : k < l.length
      · obtain ⟨b, off, rfl, hbl, hc⟩ := Hl.out.at_ hlt
        obtain ⟨b2, off2, rfl, hbl2, hc2⟩ := Hm.out.at_ (HE.out ▸ hlt : k < m.length)
        have hltm : k < m.length := HE.out ▸ hlt
        have hc0 := (hb.cell (p := ⟨b, off + k, none⟩) hbl).trans (hc k hlt)
        have hc1 := (hb.cell (p := ⟨b2, off2 + k, none⟩) hbl2).trans (hc2 k hltm)
        have hbw : b < wr.heap.size := by omega
        have hbw2 : b2 < wr.heap.size := by omega
        clear hc hc2
        generalize hx : l.getD k [] = x at *
        generalize hy : m.getD k [] = y at *
        have HX := Lib.hid hx
        have HY := Lib.hid hy
        clear hx hy
        go_wp2
        refine wp_region_after (by kernel_rfl) (by kernel_rfl) (wr.heap.size) ?_
        repeat (go_big_quiet_step (fail))
        refine wpQuiet_nil ?_
        intro w2 hb2
        have hb3 := hb.trans (hb2.mono hsz)
        go_wp2
        all_goals first
          | (go_ret
             go_light
             have hne : x ≠ y := by grind
             exact ⟨ret_bool (by simpa using Sp.ne_at (k := k) (d := []) (by rw [HX.out, HY.out]; exact hne)), hb3⟩)
          | (go_light
             have hee : x = y := by grind
             refine ⟨⟨k + 1, by omega, by go_num, hb3, fun j hj => ?_⟩, by simp [intOf]; omega⟩
             rcases Nat.lt_succ_iff_lt_or_eq.1 hj with h | rfl
             · exact hok.out j h
             · rw [HX.out, HY.out]; exact hee)
      · have hkl : k = l.length := by omega
        go_wp2
        go_ret
        refine ⟨ret_bool ?_, hb⟩
        have := Sp.eq_all HE.out (fun j hj => hok.out j (by omega))
        simp [this]
  · have he1 : ((l.length : Int) == (m.length : Int)) = false := by simp; omega
    have he2 : ((l.length : Int) != (m.length : Int)) = true := by simp; omega
    have HE := Lib.hid he
    clear he
    go_enter Tryz.func186, Tryz.ntmps186
    go_wp2
    go_ret
    refine ⟨ret_bool ?_, Below.refl _ _⟩
    have hne : l ≠ m := fun e => HE.out (by rw [e])
    simp [hne]
end Go.Proofs.YtmcpkhknjdiocaaGreat
namespace Go.Proofs.YtmcpkhknjdiocaaGreat
open Go.RowKit
attribute [local go_sem low] mk_extract
attribute [local go_sem] After.cell After.frozen mk_extract_end ByteArray.mk_append_mk
/-- An item by value: its values are a slice that reads. -/
def ownV (x : Sp.Item) (V : Option Addr) (c : Nat) : List Value := if x.kind = 3 then itemV (Sp.own x) V c else itemV (Sp.own x) none 0
set_option maxRecDepth 100000 in
set_option maxHeartbeats 1600000 in
theorem own_any (x : Sp.Item) (V : Option Addr) (c : Nat) (w : World) :
    Calls Tryz.prog 177 #[.agg (itemV x V c).toArray] w fun e w' => e = .returned (.agg (ownV x V c).toArray) ∧ Below w.heap.size w w' := by
  obtain ⟨key, kind, val, run, len, vals, dup, rt⟩ := x
  simp only [itemV]
  by_cases h1 : kind = 1
  · subst h1
    go_enter Tryz.func177, Tryz.ntmps177
    go_wp2
    go_returns
    exact ⟨by simp [ownV, itemV, Sp.own, Sp.root0], by go_grown⟩
  · by_cases h2 : kind = 2
    · subst h2
      go_enter Tryz.func177, Tryz.ntmps177
      go_wp2
      go_region
      go_wp2
      go_returns
      exact ⟨by simp [ownV, itemV, Sp.own, Sp.root0], by go_grown⟩
    · by_cases h3 : kind = 3
      · subst h3
        go_enter Tryz.func177, Tryz.ntmps177
        go_wp2
        go_region
        go_wp2
        go_returns
        exact ⟨by simp [ownV, itemV, Sp.own, Sp.root0], by go_grown⟩
      · by_cases h4 : kind = 4
        · subst h4
          go_enter Tryz.func177, Tryz.ntmps177
          go_wp2
          go_returns
          exact ⟨by simp [ownV, itemV, Sp.own, Sp.root0], by go_grown⟩
        · go_enter Tryz.func177, Tryz.ntmps177
          go_wp2
          go_returns
          exact ⟨by simp [ownV, itemV, Sp.own, Sp.root0, h1, h2, h3, h4], by go_grown⟩
set_option maxRecDepth 100000 in
set_option maxHeartbeats 1600000 in
theorem sameItem_any (x y : Sp.Item) (V W : Option Addr) (c d : Nat) {M N : Nat → Prop} (w : World) (hx : Txts w M V x.vals) (hy : Txts w N W y.vals) :
    Calls Tryz.prog 176 #[.agg (itemV x V c).toArray, .agg (itemV y W d).toArray] w fun e w' => e = .returned (.bool (Sp.sameItem x y)) ∧ Below w.heap.size w w' := by
  obtain ⟨key, kind, val, run, len, vals, dup, ⟨rp, rc, rf⟩⟩ := x
  obtain ⟨key', kind', val', run', len', vals', dup', ⟨rp', rc', rf'⟩⟩ := y
  simp only [itemV]
  have Hx := Lib.hid hx
  have Hy := Lib.hid hy
  clear hx hy
  go_enter Tryz.func176, Tryz.ntmps176
  go_wp2_with (go_at_call 186; refine (equalTxts vals vals' V W c d _ (Hx.out.go (by go_grown)) (Hy.out.go (by go_grown))).mono ?_; rintro e w1 ⟨rfl, hb⟩; obtain ⟨hc, hf⟩ := bcell hb)
  all_goals
    go_ret
    go_light
    refine ⟨ret_bool ?_, by first | (refine Below.trans (b := (w.alloc _).alloc _) ?_ (hb.mono (by simp; omega)); go_grown) | go_grown⟩
    simp only [Sp.sameItem]
    grind
end Go.Proofs.YtmcpkhknjdiocaaGreat
