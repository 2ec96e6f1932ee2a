/- Pages that may be lost: a copy of a row of texts, a page of it, a new file. Pages that may be lost: a new file, a page that is written. The store over a file: a new one; a page of its file is read. The document's numbers and texts as bytes, its sums, its small words. The document's vals. -/
import Derived.Test.YtkcfmjlcijhieaaGreatQB00
import Derived.Test.YtkcfmjlcijhieaaGreatQB03
import Derived.Test.YtkcfmjlcijhieaaGreatQB04
import Derived.Test.YtkcfmjlcijhieaaGreatQB06
import Derived.Test.YtkcfmjlcijhieaaGreatQB09
import Derived.Test.YtkcfmjlcijhieaaGreatQB10
import Derived.Maps.Own
import Derived.RegionTactic
import Derived.ChangeAlike
import Derived.BigRegion
set_option linter.unusedSimpArgs false
set_option linter.unusedVariables false
namespace Go.Proofs.YtkcfmjlcijhieaaGreat
open Go.RowKit
attribute [local go_sem low] mk_extract
attribute [local go_sem] After.cell After.frozen mk_extract_end ByteArray.mk_append_mk
theorem run_eql_slice_nl (b off n c : Nat) (W : World) : (binOp .eql 32 (.slice (some ⟨b, off, none⟩) n c) (.slice none 0 0)).run Tryz.prog W = .ok (.bool false) W := by
  unfold binOp
  simp [run_equal_slice_nil W 32 9 _ n c Tryz.underlying32]
set_option maxRecDepth 100000 in
set_option maxHeartbeats 1600000 in
theorem clone_any (l : List Txt) (b off c : Nat) {M : Nat → Prop} (w : World) (hl : Txts w M (some ⟨b, off, none⟩) l) (hn : l.length ≤ 1000) :
    Calls Tryz.prog 66 #[.slice (some ⟨b, off, none⟩) l.length c] w fun e w' => ∃ g cap, e = .returned (.slice (some ⟨g, 0, none⟩) l.length cap) ∧ w'.ownsRow w.heap.size StrT 1 (.slice (some ⟨g, 0, none⟩) l.length cap) l.length (l.map tv) ∧ Below w.heap.size w w' := by
  obtain ⟨i0, hi0, hz0, hz1, hz2⟩ := info_parts info_str
  have HL := Lib.hid hl
  have HN := Lib.hid hn
  clear hl hn
  have hnl := fun W => run_eql_slice_nl (b := b) (off := off) l.length c W
  go_enter Tryz.func66, Tryz.ntmps66
  go_wp2_with (at_builtin; refine wpList_append_own _ rfl _ _ 32 rfl w.heap.size StrT i0 _ 1 16 Tryz.underlying32 hi0 hz0 hz1 hz2 rfl (by decide) _ 0 [] rfl ?c0 ⟨b, off, none⟩ l.length c (l.map tv) rfl ?c6 ?c1 ?c2 ?c3 ?c4 ?c5 ?_)
  case c0 => exact ⟨rfl, .inr ⟨w.heap.size, 0, #[], rfl, Nat.le_refl _, heap_alloc_new _ _, Nat.le_refl _, by simp [maxLen], rfl, rfl⟩⟩
  case c6 => simp
  case c1 =>
    intro j u hu
    have hj : j < l.length := by
      have := (List.getElem?_eq_some_iff.1 hu).1
      rwa [List.length_map] at this
    obtain ⟨b', off', e, hb, hc⟩ := HL.out.at_ hj
    obtain ⟨rfl, rfl⟩ : b = b' ∧ off = off' := by simpa using e
    have h := hc j hj
    have hal : Below w.heap.size w (w.alloc (.cells #[] StrT)) := (Below.refl _ _).alloc (Nat.le_refl _) _
    rw [Go.WideShapes.add_plain]
    refine (hal.cell (p := ⟨b, off + j, none⟩) hb).trans (h.trans ?_)
    rw [List.getElem?_map, List.getElem?_eq_getElem hj] at hu
    simp only [Option.map_some, Option.some.injEq] at hu
    rw [← hu]
    simp [List.getD, hj, tv]
  case c2 =>
    intro u hu
    obtain ⟨s, _, rfl⟩ := List.mem_map.1 hu
    rfl
  case c3 => have := HN.out; simp only [maxLen]; omega
  case c4 => have := HN.out; omega
  case c5 => simp
  intro v' w' hown' hgr' hnil
  obtain ⟨g, cap, rfl⟩ : ∃ g cap, v' = .slice (some ⟨g, 0, none⟩) l.length cap := by
    rcases hown'.2 with ⟨h, _⟩ | ⟨g, cap, cur, h, _⟩
    · exact absurd h (fun e => (hnil e).elim)
    · exact ⟨g, cap, h⟩
  clear hnil
  have hb2 : Below w.heap.size w w' := by
    have h1 : Below w.heap.size w (w.alloc (.cells #[] StrT)) := (Below.refl _ _).alloc (Nat.le_refl _) _
    exact h1.trans (Chg.below (S := fun k => some w.heap.size = some k) (Chg.of_grown hgr' (fun k hk => .inl (by simpa [Value.ownBlock] using hk))) (by simp) (fun k hk e => by simp at e; omega))
  have HB := Lib.hid hb2
  have HO := Lib.hid hown'
  clear hown' hgr' hb2
  go_wp2_with fail
  go_ret
  exact ⟨g, cap, rfl, HO.out, HB.out⟩
namespace Sp
/-- A page of some; none: no bytes. -/
def atV (V : List Txt) (i : Int) : Txt := if i < 0 then [] else V.getD i.toNat []
end Sp
set_option maxRecDepth 100000 in
set_option maxHeartbeats 1600000 in
theorem at_any (V : List Txt) (A : Option Addr) (c : Nat) {M : Nat → Prop} (i : Int) (w : World) (hV : Txts w M A V) :
    Calls Tryz.prog 77 #[.slice A V.length c, .int .i64 i] w fun e w' => e = .returned (.string ⟨(Sp.atV V i).toArray⟩) ∧ w = w' := by
  by_cases h0 : i < 0
  · have HV := Lib.hid (show Sp.atV V i = [] by unfold Sp.atV; rw [if_pos h0])
    rw [HV.out]
    clear hV
    go_enter Tryz.func77, Tryz.ntmps77
    go_wp2_with fail
    go_ret
    exact ⟨rfl, rfl⟩
  · obtain ⟨j, rfl⟩ := Int.eq_ofNat_of_zero_le (by omega : 0 ≤ i)
    by_cases h1 : j < V.length
    · obtain ⟨b, off, rfl, hb, hc⟩ := hV.at_ h1
      have hcj := hc j h1
      have HV := Lib.hid (show Sp.atV V j = V.getD j [] by unfold Sp.atV; rw [if_neg h0]; rfl)
      rw [HV.out]
      clear hV hc
      generalize V.getD j [] = s at *
      go_enter Tryz.func77, Tryz.ntmps77
      go_wp2_with fail
      go_ret
      exact ⟨rfl, rfl⟩
    · have HV := Lib.hid (show Sp.atV V j = [] by unfold Sp.atV; rw [if_neg h0]; exact (List.getD_eq_getElem?_getD ..).trans (by rw [List.getElem?_eq_none (by simpa using h1)]; rfl))
      rw [HV.out]
      clear hV
      have h2 : (V.length : Int) ≤ (j : Int) := by omega
      go_enter Tryz.func77, Tryz.ntmps77
      go_wp2_with fail
      go_ret
      exact ⟨rfl, rfl⟩
theorem FileAt.txts {w : World} {f m n c : Nat} {A : Option Addr} {V : List Txt} (h : FileAt w f (.slice A n c) m V) (hn : V.length ≤ 4611686018427387904) : n = V.length ∧ Txts w NoM A V := by
  obtain ⟨A', c', e⟩ := own_form h.own
  simp only [Value.slice.injEq] at e
  obtain ⟨rfl, rfl, rfl⟩ := e
  refine ⟨rfl, ?_⟩
  have := TRow.of_own h.own (by rw [List.length_map]; exact hn)
  exact this.row (fun _ _ h => h)
set_option maxRecDepth 100000 in
set_option maxHeartbeats 1600000 in
theorem fileRead_any (f m : Nat) (v : Value) (V : List Txt) (i : Int) (w : World) (hf : FileAt w f v m V) (hn : V.length ≤ 4611686018427387904) :
    Calls Tryz.prog 41 #[.pointer (some ⟨f, 0, none⟩), .int .i64 i] w fun e w' => e = .returned (.string ⟨(Sp.atV V i).toArray⟩) ∧ w = w' := by
  obtain ⟨A, c, rfl⟩ := own_form hf.own
  have HT := Lib.hid (hf.txts hn).2
  obtain ⟨sv, hb⟩ := hf.bf
  have c0 : w.cell? ⟨f, 0, none⟩ = some (.slice A V.length c) := hb.cell 0
  clear hf hb
  go_enter Tryz.func41, Tryz.ntmps41
  go_wp2_with (go_at_call 77; refine (at_any V A c i _ HT.out).mono ?_; rintro e w2 ⟨rfl, rfl⟩)
  go_ret
  exact ⟨rfl, rfl⟩
end Go.Proofs.YtkcfmjlcijhieaaGreat
namespace Go.Proofs.YtkcfmjlcijhieaaGreat
open Go.RowKit
attribute [local go_sem low] mk_extract
attribute [local go_sem] After.cell After.frozen mk_extract_end ByteArray.mk_append_mk
theorem Txts.of_own {w : World} {base g cap : Nat} {l : List Txt} (h : w.ownsRow base StrT 1 (.slice (some ⟨g, 0, none⟩) l.length cap) l.length (l.map tv)) (hn : l.length ≤ 4611686018427387904) : Txts w NoM (some ⟨g, 0, none⟩) l :=
  (TRow.of_own h (by rw [List.length_map]; exact hn)).row (fun _ _ h => h)
theorem own_less {w : World} {base base' : Nat} {e : TypeId} {size n : Nat} {v : Value} {xs : List Value} (h : w.ownsRow base e size v n xs) (hb : base' ≤ base) : w.ownsRow base' e size v n xs := by
  refine ⟨h.1, ?_⟩
  rcases h.2 with h | ⟨g, cap, cur, hv, hg, r⟩
  · exact .inl h
  · exact .inr ⟨g, cap, cur, hv, Nat.le_trans hb hg, r⟩
set_option maxRecDepth 100000 in
set_option maxHeartbeats 1600000 in
theorem fileNew_any (l : List Txt) (b off c : Nat) {M : Nat → Prop} (w : World) (hl : Txts w M (some ⟨b, off, none⟩) l) (hn : l.length ≤ 400) (hc : l.length ≤ c) (hs : ∀ s ∈ l, s.length ≤ 4611686018427387904) :
    Calls Tryz.prog 20 #[.slice (some ⟨b, off, none⟩) l.length c] w fun e w' => ∃ f v m, e = .returned (.pointer (some ⟨f, 0, none⟩)) ∧ FileAt w' f v m l ∧ w.heap.size ≤ f ∧ w.heap.size ≤ m ∧ (∀ k, v.ownBlock = some k → w.heap.size ≤ k) ∧ Below w.heap.size w w' := by
  have HL := Lib.hid hl
  have HS := Lib.hid hs
  have h400 : (l.length : Int) ≤ 400 := by omega
  have hcc : (l.length : Int) ≤ (c : Int) := by omega
  have hmin : min (l.length : Int) 400 = (l.length : Int) := by omega
  have hmm := @run_makeMap Tryz.prog
  clear hl hs
  go_enter Tryz.func20, Tryz.ntmps20
  go_upto_region 2 with (go_at_call 66; refine (clone_any l b off c _ HL.out (by omega)).mono ?_; rintro e w1 ⟨g, cap, rfl, ho, hb1⟩; have HO := Lib.hid ho; have HB := Lib.hid hb1; clear ho hb1)
  go_wp2_with (go_at_call 66; refine (clone_any l g 0 cap _ (Txts.of_own HO.out (by omega)) (by omega)).mono ?_; rintro e w2 ⟨g2, cap2, rfl, ho2, hb2⟩; have HO2 := Lib.hid ho2; have HB2 := Lib.hid hb2; clear ho2 hb2)
  go_ret
  have hz1 := HB.out.size
  have hz2 := HB2.out.size
  refine ⟨w2.heap.size + 1, .slice (some ⟨g, 0, none⟩) l.length cap, w2.heap.size, rfl, ⟨⟨.slice (some ⟨g2, 0, none⟩) l.length cap2, ?_⟩, ?_, ⟨#[], 0, ?_, by simp⟩, HS.out⟩, by omega, by omega, fun k hk => ?_, ?_⟩
  · exact blk_second w2 _ _ _
  · have hal : Below w1.heap.size w1 ((w2.alloc (.map #[] 0)).alloc (.cells #[.slice (some ⟨g, 0, none⟩) l.length cap, .slice (some ⟨g2, 0, none⟩) l.length cap2, .map (some w2.heap.size)] FileT)) := (HB2.out.alloc hz2 _).alloc (by rw [World.size_alloc]; omega) _
    exact own_less (own_chg2 (S := NoM) HO.out (Chg.of_below hal) (fun _ _ h => h)) (Nat.zero_le _)
  · have := heap_alloc_new w2 (.map #[] 0)
    exact (((Below.refl _ _).alloc (Nat.le_refl _) _ : Below (w2.alloc (.map #[] 0)).heap.size (w2.alloc (.map #[] 0)) _).block _ (by rw [World.size_alloc]; omega)).trans this
  · have := own_lt HO.out k hk
    rcases HO.out.2 with ⟨h, _⟩ | ⟨g', cap', cur, h, hg, _⟩
    · cases h
    · simp only [Value.slice.injEq, Option.some.injEq, Addr.mk.injEq] at h
      simp only [Value.ownBlock, Option.some.injEq] at hk
      omega
  · exact ((HB.out.trans (HB2.out.mono hz1)).alloc (by omega) _).alloc (by rw [World.size_alloc]; omega) _
end Go.Proofs.YtkcfmjlcijhieaaGreat
namespace Go.Proofs.YtkcfmjlcijhieaaGreat
open Go.RowKit
attribute [local go_sem low] mk_extract
attribute [local go_sem] After.cell After.frozen mk_extract_end ByteArray.mk_append_mk
abbrev StT : TypeId := 125
abbrev PMapT : TypeId := 123
def pgZ0 : Array Value := #[.int .i64 0, .slice none 0 0, .slice none 0 0, .slice none 0 0, .string ⟨#[]⟩, .slice none 0 0, .slice none 0 0, .int .i64 0, .int .u64 0, .int .i64 0, .int .i64 0, .int .i64 0, .int .i64 0, .int .i64 0]
theorem zeroPage (W : World) : (zeroValue 39).run Tryz.prog W = .ok (.agg pgZ0) W := by kernel_rfl
theorem run_lookup_empty (W : World) (m c : Nat) (h : W.heap[m]? = some (.map #[] c)) (i : Int) : (Instr.lookup PMapT (.map (some m)) (.int .i64 i) true).run Tryz.prog W = .ok (.tuple #[.agg pgZ0, .bool false]) W := by
  have hk : MapKept.IsKey (.int .i64) (.int .i64 i) := rfl
  have hd := Tryz.underlying3
  have ht := Tryz.underlying123
  have hf : Instr.findNow (.int .i64) (.int .i64 i) (#[] : Array MapEntry).toList 0 = some none := rfl
  simp [Instr.lookup, run_underlying ht, MapKept.run_getObj_map h, MapKept.run_checkKey hd hk, MapKept.run_findKey hd hf, zeroPage, Result.andThen, pgZ0]
/-- A store that has made nothing. -/
structure St0 (w : World) (t f m d : Nat) (last : Int) (v : Value) (V : List Txt) : Prop where
  bt : Blk w t StT #[.pointer (some ⟨f, 0, none⟩), .map (some d), .slice none 0 0, .slice none 0 0, .int .i64 last, .int .i64 400]
  dm : ∃ c, w.heap[d]? = some (.map #[] c)
  fa : FileAt w f v m V
theorem St0.go {w w' : World} {t f m d : Nat} {last : Int} {v : Value} {V : List Txt} (h : St0 w t f m d last v V) (hb : Below w.heap.size w w') : St0 w' t f m d last v V := by
  obtain ⟨c, hd⟩ := h.dm
  exact ⟨h.bt.below hb h.bt.lt, ⟨c, (hb.block d (Array.getElem?_eq_some_iff.1 hd).1).trans hd⟩, h.fa.go hb⟩
set_option maxRecDepth 100000 in
set_option maxHeartbeats 1600000 in
theorem storeNew_any (f m : Nat) (last : Int) (v : Value) (V : List Txt) (w : World) (hf : FileAt w f v m V) (h2 : 2 ≤ last) (h4 : last ≤ 400) :
    Calls Tryz.prog 28 #[.pointer (some ⟨f, 0, none⟩), .int .i64 last, .int .i64 400, .slice none 0 0] w fun e w' => ∃ t d, e = .returned (.pointer (some ⟨t, 0, none⟩)) ∧ St0 w' t f m d last v V ∧ Below w.heap.size w w' := by
  have HF := Lib.hid hf
  have hmx : max last 2 = last := by omega
  have hmn : min last 400 = last := by omega
  have hmm := @run_makeMap Tryz.prog
  clear hf
  go_enter Tryz.func28, Tryz.ntmps28
  go_upto_region 2 with fail
  refine wp_gen (fun W => St0 W (w.heap.size + 1) f m w.heap.size last v V ∧ Below w.heap.size w W) ?_ ?_
  · have hb : Below w.heap.size w ((w.alloc (.map #[] 0)).alloc (.cells #[.pointer (some ⟨f, 0, none⟩), .map (some w.heap.size), .slice none 0 0, .slice none 0 0, .int .i64 last, .int .i64 400] StT)) := ((Below.refl _ _).alloc (Nat.le_refl _) _).alloc (by simp) _
    refine ⟨⟨blk_second w _ _ _, ⟨0, ?_⟩, HF.out.go hb⟩, hb⟩
    have := heap_alloc_new w (.map #[] 0)
    exact (((Below.refl _ _).alloc (Nat.le_refl _) _ : Below (w.alloc (.map #[] 0)).heap.size (w.alloc (.map #[] 0)) _).block _ (by rw [World.size_alloc]; omega)).trans this
  rintro w1 ⟨hs, hb⟩
  have HS := Lib.hid hs
  have HB := Lib.hid hb
  clear hs hb HF
  go_wp2_with fail
  go_loopw [24] (fun i wr => i = .int .i64 0 ∧ wr = w1) (fun _ _ => 0)
  case atStart => exact ⟨rfl, rfl⟩
  case round =>
    obtain ⟨rfl, rfl⟩ := hrel
    go_wp2_with fail
    go_ret
    exact ⟨_, _, rfl, HS.out, HB.out⟩
theorem pageV_all0 (p : Sp.Page) (r : Refs) : (pageV p r).toArray.all (·.oneCell') = true := by
  rw [Array.all_eq_true_iff_forall_mem]
  intro u hu
  have hu : u ∈ pageV p r := by simpa using hu
  simp only [pageV, mtV, List.mem_append, List.mem_cons, List.not_mem_nil, or_false] at hu
  rcases hu with rfl | rfl | rfl | rfl | rfl | rfl | rfl | rfl | rfl | rfl | rfl | rfl | rfl | rfl <;> rfl
theorem chg_setRow0 (w : World) (k : Nat) (cs : Array Value) : Chg (OneM k) w (w.setRow k cs) :=
  ⟨rfl, rfl, rfl, by simp, fun i _ hs => setRow_other w k i cs (fun e => hs e)⟩
def readE (s : Txt) : Value := if Sp.readOk s then .nilIface else .iface 55 (.int .i64 12)
theorem readV_is (s : Txt) (r : Refs) : readV s r = .tuple #[.agg (pageV (readPg s) r).toArray, readE s] := by
  unfold readV readPg readE
  split <;> rfl
theorem atV_sz (V : List Txt) (i : Int) (h : ∀ s ∈ V, s.length ≤ 4611686018427387904) : (Sp.atV V i).length ≤ 4611686018427387904 := by
  unfold Sp.atV
  split
  · simp
  · rw [List.getD_eq_getElem?_getD]
    cases hq : V[i.toNat]? with
    | none => simp
    | some s => exact h s (List.mem_of_getElem? hq)
set_option maxRecDepth 100000 in
set_option maxHeartbeats 1600000 in
theorem storeRead_any (t f m d : Nat) (last : Int) (v : Value) (V : List Txt) (i : Int) (w : World) (hs : St0 w t f m d last v V) (hn : V.length ≤ 400) (h2 : 2 ≤ i) (h4 : i < 400) :
    Calls Tryz.prog 37 #[.pointer (some ⟨t, 0, none⟩), .int .i64 i] w fun e w' => ∃ r, e = .returned (readV (Sp.atV V i) r) ∧ (∀ M : Nat → Prop, (∀ k, w.heap.size ≤ k → ¬ M k) → PageRd w' M (readPg (Sp.atV V i)) r) ∧ Below w.heap.size w w' := by
  have hal : Below w.heap.size w (w.alloc (.cells pgZ0 PageT)) := (Below.refl _ _).alloc (Nat.le_refl _) _
  have HS := Lib.hid (hs.go hal)
  have c0 := HS.out.bt.cell 0
  have c1 := HS.out.bt.cell 1
  have c5 := HS.out.bt.cell 5
  simp at c0 c1 c5
  obtain ⟨ck, hdm⟩ := HS.out.dm
  have HD := Lib.hid hdm
  have HZ := Lib.hid (Blk.new w PageT pgZ0)
  have HSZ := Lib.hid (atV_sz V i hs.fa.sz)
  have HAL := Lib.hid hal
  have hlt2 : ¬ (i < 2) := by omega
  have h400 : ¬ (400 ≤ i) := by omega
  have hd1 : d < (w.alloc (.cells pgZ0 PageT)).heap.size := (Array.getElem?_eq_some_iff.1 hdm).1
  have hlk := run_lookup_empty _ _ _ hdm i
  clear hs hal hdm
  simp only [pgZ0] at *
  go_enter Tryz.func37, Tryz.ntmps37
  go_upto_region 5 with (refine wpList_new PageT _ _ rfl rfl rfl rfl rfl rfl _ rfl (of_decide_eq_true (by kernel_rfl)) (by kernel_rfl) (by kernel_rfl) (by kernel_rfl) ?_)
  have hal2 : Below (w.alloc (.cells pgZ0 PageT)).heap.size (w.alloc (.cells pgZ0 PageT)) ((w.alloc (.cells pgZ0 PageT)).alloc (.cells pgZ0 PageT)) := (Below.refl _ _).alloc (Nat.le_refl _) _
  have HS2 := Lib.hid (HS.out.go hal2)
  have HZ2 := Lib.hid (HZ.out.below hal2 HZ.out.lt)
  have HAL2 := Lib.hid (HAL.out.trans (hal2.mono HAL.out.size))
  have e0 := HS2.out.bt.cell 0
  simp at e0
  clear c0 c1 c5 hlk HS HZ HAL hal2 HD hd1
  simp only [pgZ0] at *
  generalize ((w.alloc (.cells _ PageT)).alloc (.cells _ PageT)) = W2 at *
  go_wp2_with (first
    | (go_at_call 41; refine (fileRead_any f m v V i _ HS2.out.fa (by omega)).mono ?_; rintro e w2 ⟨rfl, rfl⟩)
    | (go_at_call 63; refine (read_any (Sp.atV V i) _ HSZ.out).mono ?_; rintro e w3 ⟨r, rfl, hr, hb3⟩; rw [readV_is])
    | (refine wpList_store_row rfl PageT _ _ rfl w.heap.size _ rfl rfl PageT _ (HZ2.out.below hb3 HZ2.out.lt) (by kernel_rfl) rfl (pageV_all0 (readPg (Sp.atV V i)) r) ?_))
  obtain ⟨⟨z0, z1, z2, z3, z4, z5, z6, z7, z8, z9, z10, z11, z12, z13⟩, _⟩ := ((HZ2.out.below hb3 HZ2.out.lt).row (ds := #[.int .i64 (readPg (Sp.atV V i)).kind, .slice r.I (readPg (Sp.atV V i)).items.length r.i, .slice r.K (readPg (Sp.atV V i)).keys.length r.k, .slice r.D (readPg (Sp.atV V i)).kids.length r.d, .string ⟨(readPg (Sp.atV V i)).text.toArray⟩, .slice r.V (readPg (Sp.atV V i)).vals.length r.v, .slice r.F (readPg (Sp.atV V i)).free.length r.f, .int .i64 (readPg (Sp.atV V i)).next, .int .u64 (readPg (Sp.atV V i)).mt.txn, .int .i64 (readPg (Sp.atV V i)).mt.main.page, .int .i64 (readPg (Sp.atV V i)).mt.main.count, .int .i64 (readPg (Sp.atV V i)).mt.main.flags, .int .i64 (readPg (Sp.atV V i)).mt.free, .int .i64 (readPg (Sp.atV V i)).mt.last])).at14
  have hge : w.heap.size ≤ W2.heap.size := HAL2.out.size
  have hb4 : Below w.heap.size w (w3.setRow w.heap.size (pageV (readPg (Sp.atV V i)) r).toArray) := below_setRow (HAL2.out.trans (hb3.mono hge)) (Nat.le_refl _) _
  refine bodyPost_ret (v := .tuple #[.agg (pageV (readPg (Sp.atV V i)) r).toArray, readE (Sp.atV V i)]) (by simp [results, Tryz.results37, go_sem, pageV, mtV, z0, z1, z2, z3, z4, z5, z6, z7, z8, z9, z10, z11, z12, z13]) rfl ⟨r, by rw [readV_is], fun M hM => ?_, hb4⟩
  have hz2 : w.heap.size < W2.heap.size := HZ2.out.lt
  have h1 := hr (fun k => M k ∨ k = w.heap.size) (fun k hk => by
    rintro (h | h)
    · exact hM k (by omega) h
    · omega)
  exact (h1.chg ((chg_setRow0 w3 w.heap.size _).mono (fun k _ h => .inr h))).anti (fun k h => .inl h)
end Go.Proofs.YtkcfmjlcijhieaaGreat
namespace Go.Proofs.YtkcfmjlcijhieaaGreat
open Go.RowKit
attribute [local go_sem low] mk_extract
attribute [local go_sem] After.cell After.frozen mk_extract_end ByteArray.mk_append_mk
set_option maxRecDepth 100000 in
set_option maxHeartbeats 1600000 in
theorem dNum_any (n : Int) (h0 : 0 ≤ n) (h1 : n < 18446744073709551616) (w : World) :
    Calls Tryz.prog 60 #[.int .u64 n] w fun e w' => e = .returned (.string ⟨(Sp.le8 n).toArray⟩) ∧ Below w.heap.size w w' := by
  have hmk : ∀ w, (Instr.makeSlice 22 (.int .i64 8) (.int .i64 8)).run Tryz.prog w = .ok (.slice (some ⟨w.heap.size, 0, none⟩) 8 8) (w.alloc (.cells #[.int .u8 0, .int .u8 0, .int .u8 0, .int .u8 0, .int .u8 0, .int .u8 0, .int .u8 0, .int .u8 0] 5)) := fun _ => by kernel_rfl
  have hcv := conv8
  go_enter Tryz.func60, Tryz.ntmps60
  go_wp2
  go_rounds 9
  go_ret
  refine ⟨?_, (Below.refl _ _).alloc (Nat.le_refl _) _⟩
  refine congrArg (fun s => Ending.returned (.string s)) ?_
  have h7 : n / 256 / 256 / 256 / 256 / 256 / 256 / 256 % 256 = n / 256 / 256 / 256 / 256 / 256 / 256 / 256 := by omega
  have e2 : n / 65536 = n / 256 / 256 := by omega
  have e3 : n / 16777216 = n / 256 / 256 / 256 := by omega
  have e4 : n / 4294967296 = n / 256 / 256 / 256 / 256 := by omega
  have e5 : n / 1099511627776 = n / 256 / 256 / 256 / 256 / 256 := by omega
  have e6 : n / 281474976710656 = n / 256 / 256 / 256 / 256 / 256 / 256 := by omega
  have e7 : n / 72057594037927936 = n / 256 / 256 / 256 / 256 / 256 / 256 / 256 := by omega
  rw [e2, e3, e4, e5, e6, e7]
  simp [Sp.le8, Sp.leN, h7]
set_option maxRecDepth 100000 in
set_option maxHeartbeats 400000 in
theorem dnum_any (n : Int) (h0 : 0 ≤ n) (h1 : n < 4611686018427387904) (w : World) :
    Calls Tryz.prog 56 #[.int .i64 n] w fun e w' => e = .returned (.string ⟨(Sp.le8 n).toArray⟩) ∧ Below w.heap.size w w' := by
  go_enter Tryz.func56, Tryz.ntmps56
  go_wp2_with (go_at_call 60; refine (dNum_any _ (by omega) (by omega) _).mono ?_; rintro e w' ⟨rfl, hb⟩)
  go_ret
  exact ⟨rfl, hb⟩
theorem conv2d (w : World) (x0 x1 : Int) : (convert 22 9 (.slice (some ⟨w.heap.size, 0, none⟩) 2 2)).run Tryz.prog ((w.alloc (.cells #[.int .u8 x0, .int .u8 x1] 5)).drew) =
    .ok (.string ⟨[UInt8.ofNat x0.toNat, UInt8.ofNat x1.toNat].toArray⟩) ((w.alloc (.cells #[.int .u8 x0, .int .u8 x1] 5)).drew) := conv2 w.drew x0 x1
set_option maxRecDepth 100000 in
set_option maxHeartbeats 400000 in
theorem dText_any (s : Txt) (w : World) :
    Calls Tryz.prog 58 #[.string ⟨s.toArray⟩] w fun e w' => e = .returned (.string ⟨(Sp.text s).toArray⟩) ∧ Below w.heap.size w w' := by
  have hcv := conv2d
  go_enter Tryz.func58, Tryz.ntmps58
  go_wp2
  all_goals go_region
  all_goals
    go_wp2
    go_ret
    refine ⟨?_, ((Below.refl _ _).alloc (Nat.le_refl _) _).drew⟩
    refine congrArg (fun s => Ending.returned (.string s)) ?_
    simp only [Sp.text, Sp.cutText]
    first
      | (rw [List.take_of_length_le (by omega)]; rw [Sp.leN2 _ (by omega)]; simp; done)
      | (rw [List.take_of_length_le (by omega)]; rw [Sp.leN2 _ (by omega)]; rfl)
      | (have hl : (s.take 65535).length = 65535 := by simp; omega
         rw [hl]; rfl)
set_option maxRecDepth 100000 in
set_option maxHeartbeats 400000 in
theorem dSum_any (s : Txt) (w : World) (hs : s.length ≤ 4611686018427387904) :
    Calls Tryz.prog 62 #[.string ⟨s.toArray⟩] w fun e w' => e = .returned (.int .u64 (Sp.sum s)) ∧ w = w' := by
  go_enter Tryz.func62, Tryz.ntmps62
  go_wp2
  go_loop [3, 4] (fun n i => ∃ k : Nat, k ≤ s.length ∧ i = .int .i64 k ∧ n = .int .u64 (Sp.sum (s.take k))) (fun _ i => s.length - (intOf i).toNat)
  case atStart => exact ⟨0, Nat.zero_le _, rfl, rfl⟩
  case round =>
    obtain ⟨k, hk, rfl, rfl⟩ := hrel
    by_cases hlt : k < s.length
    · have hm := Sp.sum_range (s.take k)
      have HS := Lib.hid (Sp.sum_succ s k hlt)
      generalize Sp.sum (s.take k) = m at *
      go_wp2
      refine ⟨⟨k + 1, by omega, by go_num, ?_⟩, by simp [intOf]; omega⟩
      rw [HS.out]
      rfl
    · have hkl : k = s.length := by omega
      go_wp2
      go_ret
      exact ⟨rfl, rfl⟩
set_option maxRecDepth 100000 in
set_option maxHeartbeats 400000 in
theorem dShort_any (s : Txt) (w : World) :
    Calls Tryz.prog 87 #[.string ⟨s.toArray⟩] w fun e w' => e = .returned (.bool (Sp.short s)) ∧ Below w.heap.size w w' := by
  go_enter Tryz.func87, Tryz.ntmps87
  go_wp2
  all_goals
    go_ret
    go_light
    exact ⟨ret_bool (by grind [Sp.short, List.length_pos_iff]), Below.refl _ _⟩
set_option maxRecDepth 100000 in
set_option maxHeartbeats 400000 in
theorem dpage_any (n : Int) (w : World) :
    Calls Tryz.prog 86 #[.int .i64 n] w fun e w' => e = .returned (.bool (Sp.isID n)) ∧ Below w.heap.size w w' := by
  go_enter Tryz.func86, Tryz.ntmps86
  go_wp2
  all_goals
    go_ret
    go_light
    exact ⟨ret_bool (by grind [Sp.isID]), Below.refl _ _⟩
set_option maxRecDepth 100000 in
set_option maxHeartbeats 400000 in
theorem droot_any (r : Sp.Root) (w : World) :
    Calls Tryz.prog 90 #[.agg (rootV r).toArray] w fun e w' => e = .returned (.bool (Sp.isRoot r)) ∧ Below w.heap.size w w' := by
  obtain ⟨p, n, f⟩ := r
  simp only [rootV]
  go_enter Tryz.func90, Tryz.ntmps90
  go_wp2_with (go_at_call 86; refine (dpage_any _ _).mono ?_; rintro e w1 ⟨rfl, hb⟩; obtain ⟨hc, hf⟩ := bcell hb)
  all_goals
    go_ret
    go_light
    first
      | exact ⟨ret_bool (by grind [Sp.isRoot, Sp.noneOr]), ((Below.refl _ _).alloc (Nat.le_refl _) _).trans (hb.mono (by simp))⟩
      | exact ⟨ret_bool (by grind [Sp.isRoot, Sp.noneOr]), (Below.refl _ _).alloc (Nat.le_refl _) _⟩
end Go.Proofs.YtkcfmjlcijhieaaGreat
namespace Go.Proofs.YtkcfmjlcijhieaaGreat
open Go.RowKit
attribute [local go_sem low] mk_extract
attribute [local go_sem] After.cell After.frozen mk_extract_end ByteArray.mk_append_mk
set_option maxRecDepth 100000 in
set_option maxHeartbeats 1600000 in
theorem dvals_any (l : List Txt) (A : Option Addr) (c : Nat) (least most : Int) {M : Nat → Prop} (w : World) (hr : Txts w M A l) :
    Calls Tryz.prog 88 #[.slice A l.length c, .int .i64 least, .int .i64 most] w fun e w' => e = .returned (.bool (Sp.isVals l least most)) ∧ Below w.heap.size w w' := by
  have hlen := hr.len
  have Hr := Lib.hid hr
  clear hr
  go_enter Tryz.func88, Tryz.ntmps88
  go_wp2
  go_loopw [7] (fun i wr => ∃ k : Nat, k ≤ l.length ∧ i = .int .i64 k ∧ Below w.heap.size w wr ∧ Hid (∀ j, j < k → Sp.valAt l j = true)) (fun i _ => l.length - (intOf i).toNat)
  case atStart => exact ⟨0, Nat.zero_le _, rfl, Below.refl _ _, fun j h => absurd h (by omega)⟩
  case round =>
    obtain ⟨k, hk, rfl, hb, hok⟩ := hrel
    by_cases hlt : k < l.length
    · obtain ⟨b, off, rfl, hbl, hc⟩ := Hr.out.at_ hlt
      have hc0 := (hb.cell (p := ⟨b, off + k, none⟩) hbl).trans (hc k hlt)
      have hc1 := fun (h : 0 < k) => (hb.cell (p := ⟨b, off + (k - 1), none⟩) hbl).trans (hc (k - 1) (by omega))
      have hbw : b < wr.heap.size := by have := hb.size; omega
      clear hc
      have HV := Lib.hid (Sp.valAt_def l k)
      generalize l.getD k [] = x at *
      generalize l.getD (k - 1) [] = y at *
      have hno : ∀ w2, Below wr.heap.size wr w2 → Sp.valAt l k = false → Ending.returned (.bool false) = .returned (.bool (Sp.isVals l least most)) ∧ Below w.heap.size w w2 := fun w2 h2 hv => ⟨by rw [Sp.isVals, Sp.allTo_false hlt hv]; rfl, hb.trans (h2.mono hb.size)⟩
      have hyes : Sp.valAt l k = true → ∀ j, j < k + 1 → Sp.valAt l j = true := fun hv j hj => by
        rcases Nat.lt_succ_iff_lt_or_eq.1 hj with h | rfl
        · exact hok.out j h
        · exact hv
      have HNO := Lib.hid hno
      have HYES := Lib.hid hyes
      clear hno hyes hok
      by_cases h1 : x.length < 1
      · have hd1 : decide ((x.length : Int) < 1) = true := decide_eq_true (by omega)
        go_wp2
        refine wp_region_after (by kernel_rfl) (by kernel_rfl) (wr.heap.size) ?_
        repeat (go_big_quiet_step (fail))
        refine wpQuiet_nil ?_
        intro w2 hb2
        go_wp2
        go_ret
        exact HNO.out _ hb2 (by rw [HV.out, decide_eq_false (by omega : ¬ 1 ≤ x.length)]; rfl)
      have hd1 : decide ((x.length : Int) < 1) = false := decide_eq_false (by omega)
      by_cases h2 : 12 < x.length
      · have hd2 : decide ((x.length : Int) > 12) = true := decide_eq_true (by omega)
        go_wp2
        refine wp_region_after (by kernel_rfl) (by kernel_rfl) (wr.heap.size) ?_
        repeat (go_big_quiet_step (fail))
        refine wpQuiet_nil ?_
        intro w2 hb2
        go_wp2
        go_ret
        exact HNO.out _ hb2 (by rw [HV.out, decide_eq_false (by omega : ¬ x.length ≤ 12), Bool.and_false, Bool.false_and])
      have hd2 : decide ((x.length : Int) > 12) = false := decide_eq_false (by omega)
      by_cases h3 : 0 < k
      · have hc1 := hc1 h3
        rcases hl : Op.bytesLess y x with _ | _
        · go_wp2
          refine wp_region_after (by kernel_rfl) (by kernel_rfl) (wr.heap.size) ?_
          repeat (go_big_quiet_step (fail))
          refine wpQuiet_nil ?_
          intro w2 hb2
          go_wp2
          go_ret
          exact HNO.out _ hb2 (by rw [HV.out, decide_eq_false (by omega : ¬ k = 0), Sp.lt, hl]; simp)
        · go_wp2
          refine wp_region_after (by kernel_rfl) (by kernel_rfl) (wr.heap.size) ?_
          repeat (go_big_quiet_step (fail))
          refine wpQuiet_nil ?_
          intro w2 hb2
          go_wp2
          refine ⟨⟨k + 1, by omega, by go_num, hb.trans (hb2.mono hb.size), HYES.out ?_⟩, by simp [intOf]; omega⟩
          rw [HV.out, Sp.lt, hl, decide_eq_true (by omega : 1 ≤ x.length), decide_eq_true (by omega : x.length ≤ 12)]
          simp
      · have h30 : k = 0 := by omega
        subst h30
        rw [Nat.add_zero] at hc0
        go_wp2
        refine wp_region_after (by kernel_rfl) (by kernel_rfl) (wr.heap.size) ?_
        repeat (go_big_quiet_step (fail))
        refine wpQuiet_nil ?_
        intro w2 hb2
        go_wp2
        refine ⟨⟨1, by omega, by go_num, hb.trans (hb2.mono hb.size), HYES.out ?_⟩, by simp [intOf]; omega⟩
        rw [HV.out, decide_eq_true (by omega : 1 ≤ x.length), decide_eq_true (by omega : x.length ≤ 12)]
        simp
    · have hkl : k = l.length := by omega
      go_wp2
      all_goals
        go_ret
        refine ⟨ret_bool ?_, hb⟩
        go_light
        rw [Sp.isVals, Sp.allTo_true fun j hj => hok.out j (by omega)]
        grind
end Go.Proofs.YtkcfmjlcijhieaaGreat
