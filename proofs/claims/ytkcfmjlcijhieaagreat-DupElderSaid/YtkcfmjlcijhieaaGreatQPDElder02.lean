/- Long values: how many pages, which sizes, the pieces. As many pages as may be, in plain Lean. Long values in a store of new pages, in plain Lean. Long values in the package's store: read, dropped. -/
import Derived.Test.YtkcfmjlcijhieaaGreatQB21
import Derived.Test.YtkcfmjlcijhieaaGreatQB23
import Derived.Test.YtkcfmjlcijhieaaGreatQB24
import Derived.Test.YtkcfmjlcijhieaaGreatQB25
import Derived.Test.YtkcfmjlcijhieaaGreatQPDElder01
set_option linter.unusedSimpArgs false
set_option linter.unusedVariables false
namespace Go.Proofs.YtkcfmjlcijhieaaGreat
open Go.RowKit
attribute [local go_sem low] mk_extract
attribute [local go_sem] After.cell After.frozen mk_extract_end ByteArray.mk_append_mk
open Go.Conc
set_option maxRecDepth 100000 in
set_option maxHeartbeats 1600000 in
theorem count_any (n : Int) (w : World) (h0 : -1000000 ≤ n) (h1 : n ≤ 1000000) :
    Calls Tryz.prog 46 #[.int .i64 n] w fun e w' => e = .returned (.int .i64 (Sp.cntO n)) ∧ w = w' := by
  by_cases h : n < 1
  · have HC := Lib.hid (show Sp.cntO n = 0 from if_pos h)
    go_enter Tryz.func46, Tryz.ntmps46
    go_wp2_with fail
    go_ret
    rw [HC.out]
    exact ⟨by simp, rfl⟩
  · have HC := Lib.hid (show Sp.cntO n = ((n - 1) / 100 + 1).toNat from if_neg h)
    have hq : (n - 1).tdiv 100 = (n - 1) / 100 := Int.tdiv_eq_ediv_of_nonneg (by omega)
    go_enter Tryz.func46, Tryz.ntmps46
    go_wp2_with fail
    go_ret
    rw [HC.out]
    refine ⟨?_, rfl⟩
    have : ((((n - 1) / 100 + 1).toNat : Nat) : Int) = (n - 1) / 100 + 1 := by omega
    rw [this]
    rfl
theorem longB_no1 {n : Int} (h : ¬ 12 < n) : Sp.longB n = false := by
  rcases hb : Sp.longB n with _ | _
  · rfl
  · exact absurd (Sp.longB_iff.1 hb).1 h
theorem longB_no2 {n : Int} (h : ¬ n ≤ 1000) : Sp.longB n = false := by
  rcases hb : Sp.longB n with _ | _
  · rfl
  · exact absurd (Sp.longB_iff.1 hb).2 h
set_option maxRecDepth 100000 in
set_option maxHeartbeats 1600000 in
theorem isLong_any (n : Int) (w : World) :
    Calls Tryz.prog 78 #[.int .i64 n] w fun e w' => e = .returned (.bool (Sp.longB n)) ∧ w = w' := by
  by_cases h : 12 < n
  · by_cases h2 : n ≤ 1000
    · have HL := Lib.hid (Sp.longB_iff.2 ⟨h, h2⟩)
      go_enter Tryz.func78, Tryz.ntmps78
      go_wp2_with fail
      go_ret
      rw [HL.out]
      exact ⟨by simp, rfl⟩
    · have HL := Lib.hid (longB_no2 h2)
      go_enter Tryz.func78, Tryz.ntmps78
      go_wp2_with fail
      go_ret
      rw [HL.out]
      exact ⟨by simp, rfl⟩
  · have HL := Lib.hid (longB_no1 h)
    go_enter Tryz.func78, Tryz.ntmps78
    go_wp2_with fail
    go_ret
    rw [HL.out]
    exact ⟨by simp, rfl⟩
theorem slice_take (R : Txt) (n : Int) (h0 : 0 ≤ n) (hn : n ≤ R.length) (hn2 : R.take n.toNat = R.take 100) (w : World) : (Instr.slice 9 (.string ⟨R.toArray⟩) none (some (.int .i64 n)) none).run Tryz.prog w = .ok (.string ⟨(R.take 100).toArray⟩) w := by
  rw [run_slice_string_to_if w 9 ⟨R.toArray⟩ .i64 n Tryz.underlying9]
  rw [if_pos ⟨h0, (show n ≤ ((ByteArray.mk R.toArray).size : Int) from hn)⟩, mk_extract, List.drop_zero, Nat.sub_zero, hn2]
theorem mkChanT0 (w : World) : (Instr.makeChan 178 (.int .i64 0)).run Tryz.prog w = .ok (.chan (some w.heap.size)) (w.alloc (.chan 0 #[] false 0 0 false)) := by kernel_rfl
theorem mkChanT1 (w : World) : (Instr.makeChan 178 (.int .i64 1)).run Tryz.prog w = .ok (.chan (some w.heap.size)) (w.alloc (.chan 1 #[] false 0 0 false)) := by kernel_rfl
theorem mkChanT2 (w : World) : (Instr.makeChan 178 (.int .i64 2)).run Tryz.prog w = .ok (.chan (some w.heap.size)) (w.alloc (.chan 2 #[] false 0 0 false)) := by kernel_rfl
theorem mkChanT3 (w : World) : (Instr.makeChan 178 (.int .i64 3)).run Tryz.prog w = .ok (.chan (some w.heap.size)) (w.alloc (.chan 3 #[] false 0 0 false)) := by kernel_rfl
theorem mkChanT4 (w : World) : (Instr.makeChan 178 (.int .i64 4)).run Tryz.prog w = .ok (.chan (some w.heap.size)) (w.alloc (.chan 4 #[] false 0 0 false)) := by kernel_rfl
theorem mkChanT5 (w : World) : (Instr.makeChan 178 (.int .i64 5)).run Tryz.prog w = .ok (.chan (some w.heap.size)) (w.alloc (.chan 5 #[] false 0 0 false)) := by kernel_rfl
theorem mkChanT6 (w : World) : (Instr.makeChan 178 (.int .i64 6)).run Tryz.prog w = .ok (.chan (some w.heap.size)) (w.alloc (.chan 6 #[] false 0 0 false)) := by kernel_rfl
theorem mkChanT7 (w : World) : (Instr.makeChan 178 (.int .i64 7)).run Tryz.prog w = .ok (.chan (some w.heap.size)) (w.alloc (.chan 7 #[] false 0 0 false)) := by kernel_rfl
theorem mkChanT8 (w : World) : (Instr.makeChan 178 (.int .i64 8)).run Tryz.prog w = .ok (.chan (some w.heap.size)) (w.alloc (.chan 8 #[] false 0 0 false)) := by kernel_rfl
theorem mkChanT9 (w : World) : (Instr.makeChan 178 (.int .i64 9)).run Tryz.prog w = .ok (.chan (some w.heap.size)) (w.alloc (.chan 9 #[] false 0 0 false)) := by kernel_rfl
theorem mkChanT10 (w : World) : (Instr.makeChan 178 (.int .i64 10)).run Tryz.prog w = .ok (.chan (some w.heap.size)) (w.alloc (.chan 10 #[] false 0 0 false)) := by kernel_rfl
theorem mkChanT (n : Nat) (h : n ≤ 10) (w : World) : (Instr.makeChan 178 (.int .i64 n)).run Tryz.prog w = .ok (.chan (some w.heap.size)) (w.alloc (.chan n #[] false 0 0 false)) := by
  have h2 : n = 0 ∨ n = 1 ∨ n = 2 ∨ n = 3 ∨ n = 4 ∨ n = 5 ∨ n = 6 ∨ n = 7 ∨ n = 8 ∨ n = 9 ∨ n = 10 := by omega
  rcases h2 with rfl | rfl | rfl | rfl | rfl | rfl | rfl | rfl | rfl | rfl | rfl
  · exact mkChanT0 w
  · exact mkChanT1 w
  · exact mkChanT2 w
  · exact mkChanT3 w
  · exact mkChanT4 w
  · exact mkChanT5 w
  · exact mkChanT6 w
  · exact mkChanT7 w
  · exact mkChanT8 w
  · exact mkChanT9 w
  · exact mkChanT10 w
def strLen : Value → Nat
  | .string s => s.size
  | _ => 0
/-- The pieces that are sent so far. -/
def pcs (T : Txt) (k : Nat) : Array Value := ((List.range k).map fun j => tv (Sp.piece T j)).toArray
theorem pcs_succ (T : Txt) (k : Nat) : pcs T (k + 1) = (pcs T k).push (tv (Sp.piece T k)) := by
  unfold pcs
  rw [List.range_succ, List.map_append]
  simp
theorem pcs_size (T : Txt) (k : Nat) : (pcs T k).size = k := by simp [pcs]
set_option maxRecDepth 100000 in
set_option maxHeartbeats 1600000 in
theorem pieces_any (T : Txt) (hT : T.length ≤ 1000) (w : World) :
    Calls Tryz.prog 79 #[.string ⟨T.toArray⟩] w fun e w' => ∃ c cap sq qq, e = .returned (.chan (some c)) ∧ w.heap.size ≤ c ∧ w'.heap[c]? = some (.chan cap (pcs T (Sp.cntO T.length)) false sq qq false) ∧ Below w.heap.size w w' := by
  have hcb : Sp.cntO T.length ≤ 10 := by rw [Sp.cntO_nat]; omega
  have HCN := Lib.hid (show T.length ≤ 100 * Sp.cntO T.length ∧ 100 * Sp.cntO T.length < T.length + 100 from by rw [Sp.cntO_nat]; omega)
  have hmk := fun w => mkChanT (Sp.cntO T.length) hcb w
  have HC := Lib.hid (count_any T.length w (by omega) (by omega))
  generalize Sp.cntO T.length = c at *
  go_enter Tryz.func79, Tryz.ntmps79
  go_upto_region 2 with (go_at_call 46; refine HC.out.mono ?_; rintro e w1 ⟨rfl, rfl⟩)
  have hb1 : Below w.heap.size w (w.alloc (.chan c #[] false 0 0 false)) := (Below.refl _ _).alloc (Nat.le_refl _) _
  have hch1 : ∃ s q, (w.alloc (.chan c #[] false 0 0 false)).heap[w.heap.size]? = some (.chan c (pcs T 0) false s q false) := ⟨0, 0, heap_alloc_new w _⟩
  have hcw : w.heap.size < (w.alloc (.chan c #[] false 0 0 false)).heap.size := by rw [World.size_alloc]; omega
  have HB := Lib.hid hb1
  have HCH := Lib.hid hch1
  have HCW := Lib.hid hcw
  clear hb1 hch1 hcw hmk
  generalize w.alloc (.chan c #[] false 0 0 false) = W1 at *
  go_loopw [0] (fun v wr => ∃ k : Nat, k ≤ c ∧ v = .string ⟨(T.drop (100 * k)).toArray⟩ ∧ Below w.heap.size w wr ∧ w.heap.size < wr.heap.size ∧ ∃ s q, wr.heap[w.heap.size]? = some (.chan c (pcs T k) false s q false)) (fun v _ => strLen v)
  case atStart => exact ⟨0, by omega, rfl, HB.out, HCW.out, HCH.out⟩
  case round =>
    obtain ⟨k, hk, rfl, hb, hcw, hch⟩ := hrel
    have B := Lib.hid hb
    have CW := Lib.hid hcw
    have CH := Lib.hid hch
    clear hb hcw hch HB HCH HCW
    by_cases hkc : k < c
    · have hlt : 100 * k < T.length := by have := HCN.out; omega
      have HP := Lib.hid (show (T.drop (100 * k)).take 100 = Sp.piece T k from rfl)
      have HD := Lib.hid (show (T.drop (100 * k)).drop 100 = T.drop (100 * (k + 1)) from by rw [List.drop_drop]; congr 1)
      have hRl : (T.drop (100 * k)).length = T.length - 100 * k := by rw [List.length_drop]
      generalize T.drop (100 * k) = R at *
      have hR0 : R.isEmpty = false := by
        rcases R with _ | _
        · simp at hRl; omega
        · rfl
      have hRn : 0 < R.length := by omega
      clear hRl
      have HDR := Lib.hid (show R.drop (min (R.length : Int) 100).toNat = R.drop 100 from by
        by_cases h : R.length ≤ 100
        · rw [List.drop_eq_nil_of_le (by omega), List.drop_eq_nil_of_le h]
        · congr 1; omega)
      go_upto_region 4 with fail
      obtain ⟨sq, qq, hc⟩ := CH.out
      have HSL := Lib.hid (slice_take R (min (R.length : Int) 100) (by omega) (by omega) (by
        by_cases h : R.length ≤ 100
        · rw [List.take_of_length_le (by omega), List.take_of_length_le h]
        · congr 1; omega) wr)
      refine InReg.region ?_
      show InReg _ _ _ [0, 1, 2, 3, 4] _ _
      refine InReg.val (w' := wr) (v := .chan (some w.heap.size)) rfl rfl (by simp [go_sem, execOp, Act.eval]) ?_
      refine InReg.val (w' := wr) (v := .string ⟨R.toArray⟩) rfl rfl (by simp [go_sem, execOp, Act.eval, Act.put]) ?_
      refine InReg.val (w' := wr) (v := .int .i64 (min (R.length : Int) 100)) rfl rfl (by simp [go_sem, execOp, Act.eval, Act.put]) ?_
      refine InReg.val (w' := wr) (v := .string ⟨(R.take 100).toArray⟩) rfl rfl (by
        have h := HSL.out
        simp [go_sem, execOp, Act.eval, Act.put, h]) ?_
      refine InReg.send (w' := wr) (c := w.heap.size) (v := .string ⟨(R.take 100).toArray⟩) (z := .tuple #[]) rfl rfl (by simp [go_sem, execOp, scase, Act.eval, Act.put]) hc (by rw [pcs_size]; exact hkc) ?_
      refine InReg.nil ?_
      have hpu : (pcs T k).push (.string ⟨(R.take 100).toArray⟩) = pcs T (k + 1) := by rw [pcs_succ, HP.out]; rfl
      rw [hpu]
      have HB3 := Lib.hid (below_setChan B.out (Nat.le_refl _) c (pcs T (k + 1)) false (sq + 1) qq false)
      have HCH3 := Lib.hid (show ∃ s q, (wr.setChan w.heap.size c (pcs T (k + 1)) false (sq + 1) qq false).heap[w.heap.size]? = some (.chan c (pcs T (k + 1)) false s q false) from ⟨sq + 1, qq, heap_setChan _ _ _ _ _ _ _ _ CW.out⟩)
      have HCW3 := Lib.hid (show w.heap.size < (wr.setChan w.heap.size c (pcs T (k + 1)) false (sq + 1) qq false).heap.size from by rw [size_setChan]; exact CW.out)
      clear hpu hc CH CW B HSL
      generalize wr.setChan w.heap.size c (pcs T (k + 1)) false (sq + 1) qq false = W3 at *
      go_wp2_with fail
      go_roundw
      case rel => exact ⟨k + 1, by omega, by rw [← HD.out, ← HDR.out], HB3.out, HCW3.out, HCH3.out⟩
      case measure =>
        show (R.drop (min (R.length : Int) 100).toNat).length < R.length
        rw [List.length_drop]
        omega
    · obtain rfl : k = c := by omega
      have HNIL := Lib.hid (show T.drop (100 * k) = [] from List.drop_eq_nil_of_le HCN.out.1)
      rw [HNIL.out]
      go_wp2_with fail
      go_ret
      obtain ⟨sq, qq, hc⟩ := CH.out
      exact ⟨w.heap.size, k, sq, qq, by simp, Nat.le_refl _, hc, B.out⟩
end Go.Proofs.YtkcfmjlcijhieaaGreat
namespace Go.Proofs.YtkcfmjlcijhieaaGreat
open Go.RowKit
attribute [local go_sem low] mk_extract
attribute [local go_sem] After.cell After.frozen mk_extract_end ByteArray.mk_append_mk
namespace Sp
theorem putD_new {α : Type} {D : List (Int × α)} {i : Int} {v : α} (h : lookD D i = none) : putD D i v = D ++ [(i, v)] := by
  unfold putD
  rw [if_neg (by rw [h]; simp)]
theorem delD_one {α : Type} {D : List (Int × α)} {i : Int} {v : α} (hn : (D.map (·.1)).Nodup) (h : lookD D i = some v) : (delD D i).length + 1 = D.length := by
  have hm := lookD_mem h
  obtain ⟨j, hj, e⟩ := List.getElem_of_mem hm
  rw [delD_at (v := v) (j := j) hn (by rw [List.getElem?_eq_getElem hj, e]), List.length_eraseIdx, if_pos hj]
  omega
/-- So many pages are made. -/
structure Full (k : Nat) (s : Sto) : Prop where
  ok : s.Ok
  avail : s.avail = []
  freed : s.freed = []
  last : s.last = 2 + k
  most : s.most = 400
  keys : s.d.map (·.1) = (List.range k).map fun j : Nat => 2 + (j : Int)
theorem Full.len {k : Nat} {s : Sto} (h : Full k s) : s.d.length = k := by
  have := congrArg List.length h.keys
  simpa using this
theorem Full.zero : Full 0 (Sto.new 2 400 []) := ⟨Sto.new_ok 2 400 [], rfl, rfl, rfl, rfl, rfl⟩
theorem Full.add {k : Nat} {s : Sto} (h : Full k s) (hk : k < 120) {p : Page} (hp : isPage p = true) : s.add p = ((2 + (k : Int), none), { s with last := s.last + 1, d := putD s.d s.last p }) ∧ Full (k + 1) { s with last := s.last + 1, d := putD s.d s.last p } := by
  have hl := h.len
  have hla := h.last
  have hmo := h.most
  have e := Sto.add_last (p := p) h.avail hp (by omega) (by omega)
  have hno : lookD s.d s.last = none := lookD_none.2 fun x hx e => by
    have : x.1 ∈ s.d.map (·.1) := List.mem_map.2 ⟨x, hx, rfl⟩
    rw [h.keys] at this
    obtain ⟨j, hj, e2⟩ := List.mem_map.1 this
    have := List.mem_range.1 hj
    omega
  have hok := h.ok.add p
  rw [e] at hok
  refine ⟨by rw [e, hla], hok, h.avail, h.freed, by show s.last + 1 = _; rw [hla]; omega, h.most, ?_⟩
  show (putD s.d s.last p).map (·.1) = _
  rw [putD_new hno, List.map_append, h.keys, List.range_succ, List.map_append, hla]
  rfl
theorem Full.more {s : Sto} (h : Full 120 s) {p : Page} (hp : isPage p = true) : s.add p = ((0, some 17), s) ∧ s.run 1 = ((0, some 17), s) := by
  have hl := h.len
  have e : s.numbers 1 = ((0, some 17), s) := by
    unfold Sto.numbers
    rw [if_pos (by omega)]
  refine ⟨by rw [s.add_yes p hp, e], ?_⟩
  rw [s.run_mid 1 (by omega) (by omega), e]
theorem Full.drop {s : Sto} (h : Full 120 s) {j : Nat} (hj : j < 120) : ∃ q, lookD s.d (2 + (j : Int)) = some q ∧ s.drop (2 + (j : Int)) = { s with d := delD s.d (2 + (j : Int)), avail := [2 + (j : Int)] } ∧ (delD s.d (2 + (j : Int))).length = 119 := by
  have hm : 2 + (j : Int) ∈ s.d.map (·.1) := by
    rw [h.keys]
    exact List.mem_map.2 ⟨j, List.mem_range.2 hj, rfl⟩
  obtain ⟨x, hx, hxe⟩ := List.mem_map.1 hm
  have hq : lookD s.d (2 + (j : Int)) = some x.2 := lookD_of_mem h.ok.nodup (by rw [← hxe]; exact hx)
  have hl := h.len
  have := delD_one h.ok.nodup hq
  refine ⟨x.2, hq, ?_, by omega⟩
  rw [s.drop_made _ _ hq, h.avail]
  rfl
end Sp
end Go.Proofs.YtkcfmjlcijhieaaGreat
namespace Go.Proofs.YtkcfmjlcijhieaaGreat
open Go.RowKit
attribute [local go_sem low] mk_extract
attribute [local go_sem] After.cell After.frozen mk_extract_end ByteArray.mk_append_mk
namespace Sp
theorem lookD_del {α : Type} (D : List (Int × α)) (i j : Int) : lookD (delD D i) j = if j = i then none else lookD D j := by
  unfold lookD delD
  by_cases h : j = i
  · subst h
    rw [if_pos rfl, List.find?_eq_none.2]
    · rfl
    · intro x hx
      have := (List.mem_filter.1 hx).2
      simpa using this
  · rw [if_neg h, List.find?_filter]
    congr 1
    refine congrArg (fun p => D.find? p) (funext fun x => ?_)
    by_cases hx : x.1 = j
    · simp [hx, h]
    · simp [hx]
theorem runD_keys {d : List (Int × Page)} {id : Int} : ∀ {k : Nat}, (∀ j : Nat, j < k → lookD d (id + j) = none) → (runD d id k).map (·.1) = d.map (·.1) ++ (List.range k).map fun j : Nat => id + (j : Int)
  | 0, _ => by simp [runD]
  | k + 1, h => by
    show (putD (runD d id k) (id + k) pg0).map (·.1) = _
    have e : lookD (runD d id k) (id + k) = none := by
      rw [lookD_run, if_neg (by omega)]
      exact h k (by omega)
    rw [putD_keys, if_neg (by rw [e]; simp), runD_keys fun j hj => h j (by omega), List.range_succ, List.map_append, List.append_assoc]
    rfl
theorem Sto.Ok.keys_eq {s : Sto} (h : s.Ok) {d' : List (Int × Page)} (e : d'.map (·.1) = s.d.map (·.1)) : ({ s with d := d' } : Sto).Ok :=
  { h with
    nodup := by show (d'.map (·.1)).Nodup; rw [e]; exact h.nodup
    keys := fun x hx => by
      have : x.1 ∈ d'.map (·.1) := List.mem_map.2 ⟨x, hx, rfl⟩
      rw [e] at this
      obtain ⟨y, hy, e2⟩ := List.mem_map.1 this
      rw [← e2]
      exact h.keys y hy
    cnt := by
      show d'.length ≤ 120
      have := congrArg List.length e
      rw [List.length_map, List.length_map] at this
      rw [this]
      exact h.cnt }
theorem Full.none_ {n : Nat} {s : Sto} (h : Full n s) {x : Int} (hx : 2 + (n : Int) ≤ x) : lookD s.d x = none := lookD_none.2 fun y hy e => by
  have : y.1 ∈ s.d.map (·.1) := List.mem_map.2 ⟨y, hy, rfl⟩
  rw [h.keys] at this
  obtain ⟨j, hj, e2⟩ := List.mem_map.1 this
  have := List.mem_range.1 hj
  omega
theorem Full.dirty {n : Nat} {s : Sto} (h : Full n s) : s.dirty = (List.range n).map fun j : Nat => 2 + (j : Int) := by
  unfold Sto.dirty
  rw [h.keys]
  refine List.mergeSort_of_pairwise ?_
  refine List.pairwise_map.2 (List.Pairwise.imp ?_ List.pairwise_lt_range)
  intro a b hab
  exact decide_eq_true (by omega)
theorem runI_nil (n : Nat) : runI [] n = none := runI_none (l := []) fun i hi => absurd hi (Nat.not_lt_zero i)
theorem cntO_le {T : Txt} (h : longB T.length = true) : 1 ≤ cntO T.length ∧ cntO T.length ≤ 10 ∧ T.length ≤ 100 * cntO T.length ∧ 100 * cntO T.length < T.length + 100 := by
  have := longB_iff.1 h
  rw [cntO_nat]
  omega
theorem Full.write {n : Nat} {s : Sto} (h : Full n s) {T : Txt} (hT : longB T.length = true) (hn : n + cntO T.length ≤ 120) :
    ∃ s1, s.write T = ((2 + (n : Int), none), s1) ∧ Full (n + cntO T.length) s1 ∧ ∀ x, lookD s1.d x = if 2 + (n : Int) ≤ x ∧ x < 2 + (n : Int) + cntO T.length then some (ovPg (piece T (x - (2 + (n : Int))).toNat)) else lookD s.d x := by
  have hc := cntO_le hT
  have hlen := h.len
  have hno : ∀ j : Nat, j < cntO T.length → lookD s.d (s.last + j) = none := fun j _ => h.none_ (by rw [h.last]; omega)
  have hr : s.run (cntO T.length) = ((s.last, none), { s with last := s.last + cntO T.length, d := runD s.d s.last (cntO T.length) }) := by
    rw [s.run_mid _ (by omega) (by omega)]
    unfold Sto.numbers
    rw [if_neg (by omega), h.avail, runI_nil]
    dsimp only
    rw [if_neg (by have := h.last; have := h.most; omega), Int.toNat_natCast, ← h.avail]
  have hok := h.ok.run (cntO T.length)
  rw [hr] at hok
  have hks := runD_keys hno
  have hsome : ∀ j : Nat, j < cntO T.length → (lookD (runD s.d s.last (cntO T.length)) (s.last + j)).isSome = true := fun j hj => by
    rw [lookD_run, if_pos (by omega)]; rfl
  have hfk := fillD_keys (T := T) hsome
  have hw : s.write T = ((s.last, none), { s with last := s.last + cntO T.length, d := fillD (runD s.d s.last (cntO T.length)) s.last T (cntO T.length) }) := by
    unfold Sto.write
    rw [if_neg (by rw [hT]; simp), hr]
  refine ⟨{ s with last := s.last + cntO T.length, d := fillD (runD s.d s.last (cntO T.length)) s.last T (cntO T.length) }, hw.trans (congrArg (fun z : Int => ((z, (none : Option Int)), ({ s with last := s.last + cntO T.length, d := fillD (runD s.d s.last (cntO T.length)) s.last T (cntO T.length) } : Sto))) h.last), ⟨hok.keys_eq hfk, h.avail, h.freed, ?_, h.most, ?_⟩, fun x => ?_⟩
  · show s.last + _ = _
    have := h.last
    omega
  · show (fillD _ _ T _).map (·.1) = _
    rw [hfk, hks, h.keys, List.range_add, List.map_append, List.map_map]
    congr 1
    refine List.map_congr_left fun j _ => ?_
    show s.last + j = 2 + ((n + j : Nat) : Int)
    have := h.last
    omega
  · show lookD (fillD _ _ T _) x = _
    rw [lookD_fill, lookD_run, h.last]
    by_cases hx : 2 + (n : Int) ≤ x ∧ x < 2 + (n : Int) + cntO T.length
    · rw [if_pos hx, if_pos hx]
    · rw [if_neg hx, if_neg hx, if_neg hx]
theorem Sto.write_short {s : Sto} {T : Txt} (h : longB T.length = false) : s.write T = ((0, some 22), s) := by
  unfold Sto.write
  rw [if_pos h]
theorem readTo_is {s : Sto} {V : List Txt} {run : Int} {T : Txt} (h2 : 2 ≤ run) (hm : run + cntO T.length ≤ s.most) (hl : ∀ m : Nat, m < cntO T.length → lookD s.d (run + m) = some (ovPg (piece T m))) :
    ∀ k : Nat, k ≤ cntO T.length → readTo s V run T.length k = (T.take (100 * k), none)
  | 0, _ => by simp [readTo]
  | k + 1, hk => by
    unfold readTo
    rw [readTo_is h2 hm hl k (by omega)]
    have e : s.read V (run + k) = (ovPg (piece T k), none) := by
      unfold Sto.read
      rw [if_neg (by omega), hl k (by omega)]
      rfl
    rw [e]
    dsimp only
    have hc : (ovPg (piece T k)).kind = 3 ∧ ((ovPg (piece T k)).text.length : Int) = min ((T.length : Int) - 100 * k) 100 := by
      refine ⟨rfl, ?_⟩
      show ((piece T k).length : Int) = _
      have := piece_len T k
      have : 100 * k < T.length := by rw [cntO_nat] at hk; omega
      omega
    rw [if_pos hc]
    show (T.take (100 * k) ++ piece T k, none) = _
    rw [piece_take]
theorem readO_is {s : Sto} {V : List Txt} {run : Int} {T : Txt} (hT : longB T.length = true) (h2 : 2 ≤ run) (hm : run + cntO T.length ≤ s.most) (hl : ∀ m : Nat, m < cntO T.length → lookD s.d (run + m) = some (ovPg (piece T m))) :
    s.readO V run T.length = (T, none) := by
  unfold Sto.readO
  rw [if_neg (by rw [hT]; simp), readTo_is h2 hm hl _ (Nat.le_refl _), List.take_of_length_le (cntO_le hT).2.2.1]
/-- A run's pages are dropped, so many of them. -/
structure Dropped (s0 : Sto) (run : Int) (k : Nat) (s : Sto) : Prop where
  ok : s.Ok
  avail : s.avail.length = k ∧ ∀ x ∈ s.avail, run ≤ x ∧ x < run + k
  len : s.d.length + k = s0.d.length
  most : s.most = s0.most
  look : ∀ x, lookD s.d x = if run ≤ x ∧ x < run + k then none else lookD s0.d x
theorem Dropped.zero {s0 : Sto} {run : Int} (h : s0.Ok) (ha : s0.avail = []) : Dropped s0 run 0 s0 :=
  ⟨h, ⟨by rw [ha]; rfl, by rw [ha]; intro x hx; cases hx⟩, rfl, rfl, fun x => by rw [if_neg (by omega)]⟩
theorem Dropped.step {s0 s : Sto} {run : Int} {k : Nat} (h : Dropped s0 run k s) (hs : (lookD s0.d (run + k)).isSome = true) : Dropped s0 run (k + 1) (s.drop (run + k)) := by
  have hok := h.ok.drop (run + k)
  obtain ⟨q, hq⟩ := Option.isSome_iff_exists.1 hs
  have hq2 : lookD s.d (run + k) = some q := by rw [h.look, if_neg (by omega), hq]
  rw [s.drop_made _ _ hq2] at hok ⊢
  have hni : run + (k : Int) ∉ s.avail := fun hm => by have := h.avail.2 _ hm; omega
  refine ⟨hok, ⟨?_, fun x hx => ?_⟩, ?_, h.most, fun x => ?_⟩
  · show (insI (run + k) s.avail).length = k + 1
    unfold insI
    rw [if_neg hni, List.length_append, List.length_cons, List.length_take, List.length_drop]
    have := h.avail.1
    omega
  · rcases mem_insI.1 hx with rfl | hx
    · omega
    · have := h.avail.2 _ hx; omega
  · show (delD s.d (run + k)).length + (k + 1) = _
    have := delD_one h.ok.nodup hq2
    have := h.len
    omega
  · show lookD (delD s.d (run + k)) x = _
    rw [lookD_del, h.look]
    by_cases e : x = run + k
    · rw [if_pos e, if_pos (by omega)]
    · rw [if_neg e]
      by_cases h2 : run ≤ x ∧ x < run + k
      · rw [if_pos h2, if_pos (by omega)]
      · rw [if_neg h2, if_neg (by omega)]
theorem dropTo_is {s : Sto} {run : Int} (h : s.Ok) (ha : s.avail = []) : ∀ {k : Nat}, (∀ j : Nat, j < k → (lookD s.d (run + j)).isSome = true) → Dropped s run k (dropTo s run k)
  | 0, _ => Dropped.zero h ha
  | k + 1, hk => (dropTo_is h ha fun j hj => hk j (by omega)).step (hk k (by omega))
end Sp
end Go.Proofs.YtkcfmjlcijhieaaGreat
namespace Go.Proofs.YtkcfmjlcijhieaaGreat
open Go.RowKit
attribute [local go_sem low] mk_extract
attribute [local go_sem] After.cell After.frozen mk_extract_end ByteArray.mk_append_mk
open Go.Conc
namespace Sp
theorem readTo_step {s : Sto} {V : List Txt} {run n : Int} {k : Nat} {t : Txt} (h : readTo s V run n k = (t, none)) : readTo s V run n (k + 1) = match s.read V (run + k) with
      | (_, some e) => ([], some e)
      | (p, none) => if p.kind = 3 ∧ (p.text.length : Int) = min (n - 100 * k) 100 then (t ++ p.text, none) else ([], some 12) := by
  show (match readTo s V run n k with
    | (_, some e) => ([], some e)
    | (t, none) => match s.read V (run + k) with
      | (_, some e) => ([], some e)
      | (p, none) => if p.kind = 3 ∧ (p.text.length : Int) = min (n - 100 * k) 100 then (t ++ p.text, none) else ([], some 12)) = _
  rw [h]
theorem dropTo_ok {s : Sto} (h : s.Ok) (run : Int) : ∀ k : Nat, (dropTo s run k).Ok
  | 0 => h
  | k + 1 => (dropTo_ok h run k).drop (run + k)
end Sp
theorem wpList_gen9 {P : Program} {ops rest : _} {a : Act} {w : World} {Q : Exit → Act → World → Prop} (R : World → Prop) (hR : R w) (h : ∀ W, R W → wpList P ops Q rest a W) : wpList P ops Q rest a w := h w hR
set_option maxRecDepth 100000 in
set_option maxHeartbeats 1600000 in
theorem odrop_any (M : Nat → Prop) (t f m d : Nat) (fv : Value) (V : List Txt) (s : Sp.Sto) (run n : Int) (w : World) (h : StAt w M t f m d fv V s) (hok : s.Ok) (hn : -1000000 ≤ n ∧ n ≤ 1000000) (hr : -1000000 ≤ run ∧ run ≤ 1000000) :
    Calls Tryz.prog 48 #[.pointer (some ⟨t, 0, none⟩), .int .i64 run, .int .i64 n] w fun e w' => e = .returned (.tuple #[]) ∧ StAt w' M t f m d fv V (Sp.dropTo s run (Sp.cntO n)) ∧ Chg (TwoM t d) w w' := by
  have H := Lib.hid h
  have HC := Lib.hid (count_any n w hn.1 hn.2)
  have HCB := Lib.hid (show Sp.cntO n ≤ 10001 from by unfold Sp.cntO; split <;> omega)
  clear h hn
  generalize Sp.cntO n = c at *
  have hcb := HCB.out
  go_enter Tryz.func48, Tryz.ntmps48
  go_upto_region 1 with (go_at_call 46; refine HC.out.mono ?_; rintro e w1 ⟨rfl, rfl⟩)
  go_loopw [9] (fun i wr => ∃ k : Nat, k ≤ c ∧ i = .int .i64 k ∧ StAt wr M t f m d fv V (Sp.dropTo s run k) ∧ Chg (TwoM t d) w wr) (fun i _ => c - (intOf i).toNat)
  case atStart => exact ⟨0, by omega, rfl, H.out, Chg.refl _ _⟩
  case round =>
    obtain ⟨k, hk, rfl, hs, hck⟩ := hrel
    have S := Lib.hid hs
    have CK := Lib.hid hck
    clear hs hck
    by_cases hkc : k < c
    · have HD := Lib.hid (stoDrop_any M t f m d fv V (Sp.dropTo s run k) (run + k) wr S.out (Sp.dropTo_ok hok run k))
      go_wp2_with (go_at_call 34; refine HD.out.mono ?_; rintro e w2 ⟨rfl, hst2, hk2⟩; have S2 := Lib.hid hst2; have CK2 := Lib.hid (CK.out.trans hk2); clear hst2 hk2)
      go_roundw
      case rel => exact ⟨k + 1, by omega, by go_num, S2.out, CK2.out⟩
      case measure => simp [intOf]; omega
    · obtain rfl : k = c := by omega
      go_wp2_with fail
      go_end0
      exact ⟨by simp, S.out, CK.out⟩
set_option maxRecDepth 100000 in
set_option maxHeartbeats 1600000 in
theorem oread_any (M : Nat → Prop) (t f m d : Nat) (fv : Value) (V : List Txt) (s : Sp.Sto) (run n : Int) (w : World) (h : StAt w M t f m d fv V s) (hok : s.Ok) (hV : V.length ≤ 400) (hn : -1000000 ≤ n ∧ n ≤ 1000000) (hr : -1000000 ≤ run ∧ run ≤ 1000000) :
    Calls Tryz.prog 47 #[.pointer (some ⟨t, 0, none⟩), .int .i64 run, .int .i64 n] w fun e w' => e = .returned (.tuple #[.string ⟨(s.readO V run n).1.toArray⟩, erO (s.readO V run n).2]) ∧ Below w.heap.size w w' := by
  have H := Lib.hid h
  have HL := Lib.hid (isLong_any n w)
  rcases hlb : Sp.longB n with _ | _
  · have HR := Lib.hid (show s.readO V run n = ([], some 22) from if_pos hlb)
    rw [hlb] at HL
    clear h
    go_enter Tryz.func47, Tryz.ntmps47
    go_wp2_with (go_at_call 78; refine HL.out.mono ?_; rintro e w1 ⟨rfl, rfl⟩)
    refine bodyPost_ret (v := .tuple #[.string ⟨#[]⟩, erO (some 22)]) (by simp [results, Tryz.results47, go_sem, erO]) rfl ⟨by rw [HR.out], Below.refl _ _⟩
  · have HR := Lib.hid (show s.readO V run n = Sp.readTo s V run n (Sp.cntO n) from if_neg (by rw [hlb]; simp))
    rw [hlb] at HL
    have hnb := Sp.longB_iff.1 hlb
    have HC := Lib.hid (count_any n w hn.1 hn.2)
    have HCB := Lib.hid (show Sp.cntO n ≤ 10 ∧ n ≤ 100 * (Sp.cntO n : Int) from by unfold Sp.cntO; split <;> omega)
    clear h hlb
    generalize Sp.cntO n = c at *
    have hcb := HCB.out
    go_enter Tryz.func47, Tryz.ntmps47
    go_upto_region 5 with (first
      | (go_at_call 78; refine HL.out.mono ?_; rintro e w1 ⟨rfl, rfl⟩)
      | (go_at_call 46; refine HC.out.mono ?_; rintro e w1 ⟨rfl, rfl⟩))
    go_loopw [8, 18] (fun o i wr => ∃ (k : Nat) (x : Txt), k ≤ c ∧ i = .int .i64 k ∧ o = .string ⟨x.toArray⟩ ∧ x.length ≤ 100 * k ∧ Sp.readTo s V run n k = (x, none) ∧ Below w.heap.size w wr) (fun _ i _ => c - (intOf i).toNat)
    case atStart => exact ⟨0, [], by omega, rfl, rfl, Nat.zero_le _, rfl, Below.refl _ _⟩
    case round =>
      obtain ⟨k, x, hk, rfl, rfl, hxk, hx, hb⟩ := hrel
      have HB := Lib.hid hb
      have HX := Lib.hid hx
      clear hb hx
      by_cases hkc : k < c
      · have HST := Lib.hid (Sp.readTo_step HX.out)
        have HRD := Lib.hid (stoRead_any M t f m d fv V s (run + k) wr (H.out.go HB.out) hok hV)
        rcases hrd : s.read V (run + k) with ⟨p, er⟩
        rw [hrd] at HRD HST
        rcases er with _ | e
        · dsimp only at HST HRD
          go_upto_region 8 with (first
            | (go_at_call 37; refine HRD.out.mono ?_; rintro e w2 ⟨r2, rfl, _, hb2⟩; rw [pv14]; have HB2 := Lib.hid (HB.out.trans (hb2.mono HB.out.size)); clear hb2; simp only [erO])
            | (refine wpList_new PageT _ _ rfl rfl rfl rfl rfl rfl _ rfl (of_decide_eq_true (by kernel_rfl)) (by kernel_rfl) (by kernel_rfl) (by kernel_rfl) ?_; refine wpList_gen9 (fun W => Below w.heap.size w W ∧ W.cell? ⟨w2.heap.size, 0, none⟩ = some (.int .i64 p.kind) ∧ W.cell? ⟨w2.heap.size, 4, none⟩ = some (.string ⟨p.text.toArray⟩)) ⟨HB2.out.alloc HB2.out.size _, (Blk.new w2 PageT _).cell 0, (Blk.new w2 PageT _).cell 4⟩ ?_; rintro w3 ⟨hb3, hc0, hc4⟩; have HB3 := Lib.hid hb3; clear hb3))
          clear HB2 HRD hrd
          by_cases hk3 : p.kind = 3
          · rw [hk3] at hc0
            by_cases hl : (p.text.length : Int) = min (n - 100 * k) 100
            · have HS2 := Lib.hid (HST.out.trans (if_pos ⟨hk3, hl⟩))
              clear HST
              have hxn : ¬ 9223372036854775807 < x.length + p.text.length := by omega
              go_wp2_with fail
              go_roundw
              case rel => exact ⟨k + 1, x ++ p.text, by omega, by go_num, by simp, by rw [List.length_append]; omega, HS2.out, HB3.out⟩
              case measure => simp [intOf]; omega
            · have HS2 := Lib.hid (HST.out.trans (if_neg fun h => hl h.2))
              have HS3 := Lib.hid (Sp.readTo_bad HS2.out (j := c) (by omega))
              clear HST HS2
              go_wp2_with fail
              try rw [Exit.noGoto_ret]
              refine bodyPost_ret (v := .tuple #[.string ⟨#[]⟩, erO (some 12)]) (by simp [results, Tryz.results47, go_sem, erO]) rfl ⟨by rw [HR.out, HS3.out], HB3.out⟩
          · have HS2 := Lib.hid (HST.out.trans (if_neg fun h => hk3 h.1))
            have HS3 := Lib.hid (Sp.readTo_bad HS2.out (j := c) (by omega))
            clear HST HS2
            go_wp2_with fail
            try rw [Exit.noGoto_ret]
            refine bodyPost_ret (v := .tuple #[.string ⟨#[]⟩, erO (some 12)]) (by simp [results, Tryz.results47, go_sem, erO]) rfl ⟨by rw [HR.out, HS3.out], HB3.out⟩
        · dsimp only at HST HRD
          have HS3 := Lib.hid (Sp.readTo_bad HST.out (j := c) (by omega))
          clear HST
          go_upto_region 8 with (first
            | (go_at_call 37; refine HRD.out.mono ?_; rintro e w2 ⟨r2, rfl, _, hb2⟩; rw [pv14]; have HB2 := Lib.hid (HB.out.trans (hb2.mono HB.out.size)); clear hb2; simp only [erO])
            | (refine wpList_new PageT _ _ rfl rfl rfl rfl rfl rfl _ rfl (of_decide_eq_true (by kernel_rfl)) (by kernel_rfl) (by kernel_rfl) (by kernel_rfl) ?_; refine wpList_gen9 (fun W => Below w.heap.size w W) (HB2.out.alloc HB2.out.size _) ?_; rintro w3 hb3; have HB3 := Lib.hid hb3; clear hb3))
          clear HB2 HRD hrd
          go_wp2_with fail
          try rw [Exit.noGoto_ret]
          refine bodyPost_ret (v := .tuple #[.string ⟨#[]⟩, erO (some e)]) (by simp [results, Tryz.results47, go_sem, erO]) rfl ⟨by rw [HR.out, HS3.out], HB3.out⟩
      · obtain rfl : k = c := by omega
        go_wp2_with fail
        try rw [Exit.noGoto_ret]
        refine bodyPost_ret (v := .tuple #[.string ⟨x.toArray⟩, erO none]) (by simp [results, Tryz.results47, go_sem, erO]) rfl ⟨by rw [HR.out, HX.out], HB.out⟩
end Go.Proofs.YtkcfmjlcijhieaaGreat
