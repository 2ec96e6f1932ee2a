/- A cell of a row of the call's own, read and set. More words for a walk: a struct stored inside a row; an append at a step of a region that draws. The document's numbers and texts as bytes, its sums, its small words. The document's vals. The document's item. -/
import Derived.Test.YtlpmjeiogdlifaaGreatQB00
import Derived.Test.YtlpmjeiogdlifaaGreatQB01
import Derived.Test.YtlpmjeiogdlifaaGreatQB03
import Derived.Test.YtlpmjeiogdlifaaGreatQB05
import Derived.Test.YtlpmjeiogdlifaaGreatQB06
import Derived.Test.YtlpmjeiogdlifaaGreatQB10
import Derived.Laws.CopyRow
import Derived.Laws.AppendOwn
import Derived.Laws.AppendOwnNone
import Derived.RegionTactic
import Derived.ChangeAlike
import Derived.BigRegion
import Derived.Deep.DeepCutAuto
set_option linter.unusedSimpArgs false
set_option linter.unusedVariables false
namespace Go.Proofs.YtlpmjeiogdlifaaGreat
open Go.RowKit
attribute [local go_sem low] mk_extract
attribute [local go_sem] After.cell After.frozen mk_extract_end ByteArray.mk_append_mk
theorem own_at {w : World} {base n : Nat} {e : TypeId} {g cap : Nat} {xs : List Value} (h : w.ownsRow base e 1 (.slice (some ⟨g, 0, none⟩) n cap) n xs) {j : Nat} (hj : j < n) : w.cell? ⟨g, j, none⟩ = some (xs.getD j undef) ∧ w.frozen? ⟨g, j, none⟩ = false := by
  rcases h.2 with ⟨h', _⟩ | ⟨g', cap', cur, hv, _, hh, hnc, _, hcs, ht⟩
  · cases h'
  · simp only [Value.slice.injEq, Option.some.injEq, Addr.mk.injEq] at hv
    obtain ⟨⟨rfl, _⟩, _, rfl⟩ := hv
    have hb : Blk w g e cur := hh
    refine ⟨(hb.cell j).trans ?_, hb.frozen j⟩
    have hjc : j < cur.size := by omega
    have : xs[j]? = cur[j]? := by
      rw [← ht, List.getElem?_take, if_pos (by omega), Array.getElem?_toList]
    rw [List.getD_eq_getElem?_getD, this, Array.getElem?_eq_getElem hjc]
    rfl
theorem own_set {w : World} {base n : Nat} {e : TypeId} {g cap : Nat} {xs : List Value} (h : w.ownsRow base e 1 (.slice (some ⟨g, 0, none⟩) n cap) n xs) {j : Nat} (u : Value) : (w.setCell ⟨g, j, none⟩ u).ownsRow base e 1 (.slice (some ⟨g, 0, none⟩) n cap) n (xs.set j u) := by
  rcases h.2 with ⟨h', _⟩ | ⟨g', cap', cur, hv, hb, hh, hnc, hm, hcs, ht⟩
  · cases h'
  · simp only [Value.slice.injEq, Option.some.injEq, Addr.mk.injEq] at hv
    obtain ⟨⟨rfl, _⟩, _, rfl⟩ := hv
    have hb2 : Blk w g e cur := hh
    refine ⟨by rw [List.length_set]; exact h.1, .inr ⟨g, cap, cur.setIfInBounds j u, rfl, hb, hb2.set_ j u, hnc, hm, by rw [Array.size_setIfInBounds]; exact hcs, ?_⟩⟩
    rw [← ht, Array.toList_setIfInBounds, List.take_set]
end Go.Proofs.YtlpmjeiogdlifaaGreat
namespace Go.Proofs.YtlpmjeiogdlifaaGreat
open Go.RowKit
attribute [local go_sem low] mk_extract
attribute [local go_sem] After.cell After.frozen mk_extract_end ByteArray.mk_append_mk
section
variable {P : Program}
theorem run_storeVar_at (w : World) (g off : Nat) (t ty : TypeId) (cur cells : Array Value) (hg : w.heap[g]? = some (.cells cur t (0, 0))) (hi : (P.info? ty).map (·.size) = some cells.size) (hl : off + cells.size ≤ cur.size) (h1 : cells.all (·.oneCell') = true) :
    (storeVar ty ⟨g, off, none⟩ (.agg cells)).run P w = .ok () (w.setRow g (cur.toList.take off ++ cells.toList ++ cur.toList.drop (off + cells.size)).toArray) := by
  have h := run_storeCells_at (P := P) g off t cells.toList 0 cur w hg (by simp; omega) (fun v hv => (Array.all_eq_true_iff_forall_mem.1 h1) v (by simpa using hv))
  cases hq : P.info? ty with
  | none => simp [hq] at hi
  | some i =>
    have hs : cells.size = i.size := by simp [hq] at hi; omega
    simp only [Nat.add_zero, Array.length_toList] at h
    simp [storeVar, sizeOf, typeInfo, hq, Value.cells, hs]
    simpa [hs] using h
theorem wpList_store_at {ops : Array Oper} {rest : List Oper} {o : Oper} {a : Act} {w : World} {Q : Exit → Act → World → Prop} (hgd : o.guard = none) (ty : TypeId) (x y : Operand) (ho : o.op = .store ty x y)
    (g off : Nat) (cells : Array Value) (hx : a.eval x = .pointer (some ⟨g, off, none⟩)) (hy : a.eval y = .agg cells)
    (t : TypeId) (cur : Array Value) (hg : w.heap[g]? = some (.cells cur t (0, 0))) (hi : (P.info? ty).map (·.size) = some cells.size)
    (hl : off + cells.size ≤ cur.size) (h1 : cells.all (·.oneCell') = true)
    (h : wpList P ops Q rest (a.put o.dst undef) (w.setRow g (cur.toList.take off ++ cells.toList ++ cur.toList.drop (off + cells.size)).toArray)) : wpList P ops Q (o :: rest) a w :=
  wpList_plain hgd fun _ hK => by
    unfold Oper.wp execOp
    simp only [ho, hx, hy, Instr.storeAt, Instr.sureAddr, Sem.run_bind, Sem.run_pure, Result.andThen_ok, run_storeVar_at w g off t ty cur cells hg hi hl h1]
    exact hK _ _ h
theorem step_append_own {ops : Array Oper} {o : Oper} {a : Act} {w : World} {K : Act → World → Prop} {Q : Exit → Act → World → Prop} {E : Prop} (hgd : o.guard = none) (s x : Operand) (t : TypeId)
    (ho : o.op = .call { callee := .builtin .append, args := #[s, x], argTypes := #[t, t] })
    (base : Nat) (e : TypeId) (i : TypeInfo) (z : Value) (size bytes : Nat) (ht : P.underlying t = some (.slice e)) (hi : P.info? e = some i) (hz : i.zero = some z)
    (hsize : i.size = size) (hby : i.bytes = bytes) (hzs : z.cells.size = size) (hsz : 0 < size)
    (v : Value) (n : Nat) (xs : List Value) (hs : a.eval s = v) (hown : w.ownsRow base e size v n xs)
    (ad : Addr) (m c : Nat) (news : List Value) (hx : a.eval x = .slice (some ad) m c) (hl : news.length = m * size) (hnews : ∀ j u, news[j]? = some u → w.cell? (ad.add j) = some u) (h1 : ∀ u ∈ news, u.oneCell' = true)
    (h63 : n + m ≤ maxLen) (hbytes : (n + m) * bytes ≤ 140737488355328) (hbase : base ≤ w.heap.size)
    (h : ∀ v' w', w'.ownsRow base e size v' (n + m) (xs ++ news) → w.grownBy w' v.ownBlock → (v' = .slice none 0 0 ↔ v = .slice none 0 0 ∧ m = 0) → K (a.put o.dst v') w') :
    if Region.wanted o (yielded ops a.tmps) = true then Oper.wp P o a w K Q else E := by
  have hw : Region.wanted o (yielded ops a.tmps) = true := by simp [Region.wanted, hgd]
  rw [if_pos hw]
  exact wp_append_own w s x t ho base e i z size bytes ht hi hz hsize hby hzs hsz v n xs hs hown ad m c news hx hl hnews h1 h63 hbytes hbase h
theorem step_append_none {ops : Array Oper} {o : Oper} {a : Act} {w : World} {K : Act → World → Prop} {Q : Exit → Act → World → Prop} {E : Prop} (hgd : o.guard = none) (s x : Operand) (t : TypeId)
    (ho : o.op = .call { callee := .builtin .append, args := #[s, x], argTypes := #[t, t] })
    (base : Nat) (e : TypeId) (i : TypeInfo) (size : Nat) (ht : P.underlying t = some (.slice e)) (hi : P.info? e = some i)
    (v : Value) (n : Nat) (xs : List Value) (hs : a.eval s = v) (hown : w.ownsRow base e size v n xs) (hx : a.eval x = .slice none 0 0)
    (h : K (a.put o.dst v) w) : if Region.wanted o (yielded ops a.tmps) = true then Oper.wp P o a w K Q else E := by
  have hw : Region.wanted o (yielded ops a.tmps) = true := by simp [Region.wanted, hgd]
  rw [if_pos hw]
  have hrun := run_append_owned_none (P := P) (w := w) base t o.type e i size ht hi v n xs hown
  unfold Oper.wp
  simp [execOp, ho, resolve, invoke, builtin, hs, hx, hrun, Result.andThen]
  exact h
end
end Go.Proofs.YtlpmjeiogdlifaaGreat
namespace Go.Proofs.YtlpmjeiogdlifaaGreat
open Go.RowKit
attribute [local go_sem low] mk_extract
attribute [local go_sem] After.cell After.frozen mk_extract_end ByteArray.mk_append_mk
set_option maxRecDepth 100000 in
set_option maxHeartbeats 1600000 in
theorem dNum_any (n : Int) (h0 : 0 ≤ n) (h1 : n < 18446744073709551616) (w : World) :
    Calls Tryz.prog 60 #[.int .u64 n] w fun e w' => e = .returned (.string ⟨(Sp.le8 n).toArray⟩) ∧ Below w.heap.size w w' := by
  have hmk : ∀ w, (Instr.makeSlice 22 (.int .i64 8) (.int .i64 8)).run Tryz.prog w = .ok (.slice (some ⟨w.heap.size, 0, none⟩) 8 8) (w.alloc (.cells #[.int .u8 0, .int .u8 0, .int .u8 0, .int .u8 0, .int .u8 0, .int .u8 0, .int .u8 0, .int .u8 0] 5)) := fun _ => by kernel_rfl
  have hcv := conv8
  go_enter Tryz.func60, Tryz.ntmps60
  go_wp2
  go_rounds 9
  go_ret
  refine ⟨?_, (Below.refl _ _).alloc (Nat.le_refl _) _⟩
  refine congrArg (fun s => Ending.returned (.string s)) ?_
  have h7 : n / 256 / 256 / 256 / 256 / 256 / 256 / 256 % 256 = n / 256 / 256 / 256 / 256 / 256 / 256 / 256 := by omega
  have e2 : n / 65536 = n / 256 / 256 := by omega
  have e3 : n / 16777216 = n / 256 / 256 / 256 := by omega
  have e4 : n / 4294967296 = n / 256 / 256 / 256 / 256 := by omega
  have e5 : n / 1099511627776 = n / 256 / 256 / 256 / 256 / 256 := by omega
  have e6 : n / 281474976710656 = n / 256 / 256 / 256 / 256 / 256 / 256 := by omega
  have e7 : n / 72057594037927936 = n / 256 / 256 / 256 / 256 / 256 / 256 / 256 := by omega
  rw [e2, e3, e4, e5, e6, e7]
  simp [Sp.le8, Sp.leN, h7]
set_option maxRecDepth 100000 in
set_option maxHeartbeats 400000 in
theorem dnum_any (n : Int) (h0 : 0 ≤ n) (h1 : n < 4611686018427387904) (w : World) :
    Calls Tryz.prog 56 #[.int .i64 n] w fun e w' => e = .returned (.string ⟨(Sp.le8 n).toArray⟩) ∧ Below w.heap.size w w' := by
  go_enter Tryz.func56, Tryz.ntmps56
  go_wp2_with (go_at_call 60; refine (dNum_any _ (by omega) (by omega) _).mono ?_; rintro e w' ⟨rfl, hb⟩)
  go_ret
  exact ⟨rfl, hb⟩
theorem conv2d (w : World) (x0 x1 : Int) : (convert 22 9 (.slice (some ⟨w.heap.size, 0, none⟩) 2 2)).run Tryz.prog ((w.alloc (.cells #[.int .u8 x0, .int .u8 x1] 5)).drew) =
    .ok (.string ⟨[UInt8.ofNat x0.toNat, UInt8.ofNat x1.toNat].toArray⟩) ((w.alloc (.cells #[.int .u8 x0, .int .u8 x1] 5)).drew) := conv2 w.drew x0 x1
set_option maxRecDepth 100000 in
set_option maxHeartbeats 400000 in
theorem dText_any (s : Txt) (w : World) :
    Calls Tryz.prog 58 #[.string ⟨s.toArray⟩] w fun e w' => e = .returned (.string ⟨(Sp.text s).toArray⟩) ∧ Below w.heap.size w w' := by
  have hcv := conv2d
  go_enter Tryz.func58, Tryz.ntmps58
  go_wp2
  all_goals go_region
  all_goals
    go_wp2
    go_ret
    refine ⟨?_, ((Below.refl _ _).alloc (Nat.le_refl _) _).drew⟩
    refine congrArg (fun s => Ending.returned (.string s)) ?_
    simp only [Sp.text, Sp.cutText]
    first
      | (rw [List.take_of_length_le (by omega)]; rw [Sp.leN2 _ (by omega)]; simp; done)
      | (rw [List.take_of_length_le (by omega)]; rw [Sp.leN2 _ (by omega)]; rfl)
      | (have hl : (s.take 65535).length = 65535 := by simp; omega
         rw [hl]; rfl)
set_option maxRecDepth 100000 in
set_option maxHeartbeats 400000 in
theorem dSum_any (s : Txt) (w : World) (hs : s.length ≤ 4611686018427387904) :
    Calls Tryz.prog 62 #[.string ⟨s.toArray⟩] w fun e w' => e = .returned (.int .u64 (Sp.sum s)) ∧ w = w' := by
  go_enter Tryz.func62, Tryz.ntmps62
  go_wp2
  go_loop [3, 4] (fun n i => ∃ k : Nat, k ≤ s.length ∧ i = .int .i64 k ∧ n = .int .u64 (Sp.sum (s.take k))) (fun _ i => s.length - (intOf i).toNat)
  case atStart => exact ⟨0, Nat.zero_le _, rfl, rfl⟩
  case round =>
    obtain ⟨k, hk, rfl, rfl⟩ := hrel
    by_cases hlt : k < s.length
    · have hm := Sp.sum_range (s.take k)
      have HS := Lib.hid (Sp.sum_succ s k hlt)
      generalize Sp.sum (s.take k) = m at *
      go_wp2
      refine ⟨⟨k + 1, by omega, by go_num, ?_⟩, by simp [intOf]; omega⟩
      rw [HS.out]
      rfl
    · have hkl : k = s.length := by omega
      go_wp2
      go_ret
      exact ⟨rfl, rfl⟩
set_option maxRecDepth 100000 in
set_option maxHeartbeats 400000 in
theorem dShort_any (s : Txt) (w : World) :
    Calls Tryz.prog 101 #[.string ⟨s.toArray⟩] w fun e w' => e = .returned (.bool (Sp.short s)) ∧ Below w.heap.size w w' := by
  go_enter Tryz.func101, Tryz.ntmps101
  go_wp2
  all_goals
    go_ret
    go_light
    exact ⟨ret_bool (by grind [Sp.short, List.length_pos_iff]), Below.refl _ _⟩
set_option maxRecDepth 100000 in
set_option maxHeartbeats 400000 in
theorem dpage_any (n : Int) (w : World) :
    Calls Tryz.prog 100 #[.int .i64 n] w fun e w' => e = .returned (.bool (Sp.isID n)) ∧ Below w.heap.size w w' := by
  go_enter Tryz.func100, Tryz.ntmps100
  go_wp2
  all_goals
    go_ret
    go_light
    exact ⟨ret_bool (by grind [Sp.isID]), Below.refl _ _⟩
set_option maxRecDepth 100000 in
set_option maxHeartbeats 400000 in
theorem droot_any (r : Sp.Root) (w : World) :
    Calls Tryz.prog 104 #[.agg (rootV r).toArray] w fun e w' => e = .returned (.bool (Sp.isRoot r)) ∧ Below w.heap.size w w' := by
  obtain ⟨p, n, f⟩ := r
  simp only [rootV]
  go_enter Tryz.func104, Tryz.ntmps104
  go_wp2_with (go_at_call 100; refine (dpage_any _ _).mono ?_; rintro e w1 ⟨rfl, hb⟩; obtain ⟨hc, hf⟩ := bcell hb)
  all_goals
    go_ret
    go_light
    first
      | exact ⟨ret_bool (by grind [Sp.isRoot, Sp.noneOr]), ((Below.refl _ _).alloc (Nat.le_refl _) _).trans (hb.mono (by simp))⟩
      | exact ⟨ret_bool (by grind [Sp.isRoot, Sp.noneOr]), (Below.refl _ _).alloc (Nat.le_refl _) _⟩
end Go.Proofs.YtlpmjeiogdlifaaGreat
namespace Go.Proofs.YtlpmjeiogdlifaaGreat
open Go.RowKit
attribute [local go_sem low] mk_extract
attribute [local go_sem] After.cell After.frozen mk_extract_end ByteArray.mk_append_mk
set_option maxRecDepth 100000 in
set_option maxHeartbeats 1600000 in
theorem dvals_any (l : List Txt) (A : Option Addr) (c : Nat) (least most : Int) {M : Nat → Prop} (w : World) (hr : Txts w M A l) :
    Calls Tryz.prog 102 #[.slice A l.length c, .int .i64 least, .int .i64 most] w fun e w' => e = .returned (.bool (Sp.isVals l least most)) ∧ Below w.heap.size w w' := by
  have hlen := hr.len
  have Hr := Lib.hid hr
  clear hr
  go_enter Tryz.func102, Tryz.ntmps102
  go_wp2
  go_loopw [7] (fun i wr => ∃ k : Nat, k ≤ l.length ∧ i = .int .i64 k ∧ Below w.heap.size w wr ∧ Hid (∀ j, j < k → Sp.valAt l j = true)) (fun i _ => l.length - (intOf i).toNat)
  case atStart => exact ⟨0, Nat.zero_le _, rfl, Below.refl _ _, fun j h => absurd h (by omega)⟩
  case round =>
    obtain ⟨k, hk, rfl, hb, hok⟩ := hrel
    by_cases hlt : k < l.length
    · obtain ⟨b, off, rfl, hbl, hc⟩ := Hr.out.at_ hlt
      have hc0 := (hb.cell (p := ⟨b, off + k, none⟩) hbl).trans (hc k hlt)
      have hc1 := fun (h : 0 < k) => (hb.cell (p := ⟨b, off + (k - 1), none⟩) hbl).trans (hc (k - 1) (by omega))
      have hbw : b < wr.heap.size := by have := hb.size; omega
      clear hc
      have HV := Lib.hid (Sp.valAt_def l k)
      generalize l.getD k [] = x at *
      generalize l.getD (k - 1) [] = y at *
      have hno : ∀ w2, Below wr.heap.size wr w2 → Sp.valAt l k = false → Ending.returned (.bool false) = .returned (.bool (Sp.isVals l least most)) ∧ Below w.heap.size w w2 := fun w2 h2 hv => ⟨by rw [Sp.isVals, Sp.allTo_false hlt hv]; rfl, hb.trans (h2.mono hb.size)⟩
      have hyes : Sp.valAt l k = true → ∀ j, j < k + 1 → Sp.valAt l j = true := fun hv j hj => by
        rcases Nat.lt_succ_iff_lt_or_eq.1 hj with h | rfl
        · exact hok.out j h
        · exact hv
      have HNO := Lib.hid hno
      have HYES := Lib.hid hyes
      clear hno hyes hok
      by_cases h1 : x.length < 1
      · have hd1 : decide ((x.length : Int) < 1) = true := decide_eq_true (by omega)
        go_wp2
        refine wp_region_after (by kernel_rfl) (by kernel_rfl) (wr.heap.size) ?_
        repeat (go_big_quiet_step (fail))
        refine wpQuiet_nil ?_
        intro w2 hb2
        go_wp2
        go_ret
        exact HNO.out _ hb2 (by rw [HV.out, decide_eq_false (by omega : ¬ 1 ≤ x.length)]; rfl)
      have hd1 : decide ((x.length : Int) < 1) = false := decide_eq_false (by omega)
      by_cases h2 : 12 < x.length
      · have hd2 : decide ((x.length : Int) > 12) = true := decide_eq_true (by omega)
        go_wp2
        refine wp_region_after (by kernel_rfl) (by kernel_rfl) (wr.heap.size) ?_
        repeat (go_big_quiet_step (fail))
        refine wpQuiet_nil ?_
        intro w2 hb2
        go_wp2
        go_ret
        exact HNO.out _ hb2 (by rw [HV.out, decide_eq_false (by omega : ¬ x.length ≤ 12), Bool.and_false, Bool.false_and])
      have hd2 : decide ((x.length : Int) > 12) = false := decide_eq_false (by omega)
      by_cases h3 : 0 < k
      · have hc1 := hc1 h3
        rcases hl : Op.bytesLess y x with _ | _
        · go_wp2
          refine wp_region_after (by kernel_rfl) (by kernel_rfl) (wr.heap.size) ?_
          repeat (go_big_quiet_step (fail))
          refine wpQuiet_nil ?_
          intro w2 hb2
          go_wp2
          go_ret
          exact HNO.out _ hb2 (by rw [HV.out, decide_eq_false (by omega : ¬ k = 0), Sp.lt, hl]; simp)
        · go_wp2
          refine wp_region_after (by kernel_rfl) (by kernel_rfl) (wr.heap.size) ?_
          repeat (go_big_quiet_step (fail))
          refine wpQuiet_nil ?_
          intro w2 hb2
          go_wp2
          refine ⟨⟨k + 1, by omega, by go_num, hb.trans (hb2.mono hb.size), HYES.out ?_⟩, by simp [intOf]; omega⟩
          rw [HV.out, Sp.lt, hl, decide_eq_true (by omega : 1 ≤ x.length), decide_eq_true (by omega : x.length ≤ 12)]
          simp
      · have h30 : k = 0 := by omega
        subst h30
        rw [Nat.add_zero] at hc0
        go_wp2
        refine wp_region_after (by kernel_rfl) (by kernel_rfl) (wr.heap.size) ?_
        repeat (go_big_quiet_step (fail))
        refine wpQuiet_nil ?_
        intro w2 hb2
        go_wp2
        refine ⟨⟨1, by omega, by go_num, hb.trans (hb2.mono hb.size), HYES.out ?_⟩, by simp [intOf]; omega⟩
        rw [HV.out, decide_eq_true (by omega : 1 ≤ x.length), decide_eq_true (by omega : x.length ≤ 12)]
        simp
    · have hkl : k = l.length := by omega
      go_wp2
      all_goals
        go_ret
        refine ⟨ret_bool ?_, hb⟩
        go_light
        rw [Sp.isVals, Sp.allTo_true fun j hj => hok.out j (by omega)]
        grind
end Go.Proofs.YtlpmjeiogdlifaaGreat
namespace Go.Proofs.YtlpmjeiogdlifaaGreat
open Go.RowKit
attribute [local go_sem low] mk_extract
attribute [local go_sem] After.cell After.frozen mk_extract_end ByteArray.mk_append_mk
namespace Sp
def fV (x : Item) : Bool := decide (x.val ≠ [])
def fL (x : Item) : Bool := decide (x.run ≠ 0) || decide (x.len ≠ 0)
def fD (x : Item) : Bool := decide (x.vals ≠ []) || decide (x.dup ≠ 0)
def fR (x : Item) : Bool := decide (x.root ≠ root0)
theorem item1 {x : Item} (h : x.kind = 1) : isItem x = (short x.key && decide (x.val.length ≤ 12) && !fL x && !fD x && !fR x) := by
  obtain ⟨key, kind, val, run, len, vals, dup, rt⟩ := x
  simp only at h
  subst h
  rw [Bool.eq_iff_iff]
  simp [isItem, sameItem, own, kindOk, fL, fD, fR]
  grind
theorem item2 {x : Item} (h : x.kind = 2) : isItem x = (short x.key && !fV x && isID x.run && decide (12 < x.len) && decide (x.len ≤ 1000) && !fD x && !fR x) := by
  obtain ⟨key, kind, val, run, len, vals, dup, rt⟩ := x
  simp only at h
  subst h
  rw [Bool.eq_iff_iff]
  simp [isItem, sameItem, own, kindOk, fV, fD, fR]
  grind
theorem item3 {x : Item} (h : x.kind = 3) : isItem x = (short x.key && !fV x && !fL x && !fR x && (decide (x.dup = 0) && isVals x.vals 1 3 || isID x.dup && decide (x.vals.length = 0))) := by
  obtain ⟨key, kind, val, run, len, vals, dup, rt⟩ := x
  simp only at h
  subst h
  rw [Bool.eq_iff_iff]
  simp [isItem, sameItem, own, kindOk, fV, fL, fR]
  grind
theorem item4 {x : Item} (h : x.kind = 4) : isItem x = (short x.key && !fV x && !fL x && !fD x && isRoot x.root) := by
  obtain ⟨key, kind, val, run, len, vals, dup, rt⟩ := x
  simp only at h
  subst h
  rw [Bool.eq_iff_iff]
  simp [isItem, sameItem, own, kindOk, fV, fL, fD]
  grind
theorem item5 {x : Item} (h1 : x.kind ≠ 1) (h2 : x.kind ≠ 2) (h3 : x.kind ≠ 3) (h4 : x.kind ≠ 4) : isItem x = false := by
  simp [isItem, kindOk, h1, h2, h3, h4]
end Sp
theorem Sp.root_eq' (a b : Sp.Root) : decide (a = b) = (a.page == b.page && (a.count == b.count && a.flags == b.flags)) := by
  obtain ⟨a1, a2, a3⟩ := a
  obtain ⟨b1, b2, b3⟩ := b
  by_cases h1 : a1 = b1 <;> by_cases h2 : a2 = b2 <;> by_cases h3 : a3 = b3 <;> simp [h1, h2, h3]
theorem eqRoot2 (m n : Sp.Root) (W : World) : (Op.equalIn 10000 43 (.agg (rootV m).toArray) (.agg (rootV n).toArray)).run Tryz.prog W = .ok (decide (m = n)) W := by
  have hS : Tryz.prog.underlying 43 = some (.struct (Tryz.prog.fieldsOf 43)) := by kernel_rfl
  have hp : Tryz.prog.stoodInHeld 43 = false := by kernel_rfl
  have u3 := Tryz.underlying3
  rw [show (10000 : Nat) = 9999 + 1 from rfl, run_equalIn_agg W 9999 43 _ _ hS hp, Sp.root_eq']
  simp only [Program.fieldsOf, Tryz.underlying43, Op.eqFields, rootV]
  go_simp
  by_cases h1 : m.page = n.page <;> by_cases h2 : m.count = n.count <;> by_cases h3 : m.flags = n.flags <;> simp [h1, h2, h3]
theorem Blk.at10i {w : World} {g : Nat} {t : TypeId} {x : Sp.Item} {V : Option Addr} {c : Nat} (h : Blk w g t (itemV x V c).toArray) :
    w.cell? ⟨g, 0, none⟩ = some (.string ⟨x.key.toArray⟩) ∧ w.cell? ⟨g, 1, none⟩ = some (.int .i64 x.kind) ∧ w.cell? ⟨g, 2, none⟩ = some (.string ⟨x.val.toArray⟩) ∧ w.cell? ⟨g, 3, none⟩ = some (.int .i64 x.run) ∧ w.cell? ⟨g, 4, none⟩ = some (.int .i64 x.len) ∧ w.cell? ⟨g, 5, none⟩ = some (.slice V x.vals.length c) ∧ w.cell? ⟨g, 6, none⟩ = some (.int .i64 x.dup) ∧ w.cell? ⟨g, 7, none⟩ = some (.int .i64 x.root.page) ∧ w.cell? ⟨g, 8, none⟩ = some (.int .i64 x.root.count) ∧ w.cell? ⟨g, 9, none⟩ = some (.int .i64 x.root.flags) :=
  ⟨h.cell 0, h.cell 1, h.cell 2, h.cell 3, h.cell 4, h.cell 5, h.cell 6, h.cell 7, h.cell 8, h.cell 9⟩
set_option maxRecDepth 100000 in
set_option maxHeartbeats 1600000 in
theorem ditem_any (x : Sp.Item) (V : Option Addr) (c : Nat) {M : Nat → Prop} (w : World) (hx : Txts w M V x.vals) :
    Calls Tryz.prog 99 #[.agg (itemV x V c).toArray] w fun e w' => e = .returned (.bool (Sp.isItem x)) ∧ Below w.heap.size w w' := by
  have Hx := Lib.hid hx
  clear hx
  have hq := fun W => eqRoot2 x.root Sp.root0 W
  simp only [rootV, Sp.root0] at hq
  have hsz : w.heap.size < w.heap.size + 1 := by omega
  simp only [itemV]
  go_enter Tryz.func99, Tryz.ntmps99
  go_upto_region 1 with fail
  go_cut [3, 4, 5, 6] (fun s3 s4 s5 s6 W => s3 = .bool (Sp.fV x) ∧ s4 = .bool (Sp.fL x) ∧ s5 = .bool (Sp.fD x) ∧ s6 = .bool (Sp.fR x) ∧ Below (w.heap.size + 1) (w.alloc (.cells (itemV x V c).toArray 45)) W)
  case first =>
    rcases Nat.eq_zero_or_pos x.vals.length with h2 | h2
    all_goals
      by_cases h1 : x.run = 0
      · refine wp_region_after (by kernel_rfl) (by kernel_rfl) (w.heap.size + 1) ?_
        repeat (go_big_quiet_step (fail))
        refine wpQuiet_nil ?_
        intro w2 hb2
        go_wp2
        go_meet
        case rel => exact ⟨congrArg Value.bool (by simp [Sp.fV]; cases x.val <;> simp), congrArg Value.bool (by unfold Sp.fL; by_cases h5 : x.len = 0 <;> simp [h1, h5]), congrArg Value.bool (by simp [Sp.fD, List.length_eq_zero_iff, bne]; grind [List.length_pos_iff, List.length_eq_zero_iff]), congrArg Value.bool (by unfold Sp.fR Sp.root0; by_cases hr : x.root = ⟨0, 0, 0⟩ <;> simp [hr]), hb2⟩
      · have e1 : (x.run != 0) = true := by simp [h1]
        refine wp_region_after (by kernel_rfl) (by kernel_rfl) (w.heap.size + 1) ?_
        repeat (go_big_quiet_step (fail))
        refine wpQuiet_nil ?_
        intro w2 hb2
        go_wp2
        go_meet
        case rel => exact ⟨congrArg Value.bool (by simp [Sp.fV]; cases x.val <;> simp), congrArg Value.bool (by unfold Sp.fL; by_cases h5 : x.len = 0 <;> simp [h1, h5]), congrArg Value.bool (by simp [Sp.fD, List.length_eq_zero_iff, bne]; grind [List.length_pos_iff, List.length_eq_zero_iff]), congrArg Value.bool (by unfold Sp.fR Sp.root0; by_cases hr : x.root = ⟨0, 0, 0⟩ <;> simp [hr]), hb2⟩
  case rest =>
    obtain ⟨rfl, rfl, rfl, rfl, hb⟩ := hcut
    have hB : Below w.heap.size w wc := Below.trans (b := w.alloc _) (by go_grown) (hb.mono (by omega))
    obtain ⟨c0, c1, c2, c3, c4, c5, c6, c7, c8, c9⟩ := Blk.at10i (Blk.below (Blk.new w 45 (itemV x V c).toArray) hb (by omega))
    have hsz : w.heap.size < wc.heap.size := by have := hb.size; simp at this; omega
    clear hb hq
    rcases (by omega : x.kind = 1 ∨ x.kind = 2 ∨ x.kind = 3 ∨ x.kind = 4 ∨ (x.kind ≠ 1 ∧ x.kind ≠ 2 ∧ x.kind ≠ 3 ∧ x.kind ≠ 4)) with hk | hk | hk | hk | hk
    · have e1 : (x.kind == 1) = true := beq_iff_eq.2 hk
      have HI := Lib.hid (Sp.item1 hk)
      clear hk
      generalize Sp.fV x = fv at *
      generalize Sp.fL x = fl at *
      generalize Sp.fD x = fd at *
      generalize Sp.fR x = fr at *
      go_wp2_with (first
        | (go_at_call 101; refine (dShort_any x.key _).mono ?_; rintro e w2 ⟨rfl, hb2⟩; have hz := hb2.size; have hsz : w.heap.size < w2.heap.size := Nat.lt_of_lt_of_le (by first | exact hsz | omega | (simp; done) | (simp; omega)) hz; obtain ⟨hc2, hf2⟩ := bcell hb2)
        | (go_at_call 100; refine (dpage_any _ _).mono ?_; rintro e w2 ⟨rfl, hb2⟩; have hz := hb2.size; have hsz : w.heap.size < w2.heap.size := Nat.lt_of_lt_of_le (by first | exact hsz | omega | (simp; done) | (simp; omega)) hz; obtain ⟨hc2, hf2⟩ := bcell hb2)
        | (go_at_call 102; refine (dvals_any x.vals V c 1 3 _ (Hx.out.go (by (repeat (first | (with_reducible exact Below.refl _ _) | (with_reducible assumption) | (refine below_step (by assumption) (by first | omega | (simp; done) | (simp; omega)) ?_) | (with_reducible refine Below.alloc ?_ (by first | omega | (simp; done) | (simp; omega)) _) | (with_reducible refine Below.drew ?_) | (with_reducible refine below_drewN ?_ _) | (with_reducible refine Below.setCell ?_ (by first | omega | (simp; done) | (simp; omega)) _)))))).mono ?_; rintro e w2 ⟨rfl, hb2⟩; have hz := hb2.size; have hsz : w.heap.size < w2.heap.size := Nat.lt_of_lt_of_le (by first | exact hsz | omega | (simp; done) | (simp; omega)) hz; obtain ⟨hc2, hf2⟩ := bcell hb2)
        | (go_at_call 104; refine (droot_any x.root _).mono ?_; rintro e w2 ⟨rfl, hb2⟩; have hz := hb2.size; have hsz : w.heap.size < w2.heap.size := Nat.lt_of_lt_of_le (by first | exact hsz | omega | (simp; done) | (simp; omega)) hz; obtain ⟨hc2, hf2⟩ := bcell hb2))
      all_goals
        go_ret
        refine ⟨ret_bool ?_, by (repeat (first | (with_reducible exact Below.refl _ _) | (with_reducible assumption) | (refine below_step (by assumption) (by first | omega | (simp; done) | (simp; omega)) ?_) | (with_reducible refine Below.alloc ?_ (by first | omega | (simp; done) | (simp; omega)) _) | (with_reducible refine Below.drew ?_) | (with_reducible refine below_drewN ?_ _) | (with_reducible refine Below.setCell ?_ (by first | omega | (simp; done) | (simp; omega)) _)))⟩
        rw [HI.out]
        go_light
        first | rfl | grind
    · have e1 : (x.kind == 1) = false := by rw [beq_eq_false_iff_ne]; omega
      have e2 : (x.kind == 2) = true := beq_iff_eq.2 hk
      have HI := Lib.hid (Sp.item2 hk)
      clear hk
      generalize Sp.fV x = fv at *
      generalize Sp.fL x = fl at *
      generalize Sp.fD x = fd at *
      generalize Sp.fR x = fr at *
      go_wp2_with (first
        | (go_at_call 101; refine (dShort_any x.key _).mono ?_; rintro e w2 ⟨rfl, hb2⟩; have hz := hb2.size; have hsz : w.heap.size < w2.heap.size := Nat.lt_of_lt_of_le (by first | exact hsz | omega | (simp; done) | (simp; omega)) hz; obtain ⟨hc2, hf2⟩ := bcell hb2)
        | (go_at_call 100; refine (dpage_any _ _).mono ?_; rintro e w2 ⟨rfl, hb2⟩; have hz := hb2.size; have hsz : w.heap.size < w2.heap.size := Nat.lt_of_lt_of_le (by first | exact hsz | omega | (simp; done) | (simp; omega)) hz; obtain ⟨hc2, hf2⟩ := bcell hb2)
        | (go_at_call 102; refine (dvals_any x.vals V c 1 3 _ (Hx.out.go (by (repeat (first | (with_reducible exact Below.refl _ _) | (with_reducible assumption) | (refine below_step (by assumption) (by first | omega | (simp; done) | (simp; omega)) ?_) | (with_reducible refine Below.alloc ?_ (by first | omega | (simp; done) | (simp; omega)) _) | (with_reducible refine Below.drew ?_) | (with_reducible refine below_drewN ?_ _) | (with_reducible refine Below.setCell ?_ (by first | omega | (simp; done) | (simp; omega)) _)))))).mono ?_; rintro e w2 ⟨rfl, hb2⟩; have hz := hb2.size; have hsz : w.heap.size < w2.heap.size := Nat.lt_of_lt_of_le (by first | exact hsz | omega | (simp; done) | (simp; omega)) hz; obtain ⟨hc2, hf2⟩ := bcell hb2)
        | (go_at_call 104; refine (droot_any x.root _).mono ?_; rintro e w2 ⟨rfl, hb2⟩; have hz := hb2.size; have hsz : w.heap.size < w2.heap.size := Nat.lt_of_lt_of_le (by first | exact hsz | omega | (simp; done) | (simp; omega)) hz; obtain ⟨hc2, hf2⟩ := bcell hb2))
      all_goals
        go_ret
        refine ⟨ret_bool ?_, by (repeat (first | (with_reducible exact Below.refl _ _) | (with_reducible assumption) | (refine below_step (by assumption) (by first | omega | (simp; done) | (simp; omega)) ?_) | (with_reducible refine Below.alloc ?_ (by first | omega | (simp; done) | (simp; omega)) _) | (with_reducible refine Below.drew ?_) | (with_reducible refine below_drewN ?_ _) | (with_reducible refine Below.setCell ?_ (by first | omega | (simp; done) | (simp; omega)) _)))⟩
        rw [HI.out]
        go_light
        first | rfl | grind
    · have e1 : (x.kind == 1) = false := by rw [beq_eq_false_iff_ne]; omega
      have e2 : (x.kind == 2) = false := by rw [beq_eq_false_iff_ne]; omega
      have e3 : (x.kind == 3) = true := beq_iff_eq.2 hk
      have HI := Lib.hid (Sp.item3 hk)
      clear hk
      generalize Sp.fV x = fv at *
      generalize Sp.fL x = fl at *
      generalize Sp.fD x = fd at *
      generalize Sp.fR x = fr at *
      go_wp2_with (first
        | (go_at_call 101; refine (dShort_any x.key _).mono ?_; rintro e w2 ⟨rfl, hb2⟩; have hz := hb2.size; have hsz : w.heap.size < w2.heap.size := Nat.lt_of_lt_of_le (by first | exact hsz | omega | (simp; done) | (simp; omega)) hz; obtain ⟨hc2, hf2⟩ := bcell hb2)
        | (go_at_call 100; refine (dpage_any _ _).mono ?_; rintro e w2 ⟨rfl, hb2⟩; have hz := hb2.size; have hsz : w.heap.size < w2.heap.size := Nat.lt_of_lt_of_le (by first | exact hsz | omega | (simp; done) | (simp; omega)) hz; obtain ⟨hc2, hf2⟩ := bcell hb2)
        | (go_at_call 102; refine (dvals_any x.vals V c 1 3 _ (Hx.out.go (by (repeat (first | (with_reducible exact Below.refl _ _) | (with_reducible assumption) | (refine below_step (by assumption) (by first | omega | (simp; done) | (simp; omega)) ?_) | (with_reducible refine Below.alloc ?_ (by first | omega | (simp; done) | (simp; omega)) _) | (with_reducible refine Below.drew ?_) | (with_reducible refine below_drewN ?_ _) | (with_reducible refine Below.setCell ?_ (by first | omega | (simp; done) | (simp; omega)) _)))))).mono ?_; rintro e w2 ⟨rfl, hb2⟩; have hz := hb2.size; have hsz : w.heap.size < w2.heap.size := Nat.lt_of_lt_of_le (by first | exact hsz | omega | (simp; done) | (simp; omega)) hz; obtain ⟨hc2, hf2⟩ := bcell hb2)
        | (go_at_call 104; refine (droot_any x.root _).mono ?_; rintro e w2 ⟨rfl, hb2⟩; have hz := hb2.size; have hsz : w.heap.size < w2.heap.size := Nat.lt_of_lt_of_le (by first | exact hsz | omega | (simp; done) | (simp; omega)) hz; obtain ⟨hc2, hf2⟩ := bcell hb2))
      all_goals
        go_ret
        refine ⟨ret_bool ?_, by (repeat (first | (with_reducible exact Below.refl _ _) | (with_reducible assumption) | (refine below_step (by assumption) (by first | omega | (simp; done) | (simp; omega)) ?_) | (with_reducible refine Below.alloc ?_ (by first | omega | (simp; done) | (simp; omega)) _) | (with_reducible refine Below.drew ?_) | (with_reducible refine below_drewN ?_ _) | (with_reducible refine Below.setCell ?_ (by first | omega | (simp; done) | (simp; omega)) _)))⟩
        rw [HI.out]
        go_light
        first | rfl | grind
    · have e1 : (x.kind == 1) = false := by rw [beq_eq_false_iff_ne]; omega
      have e2 : (x.kind == 2) = false := by rw [beq_eq_false_iff_ne]; omega
      have e3 : (x.kind == 3) = false := by rw [beq_eq_false_iff_ne]; omega
      have e4 : (x.kind == 4) = true := beq_iff_eq.2 hk
      have HI := Lib.hid (Sp.item4 hk)
      clear hk
      generalize Sp.fV x = fv at *
      generalize Sp.fL x = fl at *
      generalize Sp.fD x = fd at *
      generalize Sp.fR x = fr at *
      go_wp2_with (first
        | (go_at_call 101; refine (dShort_any x.key _).mono ?_; rintro e w2 ⟨rfl, hb2⟩; have hz := hb2.size; have hsz : w.heap.size < w2.heap.size := Nat.lt_of_lt_of_le (by first | exact hsz | omega | (simp; done) | (simp; omega)) hz; obtain ⟨hc2, hf2⟩ := bcell hb2)
        | (go_at_call 100; refine (dpage_any _ _).mono ?_; rintro e w2 ⟨rfl, hb2⟩; have hz := hb2.size; have hsz : w.heap.size < w2.heap.size := Nat.lt_of_lt_of_le (by first | exact hsz | omega | (simp; done) | (simp; omega)) hz; obtain ⟨hc2, hf2⟩ := bcell hb2)
        | (go_at_call 102; refine (dvals_any x.vals V c 1 3 _ (Hx.out.go (by (repeat (first | (with_reducible exact Below.refl _ _) | (with_reducible assumption) | (refine below_step (by assumption) (by first | omega | (simp; done) | (simp; omega)) ?_) | (with_reducible refine Below.alloc ?_ (by first | omega | (simp; done) | (simp; omega)) _) | (with_reducible refine Below.drew ?_) | (with_reducible refine below_drewN ?_ _) | (with_reducible refine Below.setCell ?_ (by first | omega | (simp; done) | (simp; omega)) _)))))).mono ?_; rintro e w2 ⟨rfl, hb2⟩; have hz := hb2.size; have hsz : w.heap.size < w2.heap.size := Nat.lt_of_lt_of_le (by first | exact hsz | omega | (simp; done) | (simp; omega)) hz; obtain ⟨hc2, hf2⟩ := bcell hb2)
        | (go_at_call 104; refine (droot_any x.root _).mono ?_; rintro e w2 ⟨rfl, hb2⟩; have hz := hb2.size; have hsz : w.heap.size < w2.heap.size := Nat.lt_of_lt_of_le (by first | exact hsz | omega | (simp; done) | (simp; omega)) hz; obtain ⟨hc2, hf2⟩ := bcell hb2))
      all_goals
        go_ret
        refine ⟨ret_bool ?_, by (repeat (first | (with_reducible exact Below.refl _ _) | (with_reducible assumption) | (refine below_step (by assumption) (by first | omega | (simp; done) | (simp; omega)) ?_) | (with_reducible refine Below.alloc ?_ (by first | omega | (simp; done) | (simp; omega)) _) | (with_reducible refine Below.drew ?_) | (with_reducible refine below_drewN ?_ _) | (with_reducible refine Below.setCell ?_ (by first | omega | (simp; done) | (simp; omega)) _)))⟩
        rw [HI.out]
        go_light
        first | rfl | grind
    · have e1 : (x.kind == 1) = false := by rw [beq_eq_false_iff_ne]; omega
      have e2 : (x.kind == 2) = false := by rw [beq_eq_false_iff_ne]; omega
      have e3 : (x.kind == 3) = false := by rw [beq_eq_false_iff_ne]; omega
      have e4 : (x.kind == 4) = false := by rw [beq_eq_false_iff_ne]; omega
      have HI := Lib.hid (Sp.item5 (x := x) (by omega) (by omega) (by omega) (by omega))
      clear hk
      generalize Sp.fV x = fv at *
      generalize Sp.fL x = fl at *
      generalize Sp.fD x = fd at *
      generalize Sp.fR x = fr at *
      go_wp2_with (first
        | (go_at_call 101; refine (dShort_any x.key _).mono ?_; rintro e w2 ⟨rfl, hb2⟩; have hz := hb2.size; have hsz : w.heap.size < w2.heap.size := Nat.lt_of_lt_of_le (by first | exact hsz | omega | (simp; done) | (simp; omega)) hz; obtain ⟨hc2, hf2⟩ := bcell hb2)
        | (go_at_call 100; refine (dpage_any _ _).mono ?_; rintro e w2 ⟨rfl, hb2⟩; have hz := hb2.size; have hsz : w.heap.size < w2.heap.size := Nat.lt_of_lt_of_le (by first | exact hsz | omega | (simp; done) | (simp; omega)) hz; obtain ⟨hc2, hf2⟩ := bcell hb2)
        | (go_at_call 102; refine (dvals_any x.vals V c 1 3 _ (Hx.out.go (by (repeat (first | (with_reducible exact Below.refl _ _) | (with_reducible assumption) | (refine below_step (by assumption) (by first | omega | (simp; done) | (simp; omega)) ?_) | (with_reducible refine Below.alloc ?_ (by first | omega | (simp; done) | (simp; omega)) _) | (with_reducible refine Below.drew ?_) | (with_reducible refine below_drewN ?_ _) | (with_reducible refine Below.setCell ?_ (by first | omega | (simp; done) | (simp; omega)) _)))))).mono ?_; rintro e w2 ⟨rfl, hb2⟩; have hz := hb2.size; have hsz : w.heap.size < w2.heap.size := Nat.lt_of_lt_of_le (by first | exact hsz | omega | (simp; done) | (simp; omega)) hz; obtain ⟨hc2, hf2⟩ := bcell hb2)
        | (go_at_call 104; refine (droot_any x.root _).mono ?_; rintro e w2 ⟨rfl, hb2⟩; have hz := hb2.size; have hsz : w.heap.size < w2.heap.size := Nat.lt_of_lt_of_le (by first | exact hsz | omega | (simp; done) | (simp; omega)) hz; obtain ⟨hc2, hf2⟩ := bcell hb2))
      all_goals
        go_ret
        refine ⟨ret_bool ?_, by (repeat (first | (with_reducible exact Below.refl _ _) | (with_reducible assumption) | (refine below_step (by assumption) (by first | omega | (simp; done) | (simp; omega)) ?_) | (with_reducible refine Below.alloc ?_ (by first | omega | (simp; done) | (simp; omega)) _) | (with_reducible refine Below.drew ?_) | (with_reducible refine below_drewN ?_ _) | (with_reducible refine Below.setCell ?_ (by first | omega | (simp; done) | (simp; omega)) _)))⟩
        rw [HI.out]
end Go.Proofs.YtlpmjeiogdlifaaGreat
