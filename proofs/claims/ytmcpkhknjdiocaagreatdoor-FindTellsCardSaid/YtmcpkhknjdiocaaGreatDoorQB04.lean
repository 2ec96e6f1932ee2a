/- More words for a walk: a struct stored inside a row; an append at a step of a region that draws. isVals. The document's numbers and texts as bytes, its sums, its small words. The document's vals. Whether a number, a root, a key may be. slices.Equal at texts and numbers. Whether an item may be; whether items are alike. -/
import Derived.Test.YtmcpkhknjdiocaaGreatDoorQB00
import Derived.Test.YtmcpkhknjdiocaaGreatDoorQB01
import Derived.Laws.CopyRow
import Derived.Laws.AppendOwn
import Derived.Laws.AppendOwnNone
import Derived.Test.YtmcpkhknjdiocaaGreatDoorProg
import Derived.RegionTactic
import Derived.ChangeAlike
import Derived.BigRegion
set_option linter.unusedSimpArgs false
set_option linter.unusedVariables false
namespace Go.Proofs.YtmcpkhknjdiocaaGreatDoor
open Go.RowKit
attribute [local go_sem low] mk_extract
attribute [local go_sem] After.cell After.frozen mk_extract_end ByteArray.mk_append_mk
section
variable {P : Program}
theorem run_storeVar_at (w : World) (g off : Nat) (t ty : TypeId) (cur cells : Array Value) (hg : w.heap[g]? = some (.cells cur t (0, 0))) (hi : (P.info? ty).map (·.size) = some cells.size) (hl : off + cells.size ≤ cur.size) (h1 : cells.all (·.oneCell') = true) :
    (storeVar ty ⟨g, off, none⟩ (.agg cells)).run P w = .ok () (w.setRow g (cur.toList.take off ++ cells.toList ++ cur.toList.drop (off + cells.size)).toArray) := by
  have h := run_storeCells_at (P := P) g off t cells.toList 0 cur w hg (by simp; omega) (fun v hv => (Array.all_eq_true_iff_forall_mem.1 h1) v (by simpa using hv))
  cases hq : P.info? ty with
  | none => simp [hq] at hi
  | some i =>
    have hs : cells.size = i.size := by simp [hq] at hi; omega
    simp only [Nat.add_zero, Array.length_toList] at h
    simp [storeVar, sizeOf, typeInfo, hq, Value.cells, hs]
    simpa [hs] using h
theorem wpList_store_at {ops : Array Oper} {rest : List Oper} {o : Oper} {a : Act} {w : World} {Q : Exit → Act → World → Prop} (hgd : o.guard = none) (ty : TypeId) (x y : Operand) (ho : o.op = .store ty x y)
    (g off : Nat) (cells : Array Value) (hx : a.eval x = .pointer (some ⟨g, off, none⟩)) (hy : a.eval y = .agg cells)
    (t : TypeId) (cur : Array Value) (hg : w.heap[g]? = some (.cells cur t (0, 0))) (hi : (P.info? ty).map (·.size) = some cells.size)
    (hl : off + cells.size ≤ cur.size) (h1 : cells.all (·.oneCell') = true)
    (h : wpList P ops Q rest (a.put o.dst undef) (w.setRow g (cur.toList.take off ++ cells.toList ++ cur.toList.drop (off + cells.size)).toArray)) : wpList P ops Q (o :: rest) a w :=
  wpList_plain hgd fun _ hK => by
    unfold Oper.wp execOp
    simp only [ho, hx, hy, Instr.storeAt, Instr.sureAddr, Sem.run_bind, Sem.run_pure, Result.andThen_ok, run_storeVar_at w g off t ty cur cells hg hi hl h1]
    exact hK _ _ h
/-- An append at a step of a region that draws: whatever is appended, none too. -/
theorem step_append_own {ops : Array Oper} {o : Oper} {a : Act} {w : World} {K : Act → World → Prop} {Q : Exit → Act → World → Prop} {E : Prop} (hgd : o.guard = none) (s x : Operand) (t : TypeId)
    (ho : o.op = .call { callee := .builtin .append, args := #[s, x], argTypes := #[t, t] })
    (base : Nat) (e : TypeId) (i : TypeInfo) (z : Value) (size bytes : Nat) (ht : P.underlying t = some (.slice e)) (hi : P.info? e = some i) (hz : i.zero = some z)
    (hsize : i.size = size) (hby : i.bytes = bytes) (hzs : z.cells.size = size) (hsz : 0 < size)
    (v : Value) (n : Nat) (xs : List Value) (hs : a.eval s = v) (hown : w.ownsRow base e size v n xs)
    (ad : Addr) (m c : Nat) (news : List Value) (hx : a.eval x = .slice (some ad) m c) (hl : news.length = m * size) (hnews : ∀ j u, news[j]? = some u → w.cell? (ad.add j) = some u) (h1 : ∀ u ∈ news, u.oneCell' = true)
    (h63 : n + m ≤ maxLen) (hbytes : (n + m) * bytes ≤ 140737488355328) (hbase : base ≤ w.heap.size)
    (h : ∀ v' w', w'.ownsRow base e size v' (n + m) (xs ++ news) → w.grownBy w' v.ownBlock → (v' = .slice none 0 0 ↔ v = .slice none 0 0 ∧ m = 0) → K (a.put o.dst v') w') :
    if Region.wanted o (yielded ops a.tmps) = true then Oper.wp P o a w K Q else E := by
  have hw : Region.wanted o (yielded ops a.tmps) = true := by simp [Region.wanted, hgd]
  rw [if_pos hw]
  exact wp_append_own w s x t ho base e i z size bytes ht hi hz hsize hby hzs hsz v n xs hs hown ad m c news hx hl hnews h1 h63 hbytes hbase h
theorem step_append_none {ops : Array Oper} {o : Oper} {a : Act} {w : World} {K : Act → World → Prop} {Q : Exit → Act → World → Prop} {E : Prop} (hgd : o.guard = none) (s x : Operand) (t : TypeId)
    (ho : o.op = .call { callee := .builtin .append, args := #[s, x], argTypes := #[t, t] })
    (base : Nat) (e : TypeId) (i : TypeInfo) (size : Nat) (ht : P.underlying t = some (.slice e)) (hi : P.info? e = some i)
    (v : Value) (n : Nat) (xs : List Value) (hs : a.eval s = v) (hown : w.ownsRow base e size v n xs) (hx : a.eval x = .slice none 0 0)
    (h : K (a.put o.dst v) w) : if Region.wanted o (yielded ops a.tmps) = true then Oper.wp P o a w K Q else E := by
  have hw : Region.wanted o (yielded ops a.tmps) = true := by simp [Region.wanted, hgd]
  rw [if_pos hw]
  have hrun := run_append_owned_none (P := P) (w := w) base t o.type e i size ht hi v n xs hown
  unfold Oper.wp
  simp [execOp, ho, resolve, invoke, builtin, hs, hx, hrun, Result.andThen]
  exact h
end
end Go.Proofs.YtmcpkhknjdiocaaGreatDoor
namespace Go.Proofs.YtmcpkhknjdiocaaGreatDoor
open Go.RowKit
attribute [local go_sem low] mk_extract
attribute [local go_sem] After.cell After.frozen mk_extract_end ByteArray.mk_append_mk
set_option maxRecDepth 100000 in
set_option maxHeartbeats 400000 in
theorem isVals_any (l : List Txt) (A : Option Addr) (c : Nat) (least most : Int) {M : Nat → Prop} (w : World) (hr : Txts w M A l) :
    Calls Tryz.prog 157 #[.slice A l.length c, .int .i64 least, .int .i64 most] w fun e w' => e = .returned (.bool (Sp.isVals l least most)) ∧ Below w.heap.size w w' := by
  have hlen := hr.len
  have Hr := Lib.hid hr
  clear hr
  go_enter Tryz.func157, Tryz.ntmps157
  go_wp2
  go_loopw [11] (fun i wr => ∃ k : Nat, k ≤ l.length ∧ i = .int .i64 k ∧ Below w.heap.size w wr ∧ Hid (∀ j, j < k → Sp.valAt l j = true)) (fun i _ => l.length - (intOf i).toNat)
  case atStart => exact ⟨0, Nat.zero_le _, rfl, Below.refl _ _, fun j h => absurd h (by omega)⟩
  case round =>
    obtain ⟨k, hk, rfl, hb, hok⟩ := hrel
    by_cases hlt : k < l.length
    · obtain ⟨b, off, rfl, hbl, hc⟩ := Hr.out.at_ hlt
      have hc0 := (hb.cell (p := ⟨b, off + k, none⟩) hbl).trans (hc k hlt)
      have hc1 := fun (h : 0 < k) => (hb.cell (p := ⟨b, off + (k - 1), none⟩) hbl).trans (hc (k - 1) (by omega))
      clear hc
      have HV := Lib.hid (Sp.valAt_def l k)
      generalize l.getD k [] = x at *
      generalize l.getD (k - 1) [] = y at *
      go_wp2
      all_goals first
        | (go_ret
           go_light
           have hv : Sp.valAt l k = false := by have H := HV.out; clear hok Hr; rw [H]; grind [Sp.lt, List.length_pos_iff]
           exact ⟨by rw [Sp.isVals, Sp.allTo_false hlt hv]; rfl, hb⟩)
        | (go_light
           have hv : Sp.valAt l k = true := by have H := HV.out; clear hok Hr; rw [H]; grind [Sp.lt, List.length_pos_iff]
           refine ⟨⟨k + 1, by omega, by go_num, hb, fun j hj => ?_⟩, by simp [intOf]; omega⟩
           rcases Nat.lt_succ_iff_lt_or_eq.1 hj with h | rfl
           · exact hok.out j h
           · exact hv)
    · have hkl : k = l.length := by omega
      go_wp2
      all_goals
        go_ret
        refine ⟨ret_bool ?_, hb⟩
        go_light
        rw [Sp.isVals, Sp.allTo_true fun j hj => hok.out j (by omega)]
        grind
end Go.Proofs.YtmcpkhknjdiocaaGreatDoor
namespace Go.Proofs.YtmcpkhknjdiocaaGreatDoor
open Go.RowKit
attribute [local go_sem low] mk_extract
attribute [local go_sem] After.cell After.frozen mk_extract_end ByteArray.mk_append_mk
set_option maxRecDepth 100000 in
set_option maxHeartbeats 1600000 in
theorem dNum_any (n : Int) (h0 : 0 ≤ n) (h1 : n < 18446744073709551616) (w : World) :
    Calls Tryz.prog 62 #[.int .u64 n] w fun e w' => e = .returned (.string ⟨(Sp.le8 n).toArray⟩) ∧ Below w.heap.size w w' := by
  have hmk : ∀ w, (Instr.makeSlice 72 (.int .i64 8) (.int .i64 8)).run Tryz.prog w = .ok (.slice (some ⟨w.heap.size, 0, none⟩) 8 8) (w.alloc (.cells #[.int .u8 0, .int .u8 0, .int .u8 0, .int .u8 0, .int .u8 0, .int .u8 0, .int .u8 0, .int .u8 0] 5)) := fun _ => by kernel_rfl
  have hcv := conv8
  go_enter Tryz.func62, Tryz.ntmps62
  go_wp2
  go_rounds 9
  go_ret
  refine ⟨?_, (Below.refl _ _).alloc (Nat.le_refl _) _⟩
  refine congrArg (fun s => Ending.returned (.string s)) ?_
  have h7 : n / 256 / 256 / 256 / 256 / 256 / 256 / 256 % 256 = n / 256 / 256 / 256 / 256 / 256 / 256 / 256 := by omega
  have e2 : n / 65536 = n / 256 / 256 := by omega
  have e3 : n / 16777216 = n / 256 / 256 / 256 := by omega
  have e4 : n / 4294967296 = n / 256 / 256 / 256 / 256 := by omega
  have e5 : n / 1099511627776 = n / 256 / 256 / 256 / 256 / 256 := by omega
  have e6 : n / 281474976710656 = n / 256 / 256 / 256 / 256 / 256 / 256 := by omega
  have e7 : n / 72057594037927936 = n / 256 / 256 / 256 / 256 / 256 / 256 / 256 := by omega
  rw [e2, e3, e4, e5, e6, e7]
  simp [Sp.le8, Sp.leN, h7]
set_option maxRecDepth 100000 in
set_option maxHeartbeats 400000 in
theorem dnum_any (n : Int) (h0 : 0 ≤ n) (h1 : n < 4611686018427387904) (w : World) :
    Calls Tryz.prog 63 #[.int .i64 n] w fun e w' => e = .returned (.string ⟨(Sp.le8 n).toArray⟩) ∧ Below w.heap.size w w' := by
  go_enter Tryz.func63, Tryz.ntmps63
  go_wp2_with (go_at_call 62; refine (dNum_any _ (by omega) (by omega) _).mono ?_; rintro e w' ⟨rfl, hb⟩)
  go_ret
  exact ⟨rfl, hb⟩
theorem conv2d (w : World) (x0 x1 : Int) : (convert 72 9 (.slice (some ⟨w.heap.size, 0, none⟩) 2 2)).run Tryz.prog ((w.alloc (.cells #[.int .u8 x0, .int .u8 x1] 5)).drew) =
    .ok (.string ⟨[UInt8.ofNat x0.toNat, UInt8.ofNat x1.toNat].toArray⟩) ((w.alloc (.cells #[.int .u8 x0, .int .u8 x1] 5)).drew) := conv2 w.drew x0 x1
set_option maxRecDepth 100000 in
set_option maxHeartbeats 400000 in
theorem dText_any (s : Txt) (w : World) :
    Calls Tryz.prog 81 #[.string ⟨s.toArray⟩] w fun e w' => e = .returned (.string ⟨(Sp.text s).toArray⟩) ∧ Below w.heap.size w w' := by
  have hcv := conv2d
  go_enter Tryz.func81, Tryz.ntmps81
  go_wp2
  all_goals go_region
  all_goals
    go_wp2
    go_ret
    refine ⟨?_, ((Below.refl _ _).alloc (Nat.le_refl _) _).drew⟩
    refine congrArg (fun s => Ending.returned (.string s)) ?_
    simp only [Sp.text, Sp.cutText]
    first
      | (rw [List.take_of_length_le (by omega)]; rw [Sp.leN2 _ (by omega)]; simp; done)
      | (rw [List.take_of_length_le (by omega)]; rw [Sp.leN2 _ (by omega)]; rfl)
      | (have hl : (s.take 65535).length = 65535 := by simp; omega
         rw [hl]; rfl)
set_option maxRecDepth 100000 in
set_option maxHeartbeats 400000 in
theorem dSum_any (s : Txt) (w : World) (hs : s.length ≤ 4611686018427387904) :
    Calls Tryz.prog 84 #[.string ⟨s.toArray⟩] w fun e w' => e = .returned (.int .u64 (Sp.sum s)) ∧ w = w' := by
  go_enter Tryz.func84, Tryz.ntmps84
  go_wp2
  go_loop [3, 4] (fun n i => ∃ k : Nat, k ≤ s.length ∧ i = .int .i64 k ∧ n = .int .u64 (Sp.sum (s.take k))) (fun _ i => s.length - (intOf i).toNat)
  case atStart => exact ⟨0, Nat.zero_le _, rfl, rfl⟩
  case round =>
    obtain ⟨k, hk, rfl, rfl⟩ := hrel
    by_cases hlt : k < s.length
    · have hm := Sp.sum_range (s.take k)
      have HS := Lib.hid (Sp.sum_succ s k hlt)
      generalize Sp.sum (s.take k) = m at *
      go_wp2
      refine ⟨⟨k + 1, by omega, by go_num, ?_⟩, by simp [intOf]; omega⟩
      rw [HS.out]
      rfl
    · have hkl : k = s.length := by omega
      go_wp2
      go_ret
      exact ⟨rfl, rfl⟩
set_option maxRecDepth 100000 in
set_option maxHeartbeats 400000 in
theorem dShort_any (s : Txt) (w : World) :
    Calls Tryz.prog 103 #[.string ⟨s.toArray⟩] w fun e w' => e = .returned (.bool (Sp.short s)) ∧ Below w.heap.size w w' := by
  go_enter Tryz.func103, Tryz.ntmps103
  go_wp2
  all_goals
    go_ret
    go_light
    exact ⟨ret_bool (by grind [Sp.short, List.length_pos_iff]), Below.refl _ _⟩
set_option maxRecDepth 100000 in
set_option maxHeartbeats 400000 in
theorem dpage_any (n : Int) (w : World) :
    Calls Tryz.prog 112 #[.int .i64 n] w fun e w' => e = .returned (.bool (Sp.isID n)) ∧ Below w.heap.size w w' := by
  go_enter Tryz.func112, Tryz.ntmps112
  go_wp2
  all_goals
    go_ret
    go_light
    exact ⟨ret_bool (by grind [Sp.isID]), Below.refl _ _⟩
set_option maxRecDepth 100000 in
set_option maxHeartbeats 400000 in
theorem droot_any (r : Sp.Root) (w : World) :
    Calls Tryz.prog 115 #[.agg (rootV r).toArray] w fun e w' => e = .returned (.bool (Sp.isRoot r)) ∧ Below w.heap.size w w' := by
  obtain ⟨p, n, f⟩ := r
  simp only [rootV]
  go_enter Tryz.func115, Tryz.ntmps115
  go_wp2_with (go_at_call 112; refine (dpage_any _ _).mono ?_; rintro e w1 ⟨rfl, hb⟩; obtain ⟨hc, hf⟩ := bcell hb)
  all_goals
    go_ret
    go_light
    first
      | exact ⟨ret_bool (by grind [Sp.isRoot, Sp.noneOr]), ((Below.refl _ _).alloc (Nat.le_refl _) _).trans (hb.mono (by simp))⟩
      | exact ⟨ret_bool (by grind [Sp.isRoot, Sp.noneOr]), (Below.refl _ _).alloc (Nat.le_refl _) _⟩
end Go.Proofs.YtmcpkhknjdiocaaGreatDoor
namespace Go.Proofs.YtmcpkhknjdiocaaGreatDoor
open Go.RowKit
attribute [local go_sem low] mk_extract
attribute [local go_sem] After.cell After.frozen mk_extract_end ByteArray.mk_append_mk
set_option maxRecDepth 100000 in
set_option maxHeartbeats 1600000 in
theorem dvals_any (l : List Txt) (A : Option Addr) (c : Nat) (least most : Int) {M : Nat → Prop} (w : World) (hr : Txts w M A l) :
    Calls Tryz.prog 113 #[.slice A l.length c, .int .i64 least, .int .i64 most] w fun e w' => e = .returned (.bool (Sp.isVals l least most)) ∧ Below w.heap.size w w' := by
  have hlen := hr.len
  have Hr := Lib.hid hr
  clear hr
  go_enter Tryz.func113, Tryz.ntmps113
  go_wp2
  go_loopw [7] (fun i wr => ∃ k : Nat, k ≤ l.length ∧ i = .int .i64 k ∧ Below w.heap.size w wr ∧ Hid (∀ j, j < k → Sp.valAt l j = true)) (fun i _ => l.length - (intOf i).toNat)
  case atStart => exact ⟨0, Nat.zero_le _, rfl, Below.refl _ _, fun j h => absurd h (by omega)⟩
  case round =>
    obtain ⟨k, hk, rfl, hb, hok⟩ := hrel
    by_cases hlt : k < l.length
    · obtain ⟨b, off, rfl, hbl, hc⟩ := Hr.out.at_ hlt
      have hc0 := (hb.cell (p := ⟨b, off + k, none⟩) hbl).trans (hc k hlt)
      have hc1 := fun (h : 0 < k) => (hb.cell (p := ⟨b, off + (k - 1), none⟩) hbl).trans (hc (k - 1) (by omega))
      have hbw : b < wr.heap.size := by have := hb.size; omega
      clear hc
      have HV := Lib.hid (Sp.valAt_def l k)
      generalize l.getD k [] = x at *
      generalize l.getD (k - 1) [] = y at *
      have hno : ∀ w2, Below wr.heap.size wr w2 → Sp.valAt l k = false → Ending.returned (.bool false) = .returned (.bool (Sp.isVals l least most)) ∧ Below w.heap.size w w2 := fun w2 h2 hv => ⟨by rw [Sp.isVals, Sp.allTo_false hlt hv]; rfl, hb.trans (h2.mono hb.size)⟩
      have hyes : Sp.valAt l k = true → ∀ j, j < k + 1 → Sp.valAt l j = true := fun hv j hj => by
        rcases Nat.lt_succ_iff_lt_or_eq.1 hj with h | rfl
        · exact hok.out j h
        · exact hv
      have HNO := Lib.hid hno
      have HYES := Lib.hid hyes
      clear hno hyes hok
      by_cases h1 : x.length < 1
      · have hd1 : decide ((x.length : Int) < 1) = true := decide_eq_true (by omega)
        go_wp2
        refine wp_region_after (by kernel_rfl) (by kernel_rfl) (wr.heap.size) ?_
        repeat (go_big_quiet_step (fail))
        refine wpQuiet_nil ?_
        intro w2 hb2
        go_wp2
        go_ret
        exact HNO.out _ hb2 (by rw [HV.out, decide_eq_false (by omega : ¬ 1 ≤ x.length)]; rfl)
      have hd1 : decide ((x.length : Int) < 1) = false := decide_eq_false (by omega)
      by_cases h2 : 12 < x.length
      · have hd2 : decide ((x.length : Int) > 12) = true := decide_eq_true (by omega)
        go_wp2
        refine wp_region_after (by kernel_rfl) (by kernel_rfl) (wr.heap.size) ?_
        repeat (go_big_quiet_step (fail))
        refine wpQuiet_nil ?_
        intro w2 hb2
        go_wp2
        go_ret
        exact HNO.out _ hb2 (by rw [HV.out, decide_eq_false (by omega : ¬ x.length ≤ 12), Bool.and_false, Bool.false_and])
      have hd2 : decide ((x.length : Int) > 12) = false := decide_eq_false (by omega)
      by_cases h3 : 0 < k
      · have hc1 := hc1 h3
        rcases hl : Op.bytesLess y x with _ | _
        · go_wp2
          refine wp_region_after (by kernel_rfl) (by kernel_rfl) (wr.heap.size) ?_
          repeat (go_big_quiet_step (fail))
          refine wpQuiet_nil ?_
          intro w2 hb2
          go_wp2
          go_ret
          exact HNO.out _ hb2 (by rw [HV.out, decide_eq_false (by omega : ¬ k = 0), Sp.lt, hl]; simp)
        · go_wp2
          refine wp_region_after (by kernel_rfl) (by kernel_rfl) (wr.heap.size) ?_
          repeat (go_big_quiet_step (fail))
          refine wpQuiet_nil ?_
          intro w2 hb2
          go_wp2
          refine ⟨⟨k + 1, by omega, by go_num, hb.trans (hb2.mono hb.size), HYES.out ?_⟩, by simp [intOf]; omega⟩
          rw [HV.out, Sp.lt, hl, decide_eq_true (by omega : 1 ≤ x.length), decide_eq_true (by omega : x.length ≤ 12)]
          simp
      · have h30 : k = 0 := by omega
        subst h30
        rw [Nat.add_zero] at hc0
        go_wp2
        refine wp_region_after (by kernel_rfl) (by kernel_rfl) (wr.heap.size) ?_
        repeat (go_big_quiet_step (fail))
        refine wpQuiet_nil ?_
        intro w2 hb2
        go_wp2
        refine ⟨⟨1, by omega, by go_num, hb.trans (hb2.mono hb.size), HYES.out ?_⟩, by simp [intOf]; omega⟩
        rw [HV.out, decide_eq_true (by omega : 1 ≤ x.length), decide_eq_true (by omega : x.length ≤ 12)]
        simp
    · have hkl : k = l.length := by omega
      go_wp2
      all_goals
        go_ret
        refine ⟨ret_bool ?_, hb⟩
        go_light
        rw [Sp.isVals, Sp.allTo_true fun j hj => hok.out j (by omega)]
        grind
end Go.Proofs.YtmcpkhknjdiocaaGreatDoor
namespace Go.Proofs.YtmcpkhknjdiocaaGreatDoor
open Go.RowKit
attribute [local go_sem low] mk_extract
attribute [local go_sem] After.cell After.frozen mk_extract_end ByteArray.mk_append_mk
set_option maxRecDepth 100000 in
set_option maxHeartbeats 400000 in
theorem num_any (n : Int) (h0 : 0 ≤ n) (h1 : n < 4611686018427387904) (w : World) :
    Calls Tryz.prog 195 #[.int .i64 n] w fun e w' => e = .returned (.string ⟨(Sp.le8 n).toArray⟩) ∧ Below w.heap.size w w' := by
  go_enter Tryz.func195, Tryz.ntmps195
  go_wp2_with (go_at_call 61; refine (packNum_any _ (by omega) (by omega) _).mono ?_; rintro e w' ⟨rfl, hb⟩)
  go_ret
  exact ⟨rfl, hb⟩
set_option maxRecDepth 100000 in
set_option maxHeartbeats 400000 in
theorem isID_any (n : Int) (w : World) :
    Calls Tryz.prog 182 #[.int .i64 n] w fun e w' => e = .returned (.bool (Sp.isID n)) ∧ Below w.heap.size w w' := by
  go_enter Tryz.func182, Tryz.ntmps182
  go_wp2
  all_goals
    go_ret
    go_light
    exact ⟨ret_bool (by grind [Sp.isID]), Below.refl _ _⟩
set_option maxRecDepth 100000 in
set_option maxHeartbeats 400000 in
theorem noneOr_any (n : Int) (w : World) :
    Calls Tryz.prog 160 #[.int .i64 n] w fun e w' => e = .returned (.bool (Sp.noneOr n)) ∧ Below w.heap.size w w' := by
  go_enter Tryz.func160, Tryz.ntmps160
  go_wp2_with (go_at_call 182; refine (isID_any _ _).mono ?_; rintro e w' ⟨rfl, hb⟩)
  all_goals
    go_ret
    go_light
    exact ⟨ret_bool (by grind [Sp.noneOr]), by first | assumption | exact Below.refl _ _⟩
set_option maxRecDepth 100000 in
set_option maxHeartbeats 400000 in
theorem short_any (s : Txt) (w : World) :
    Calls Tryz.prog 183 #[.string ⟨s.toArray⟩] w fun e w' => e = .returned (.bool (Sp.short s)) ∧ Below w.heap.size w w' := by
  go_enter Tryz.func183, Tryz.ntmps183
  go_wp2
  all_goals
    go_ret
    go_light
    exact ⟨ret_bool (by grind [Sp.short, List.length_pos_iff]), Below.refl _ _⟩
set_option maxRecDepth 100000 in
set_option maxHeartbeats 400000 in
theorem isRoot_any (r : Sp.Root) (w : World) :
    Calls Tryz.prog 159 #[.agg (rootV r).toArray] w fun e w' => e = .returned (.bool (Sp.isRoot r)) ∧ Below w.heap.size w w' := by
  obtain ⟨p, n, f⟩ := r
  simp only [rootV]
  go_enter Tryz.func159, Tryz.ntmps159
  go_wp2_with (go_at_call 160; refine (noneOr_any _ _).mono ?_; rintro e w1 ⟨rfl, hb⟩; obtain ⟨hc, hf⟩ := bcell hb)
  all_goals
    go_ret
    go_light
    exact ⟨ret_bool (by grind [Sp.isRoot]), ((Below.refl _ _).alloc (Nat.le_refl _) _).trans (hb.mono (by simp))⟩
end Go.Proofs.YtmcpkhknjdiocaaGreatDoor
namespace Go.Proofs.YtmcpkhknjdiocaaGreatDoor
open Go.RowKit
attribute [local go_sem low] mk_extract
attribute [local go_sem] After.cell After.frozen mk_extract_end ByteArray.mk_append_mk
set_option maxRecDepth 100000 in
set_option maxHeartbeats 400000 in
theorem equalTxts (l m : List Txt) (A B : Option Addr) (c d : Nat) {M N : Nat → Prop} (w : World) (hl : Txts w M A l) (hm : Txts w N B m) :
    Calls Tryz.prog 208 #[.slice A l.length c, .slice B m.length d] w fun e w' => e = .returned (.bool (decide (l = m))) ∧ Below w.heap.size w w' := by
  have hlen := hl.len
  have hmen := hm.len
  have Hl := Lib.hid hl
  have Hm := Lib.hid hm
  clear hl hm
  by_cases he : l.length = m.length
  · have he1 : ((l.length : Int) == (m.length : Int)) = true := by simp [he]
    have he2 : ((l.length : Int) != (m.length : Int)) = false := by simp [he]
    have HE := Lib.hid he
    clear he
    go_enter Tryz.func208, Tryz.ntmps208
    go_wp2
    go_loopw [13] (fun i wr => ∃ k : Nat, k ≤ l.length ∧ i = .int .i64 k ∧ Below w.heap.size w wr ∧ Hid (∀ j, j < k → l.getD j [] = m.getD j [])) (fun i _ => l.length - (intOf i).toNat)
    case atStart => exact ⟨0, Nat.zero_le _, rfl, Below.refl _ _, fun j h => absurd h (by omega)⟩
    case round =>
      obtain ⟨k, hk, rfl, hb, hok⟩ := hrel
      have hsz := hb.size
      by_cases hlt : k < l.length
      · obtain ⟨b, off, rfl, hbl, hc⟩ := Hl.out.at_ hlt
        obtain ⟨b2, off2, rfl, hbl2, hc2⟩ := Hm.out.at_ (HE.out ▸ hlt : k < m.length)
        have hltm : k < m.length := HE.out ▸ hlt
        have hc0 := (hb.cell (p := ⟨b, off + k, none⟩) hbl).trans (hc k hlt)
        have hc1 := (hb.cell (p := ⟨b2, off2 + k, none⟩) hbl2).trans (hc2 k hltm)
        have hbw : b < wr.heap.size := by omega
        have hbw2 : b2 < wr.heap.size := by omega
        clear hc hc2
        generalize hx : l.getD k [] = x at *
        generalize hy : m.getD k [] = y at *
        have HX := Lib.hid hx
        have HY := Lib.hid hy
        clear hx hy
        go_wp2
        refine wp_region_after (by kernel_rfl) (by kernel_rfl) (wr.heap.size) ?_
        repeat (go_big_quiet_step (fail))
        refine wpQuiet_nil ?_
        intro w2 hb2
        have hb3 := hb.trans (hb2.mono hsz)
        go_wp2
        all_goals first
          | (go_ret
             go_light
             have hne : x ≠ y := by grind
             exact ⟨ret_bool (by simpa using Sp.ne_at (k := k) (d := []) (by rw [HX.out, HY.out]; exact hne)), hb3⟩)
          | (go_light
             have hee : x = y := by grind
             refine ⟨⟨k + 1, by omega, by go_num, hb3, fun j hj => ?_⟩, by simp [intOf]; omega⟩
             rcases Nat.lt_succ_iff_lt_or_eq.1 hj with h | rfl
             · exact hok.out j h
             · rw [HX.out, HY.out]; exact hee)
      · have hkl : k = l.length := by omega
        go_wp2
        go_ret
        refine ⟨ret_bool ?_, hb⟩
        have := Sp.eq_all HE.out (fun j hj => hok.out j (by omega))
        simp [this]
  · have he1 : ((l.length : Int) == (m.length : Int)) = false := by simp; omega
    have he2 : ((l.length : Int) != (m.length : Int)) = true := by simp; omega
    have HE := Lib.hid he
    clear he
    go_enter Tryz.func208, Tryz.ntmps208
    go_wp2
    go_ret
    refine ⟨ret_bool ?_, Below.refl _ _⟩
    have hne : l ≠ m := fun e => HE.out (by rw [e])
    simp [hne]
end Go.Proofs.YtmcpkhknjdiocaaGreatDoor
namespace Go.Proofs.YtmcpkhknjdiocaaGreatDoor
open Go.RowKit
attribute [local go_sem low] mk_extract
attribute [local go_sem] After.cell After.frozen mk_extract_end ByteArray.mk_append_mk
/-- An item by value: its values are a slice that reads. -/
def ownV (x : Sp.Item) (V : Option Addr) (c : Nat) : List Value := if x.kind = 3 then itemV (Sp.own x) V c else itemV (Sp.own x) none 0
set_option maxRecDepth 100000 in
set_option maxHeartbeats 1600000 in
theorem own_any (x : Sp.Item) (V : Option Addr) (c : Nat) (w : World) :
    Calls Tryz.prog 199 #[.agg (itemV x V c).toArray] w fun e w' => e = .returned (.agg (ownV x V c).toArray) ∧ Below w.heap.size w w' := by
  obtain ⟨key, kind, val, run, len, vals, dup, rt⟩ := x
  simp only [itemV]
  by_cases h1 : kind = 1
  · subst h1
    go_enter Tryz.func199, Tryz.ntmps199
    go_wp2
    go_returns
    exact ⟨by simp [ownV, itemV, Sp.own, Sp.root0], by go_grown⟩
  · by_cases h2 : kind = 2
    · subst h2
      go_enter Tryz.func199, Tryz.ntmps199
      go_wp2
      go_region
      go_wp2
      go_returns
      exact ⟨by simp [ownV, itemV, Sp.own, Sp.root0], by go_grown⟩
    · by_cases h3 : kind = 3
      · subst h3
        go_enter Tryz.func199, Tryz.ntmps199
        go_wp2
        go_region
        go_wp2
        go_returns
        exact ⟨by simp [ownV, itemV, Sp.own, Sp.root0], by go_grown⟩
      · by_cases h4 : kind = 4
        · subst h4
          go_enter Tryz.func199, Tryz.ntmps199
          go_wp2
          go_returns
          exact ⟨by simp [ownV, itemV, Sp.own, Sp.root0], by go_grown⟩
        · go_enter Tryz.func199, Tryz.ntmps199
          go_wp2
          go_returns
          exact ⟨by simp [ownV, itemV, Sp.own, Sp.root0, h1, h2, h3, h4], by go_grown⟩
set_option maxRecDepth 100000 in
set_option maxHeartbeats 1600000 in
theorem sameItem_any (x y : Sp.Item) (V W : Option Addr) (c d : Nat) {M N : Nat → Prop} (w : World) (hx : Txts w M V x.vals) (hy : Txts w N W y.vals) :
    Calls Tryz.prog 198 #[.agg (itemV x V c).toArray, .agg (itemV y W d).toArray] w fun e w' => e = .returned (.bool (Sp.sameItem x y)) ∧ Below w.heap.size w w' := by
  obtain ⟨key, kind, val, run, len, vals, dup, ⟨rp, rc, rf⟩⟩ := x
  obtain ⟨key', kind', val', run', len', vals', dup', ⟨rp', rc', rf'⟩⟩ := y
  simp only [itemV]
  have Hx := Lib.hid hx
  have Hy := Lib.hid hy
  clear hx hy
  go_enter Tryz.func198, Tryz.ntmps198
  go_wp2_with (go_at_call 208; refine (equalTxts vals vals' V W c d _ (Hx.out.go (by go_grown)) (Hy.out.go (by go_grown))).mono ?_; rintro e w1 ⟨rfl, hb⟩; obtain ⟨hc, hf⟩ := bcell hb)
  all_goals
    go_ret
    go_light
    refine ⟨ret_bool ?_, by first | (refine Below.trans (b := (w.alloc _).alloc _) ?_ (hb.mono (by simp; omega)); go_grown) | go_grown⟩
    simp only [Sp.sameItem]
    grind
end Go.Proofs.YtmcpkhknjdiocaaGreatDoor
