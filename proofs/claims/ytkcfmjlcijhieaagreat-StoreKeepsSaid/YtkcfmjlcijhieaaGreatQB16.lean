/- The document's equalities: texts, numbers, items. errors.Is where the target is an Errno. -/
import Derived.Test.YtkcfmjlcijhieaaGreatQB01
import Derived.Test.YtkcfmjlcijhieaaGreatQB07
import Derived.Test.YtkcfmjlcijhieaaGreatQB09
import Derived.Lib.IfaceEq
import Derived.LaidEql
import Derived.Stop.Asserts
import Derived.RowKitTokens
set_option linter.unusedSimpArgs false
set_option linter.unusedVariables false
namespace Go.Proofs.YtkcfmjlcijhieaaGreat
open Go.RowKit
attribute [local go_sem low] mk_extract
attribute [local go_sem] After.cell After.frozen mk_extract_end ByteArray.mk_append_mk
set_option maxRecDepth 100000 in
set_option maxHeartbeats 400000 in
theorem dSameTexts (l m : List Txt) (A B : Option Addr) (c d : Nat) {M N : Nat → Prop} (w : World) (hl : Txts w M A l) (hm : Txts w N B m) :
    Calls Tryz.prog 80 #[.slice A l.length c, .slice B m.length d] w fun e w' => e = .returned (.bool (decide (l = m))) ∧ Below w.heap.size w w' := by
  have hlen := hl.len
  have hmen := hm.len
  have Hl := Lib.hid hl
  have Hm := Lib.hid hm
  clear hl hm
  by_cases he : l.length = m.length
  · have he1 : ((l.length : Int) == (m.length : Int)) = true := by simp [he]
    have he2 : ((l.length : Int) != (m.length : Int)) = false := by simp [he]
    have HE := Lib.hid he
    clear he
    go_enter Tryz.func80, Tryz.ntmps80
    go_wp2
    go_loopw [5] (fun i wr => ∃ k : Nat, k ≤ l.length ∧ i = .int .i64 k ∧ Below w.heap.size w wr ∧ Hid (∀ j, j < k → l.getD j [] = m.getD j [])) (fun i _ => l.length - (intOf i).toNat)
    case atStart => exact ⟨0, Nat.zero_le _, rfl, Below.refl _ _, fun j h => absurd h (by omega)⟩
    case round =>
      obtain ⟨k, hk, rfl, hb, hok⟩ := hrel
      have hsz := hb.size
      by_cases hlt : k < l.length
      · obtain ⟨b, off, rfl, hbl, hc⟩ := Hl.out.at_ hlt
        obtain ⟨b2, off2, rfl, hbl2, hc2⟩ := Hm.out.at_ (HE.out ▸ hlt : k < m.length)
        have hltm : k < m.length := HE.out ▸ hlt
        have hc0 := (hb.cell (p := ⟨b, off + k, none⟩) hbl).trans (hc k hlt)
        have hc1 := (hb.cell (p := ⟨b2, off2 + k, none⟩) hbl2).trans (hc2 k hltm)
        have hbw : b < wr.heap.size := by omega
        have hbw2 : b2 < wr.heap.size := by omega
        clear hc hc2
        generalize hx : l.getD k [] = x at *
        generalize hy : m.getD k [] = y at *
        have HX := Lib.hid hx
        have HY := Lib.hid hy
        clear hx hy
        go_wp2
        refine wp_region_after (by kernel_rfl) (by kernel_rfl) (wr.heap.size) ?_
        repeat (go_big_quiet_step (fail))
        refine wpQuiet_nil ?_
        intro w2 hb2
        have hb3 := hb.trans (hb2.mono hsz)
        go_wp2
        all_goals first
          | (go_ret
             go_light
             have hne : x ≠ y := by grind
             exact ⟨ret_bool (by simpa using Sp.ne_at (k := k) (d := []) (by rw [HX.out, HY.out]; exact hne)), hb3⟩)
          | (go_light
             have hee : x = y := by grind
             refine ⟨⟨k + 1, by omega, by go_num, hb3, fun j hj => ?_⟩, by simp [intOf]; omega⟩
             rcases Nat.lt_succ_iff_lt_or_eq.1 hj with h | rfl
             · exact hok.out j h
             · rw [HX.out, HY.out]; exact hee)
      · have hkl : k = l.length := by omega
        go_wp2
        go_ret
        refine ⟨ret_bool ?_, hb⟩
        have := Sp.eq_all HE.out (fun j hj => hok.out j (by omega))
        simp [this]
  · have he1 : ((l.length : Int) == (m.length : Int)) = false := by simp; omega
    have he2 : ((l.length : Int) != (m.length : Int)) = true := by simp; omega
    have HE := Lib.hid he
    clear he
    go_enter Tryz.func80, Tryz.ntmps80
    go_wp2
    go_ret
    refine ⟨ret_bool ?_, Below.refl _ _⟩
    have hne : l ≠ m := fun e => HE.out (by rw [e])
    simp [hne]
set_option maxRecDepth 100000 in
set_option maxHeartbeats 400000 in
theorem dSameInts (l m : List Int) (A B : Option Addr) (c d : Nat) {M N : Nat → Prop} (w : World) (hl : Ints w M A l) (hm : Ints w N B m) :
    Calls Tryz.prog 21 #[.slice A l.length c, .slice B m.length d] w fun e w' => e = .returned (.bool (decide (l = m))) ∧ Below w.heap.size w w' := by
  have hlen := hl.len
  have hmen := hm.len
  have Hl := Lib.hid hl
  have Hm := Lib.hid hm
  clear hl hm
  by_cases he : l.length = m.length
  · have he1 : ((l.length : Int) == (m.length : Int)) = true := by simp [he]
    have he2 : ((l.length : Int) != (m.length : Int)) = false := by simp [he]
    have HE := Lib.hid he
    clear he
    go_enter Tryz.func21, Tryz.ntmps21
    go_wp2
    go_loopw [5] (fun i wr => ∃ k : Nat, k ≤ l.length ∧ i = .int .i64 k ∧ Below w.heap.size w wr ∧ Hid (∀ j, j < k → l.getD j 0 = m.getD j 0)) (fun i _ => l.length - (intOf i).toNat)
    case atStart => exact ⟨0, Nat.zero_le _, rfl, Below.refl _ _, fun j h => absurd h (by omega)⟩
    case round =>
      obtain ⟨k, hk, rfl, hb, hok⟩ := hrel
      have hsz := hb.size
      by_cases hlt : k < l.length
      · obtain ⟨b, off, rfl, hbl, hc⟩ := Hl.out.at_ hlt
        obtain ⟨b2, off2, rfl, hbl2, hc2⟩ := Hm.out.at_ (HE.out ▸ hlt : k < m.length)
        have hltm : k < m.length := HE.out ▸ hlt
        have hc0 := (hb.cell (p := ⟨b, off + k, none⟩) hbl).trans (hc k hlt)
        have hc1 := (hb.cell (p := ⟨b2, off2 + k, none⟩) hbl2).trans (hc2 k hltm)
        have hbw : b < wr.heap.size := by omega
        have hbw2 : b2 < wr.heap.size := by omega
        clear hc hc2
        generalize hx : l.getD k 0 = x at *
        generalize hy : m.getD k 0 = y at *
        have HX := Lib.hid hx
        have HY := Lib.hid hy
        clear hx hy
        go_wp2
        refine wp_region_after (by kernel_rfl) (by kernel_rfl) (wr.heap.size) ?_
        repeat (go_big_quiet_step (fail))
        refine wpQuiet_nil ?_
        intro w2 hb2
        have hb3 := hb.trans (hb2.mono hsz)
        go_wp2
        all_goals first
          | (go_ret
             go_light
             have hne : x ≠ y := by grind
             exact ⟨ret_bool (by simpa using Sp.ne_at (k := k) (d := 0) (by rw [HX.out, HY.out]; exact hne)), hb3⟩)
          | (go_light
             have hee : x = y := by grind
             refine ⟨⟨k + 1, by omega, by go_num, hb3, fun j hj => ?_⟩, by simp [intOf]; omega⟩
             rcases Nat.lt_succ_iff_lt_or_eq.1 hj with h | rfl
             · exact hok.out j h
             · rw [HX.out, HY.out]; exact hee)
      · have hkl : k = l.length := by omega
        go_wp2
        go_ret
        refine ⟨ret_bool ?_, hb⟩
        have := Sp.eq_all HE.out (fun j hj => hok.out j (by omega))
        simp [this]
  · have he1 : ((l.length : Int) == (m.length : Int)) = false := by simp; omega
    have he2 : ((l.length : Int) != (m.length : Int)) = true := by simp; omega
    have HE := Lib.hid he
    clear he
    go_enter Tryz.func21, Tryz.ntmps21
    go_wp2
    go_ret
    refine ⟨ret_bool ?_, Below.refl _ _⟩
    have hne : l ≠ m := fun e => HE.out (by rw [e])
    simp [hne]
end Go.Proofs.YtkcfmjlcijhieaaGreat
namespace Go.Proofs.YtkcfmjlcijhieaaGreat
open Go.RowKit
attribute [local go_sem low] mk_extract
attribute [local go_sem] After.cell After.frozen mk_extract_end ByteArray.mk_append_mk
theorem is_typeOf (v : Value) (w : World) : (Extern.ReflectliteType.typeOf #[.iface ErrT v]).run Tryz.prog w = .ok (.iface 160 (.agg #[typeHandle Tryz.prog ErrT])) w := by kernel_rfl
theorem is_comparable (w : World) : ((Extern.ReflectliteType.method fun t => do Extern.Rtype.noPackHeld "Comparable" t; (fun a => Value.bool a.comparable) <$> typeInfo t) #[.agg #[typeHandle Tryz.prog ErrT]]).run Tryz.prog w = .ok (.bool true) w := by kernel_rfl
theorem is_method (v : Value) (w : World) : (Go.method 120 160 v "Comparable").run Tryz.prog w = .ok (198, v) w := by kernel_rfl
theorem is_comp : (Tryz.prog.info? ErrT).map (·.comparable) = some true := by kernel_rfl
theorem is_noIs (v : Value) (xT : TypeId) (w : World) : (Instr.typeAssert (.iface ErrT v) xT 162 true).run Tryz.prog w = .ok (.tuple #[.nilIface, .bool false]) w := run_typeAssert_lacksB Tryz.underlying162 (by kernel_rfl) (by kernel_rfl) v xT w
theorem is_noUn (v : Value) (xT : TypeId) (w : World) : (Instr.typeAssert (.iface ErrT v) xT 165 true).run Tryz.prog w = .ok (.tuple #[.nilIface, .bool false]) w := run_typeAssert_lacksB Tryz.underlying165 (by kernel_rfl) (by kernel_rfl) v xT w
theorem is_noUns (v : Value) (xT : TypeId) (w : World) : (Instr.typeAssert (.iface ErrT v) xT 167 true).run Tryz.prog w = .ok (.tuple #[.nilIface, .bool false]) w := run_typeAssert_lacksB Tryz.underlying167 (by kernel_rfl) (by kernel_rfl) v xT w
set_option maxRecDepth 100000 in
set_option maxHeartbeats 1600000 in
theorem errIs_nil (b : Int) (w : World) : Calls Tryz.prog 26 #[.nilIface, .iface ErrT (.int .i64 b)] w fun e w' => e = .returned (.bool false) ∧ w' = w := by
  have hn := run_eql_iface_nil_left (P := Tryz.prog) w ErrT (.int .i64 b) Tryz.underlying42
  go_enter Tryz.func26, Tryz.ntmps26
  go_wp2
  go_ret
  exact ⟨rfl, rfl⟩
set_option maxRecDepth 100000 in
set_option maxHeartbeats 1600000 in
theorem errIs_same (a : Int) (w : World) : Calls Tryz.prog 26 #[.iface ErrT (.int .i64 a), .iface ErrT (.int .i64 a)] w fun e w' => e = .returned (.bool true) ∧ w' = w := by
  have h8 := @run_callFunc_extern Tryz.prog 69 _ Extern.ReflectliteType.typeOf Tryz.func69 (by kernel_rfl) (by kernel_rfl) (by kernel_rfl) (by kernel_rfl)
  have h32 := @run_callFunc_extern Tryz.prog 198 _ (Extern.ReflectliteType.method fun t => do Extern.Rtype.noPackHeld "Comparable" t; pure (.bool (← typeInfo t).comparable)) Tryz.func198 (by kernel_rfl) (by kernel_rfl) (by kernel_rfl) (by kernel_rfl)
  have tT := is_typeOf
  have cT := is_comparable
  have mR := is_method
  have heq : (binOp .eql 42 (.iface ErrT (.int .i64 a)) (.iface ErrT (.int .i64 a))).run Tryz.prog w = .ok (.bool true) w := by
    have h := Lib.run_eql_iface_int (P := Tryz.prog) (k := .i64) w a a Tryz.underlying42 is_comp Tryz.underlying55
    simpa using h
  go_enter Tryz.func26, Tryz.ntmps26
  go_wp2
  refine wp_loop_rounds 1 ?_
  rw [rounds_succ]
  go_wp2
  go_ret
  exact ⟨rfl, rfl⟩
set_option maxRecDepth 100000 in
set_option maxHeartbeats 1600000 in
theorem errIs_other (a b : Int) (hab : a ≠ b) (w : World) : Calls Tryz.prog 26 #[.iface ErrT (.int .i64 a), .iface ErrT (.int .i64 b)] w fun e w' => e = .returned (.bool false) ∧ w' = w := by
  have h8 := @run_callFunc_extern Tryz.prog 69 _ Extern.ReflectliteType.typeOf Tryz.func69 (by kernel_rfl) (by kernel_rfl) (by kernel_rfl) (by kernel_rfl)
  have h32 := @run_callFunc_extern Tryz.prog 198 _ (Extern.ReflectliteType.method fun t => do Extern.Rtype.noPackHeld "Comparable" t; pure (.bool (← typeInfo t).comparable)) Tryz.func198 (by kernel_rfl) (by kernel_rfl) (by kernel_rfl) (by kernel_rfl)
  have tT := is_typeOf
  have cT := is_comparable
  have mR := is_method
  have nE := is_noIs
  have uE := is_noUn
  have vE := is_noUns
  have heq : (binOp .eql 42 (.iface ErrT (.int .i64 a)) (.iface ErrT (.int .i64 b))).run Tryz.prog w = .ok (.bool false) w := by
    have h := Lib.run_eql_iface_int (P := Tryz.prog) (k := .i64) w a b Tryz.underlying42 is_comp Tryz.underlying55
    rw [h, beq_eq_false_iff_ne.2 hab]
  clear hab
  go_enter Tryz.func26, Tryz.ntmps26
  go_wp2
  refine wp_loop_rounds 1 ?_
  rw [rounds_succ]
  go_wp2
  go_ret
  exact ⟨rfl, rfl⟩
end Go.Proofs.YtkcfmjlcijhieaaGreat
