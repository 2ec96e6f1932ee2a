/- errors.As at an Errno target: the number is told; nothing that was there is changed but the target. copyholdlaw10: an error's number. The document's equalities: texts, items. Trees of the document: keys in order; a tree whose pages are told by number. Trees of the document: an item put in. Trees of the document: what putting an item in does. The document's stores: in memory; a page's place; half, down. -/
import Derived.Test.YtmcpkhknjdiocaaGreatDoorQB00
import Derived.Test.YtmcpkhknjdiocaaGreatDoorQB01
import Derived.Test.YtmcpkhknjdiocaaGreatDoorQB03
import Derived.Test.YtmcpkhknjdiocaaGreatDoorQB04
import Derived.Test.YtmcpkhknjdiocaaGreatDoorQB11
import Derived.Test.YtmcpkhknjdiocaaGreatDoorProg
import Derived.LaidEql
import Derived.Stop.Asserts
import Derived.RowKitTokens
import Derived.Sort.Walk0
set_option linter.unusedSimpArgs false
set_option linter.unusedVariables false
namespace Go.Proofs.YtmcpkhknjdiocaaGreatDoor
open Go.RowKit Go.Extern.Stop Go.Stop Go.Extern
namespace As
theorem valueOfP (t : Addr) (w : World) : (ReflectliteValue.unpack (.iface 129 (.pointer (some t)))).run Tryz.prog w
    = .ok (.agg #[.pointer (some ⟨1, 129, none⟩), .pointer (some ⟨w.heap.size, 0, none⟩), .int .u64 150]) (w.alloc (.cells #[.pointer (some t)] 129)) := by kernel_rfl
theorem typeP (a : Addr) (w : World) : (ReflectliteValue.methodAny (ReflectliteValue.valueError "reflectlite.Value.Type" 0) (fun t _ _ _ => ReflectliteType.toType t) #[.agg #[.pointer (some ⟨1, 129, none⟩), .pointer (some a), .int .u64 150]]).run Tryz.prog w
    = .ok (.iface 209 (.agg #[.pointer (some ⟨1, 129, none⟩)])) w := by kernel_rfl
theorem methodKind (h : Value) (w : World) : (Go.method 168 209 (.agg #[h]) "Kind").run Tryz.prog w = .ok (223, h) w := by kernel_rfl
theorem kindP (w : World) : ((ReflectliteType.abiMethod fun t => (fun a : Nat => Value.int IntKind.u8 (a : Int)) <$> Rtype.kind t) #[.pointer (some ⟨1, 129, none⟩)]).run Tryz.prog w = .ok (.int .u8 22) w := by kernel_rfl
theorem kindE (w : World) : ((ReflectliteType.abiMethod fun t => (fun a : Nat => Value.int IntKind.u8 (a : Int)) <$> Rtype.kind t) #[.pointer (some ⟨1, 120, none⟩)]).run Tryz.prog w = .ok (.int .u8 2) w := by kernel_rfl
theorem rlm (z : Sem Value) (f : TypeId → Addr → Nat → Nat → Sem Value) (v : Value) :
    ReflectliteValue.method z f #[v] = (do match ← ReflectliteValue.parts v with | none => z | some (t, a, fl) => f t a fl (fl % 32)) := rfl
theorem partsP (a : Addr) (w : World) : (ReflectliteValue.parts (.agg #[.pointer (some ⟨1, 129, none⟩), .pointer (some a), .int .u64 150])).run Tryz.prog w = .ok (some (129, a, 150)) w := by kernel_rfl
theorem isNilP (a p : Addr) (W : World) (ha : W.cell? a = some (.pointer (some p))) :
    (ReflectliteValue.method (ReflectliteValue.valueError "reflectlite.Value.IsNil" 0) ReflectliteValue.isNil #[.agg #[.pointer (some ⟨1, 129, none⟩), .pointer (some a), .int .u64 150]]).run Tryz.prog W = .ok (.bool false) W := by
  rw [rlm]
  simp only [Sem.run_bind, partsP, Result.andThen]
  simp [ReflectliteValue.isNil, loadVar, isAgg, underlying, Tryz.underlying129, ha, Result.andThen]
theorem methodElem (h : Value) (w : World) : (Go.method 168 209 (.agg #[h]) "Elem").run Tryz.prog w = .ok (235, .agg #[h]) w := by kernel_rfl
theorem methodImplements (h : Value) (w : World) : (Go.method 168 209 (.agg #[h]) "Implements").run Tryz.prog w = .ok (236, .agg #[h]) w := by kernel_rfl
theorem methodAssignableTo (h : Value) (w : World) : (Go.method 168 209 (.agg #[h]) "AssignableTo").run Tryz.prog w = .ok (233, .agg #[h]) w := by kernel_rfl
theorem elemP (w : World) : (ReflectliteType.method ReflectliteType.elem #[.agg #[.pointer (some ⟨1, 129, none⟩)]]).run Tryz.prog w = .ok (.iface 209 (.agg #[.pointer (some ⟨1, 120, none⟩)])) w := by kernel_rfl
theorem implementsE (w : World) : (ReflectliteType.relation "Implements" ReflectliteType.implements_ #[.agg #[.pointer (some ⟨1, 120, none⟩)], .iface 209 (.agg #[.pointer (some ⟨1, 51, none⟩)])]).run Tryz.prog w = .ok (.bool true) w := by kernel_rfl
theorem typeOfE (v : Value) (w : World) : (ReflectliteType.typeOf #[.iface 120 v]).run Tryz.prog w = .ok (.iface 209 (.agg #[.pointer (some ⟨1, 120, none⟩)])) w := by kernel_rfl
theorem assignableE (w : World) : (ReflectliteType.relation "AssignableTo" ReflectliteType.assignableTo #[.agg #[.pointer (some ⟨1, 120, none⟩)], .iface 209 (.agg #[.pointer (some ⟨1, 120, none⟩)])]).run Tryz.prog w = .ok (.bool true) w := by kernel_rfl
theorem valueOfE (n : Int) (w : World) : (ReflectliteValue.unpack (.iface 120 (.int .i64 n))).run Tryz.prog w
    = .ok (.agg #[.pointer (some ⟨1, 120, none⟩), .pointer (some ⟨w.heap.size, 0, none⟩), .int .u64 130]) (w.alloc (.cells #[.int .i64 n] 120)) := by kernel_rfl
theorem elemOfP (w : World) : (Rtype.elem? 129).run Tryz.prog w = .ok (some 120) w := by kernel_rfl
theorem mkE (p : Addr) (w : World) : (ReflectliteValue.mk 120 p ReflectliteValue.flagAddr).run Tryz.prog w = .ok (.agg #[.pointer (some ⟨1, 120, none⟩), .pointer (some p), .int .u64 386]) w := by kernel_rfl
theorem elemVP (a p : Addr) (W : World) (ha : W.cell? a = some (.pointer (some p))) :
    (ReflectliteValue.method (ReflectliteValue.valueError "reflectlite.Value.Elem" 0) ReflectliteValue.elem #[.agg #[.pointer (some ⟨1, 129, none⟩), .pointer (some a), .int .u64 150]]).run Tryz.prog W
      = .ok (.agg #[.pointer (some ⟨1, 120, none⟩), .pointer (some p), .int .u64 386]) W := by
  rw [rlm]
  simp only [Sem.run_bind, partsP, Result.andThen]
  simp [ReflectliteValue.elem, loadVar, isAgg, underlying, Tryz.underlying129, ha, Result.andThen, elemOfP, mkE]
theorem rls (v x : Value) : ReflectliteValue.set #[v, x] = (do
    let (some (dst, a, fl), some (src, b, _)) := (← ReflectliteValue.parts v, ← ReflectliteValue.parts x)
      | unsupported (.noEntry "extern/(internal/reflectlite.Value).Set.zeroValue")
    if fl / ReflectliteValue.flagAddr % 2 == 0 then unsupported (.noEntry "extern/(internal/reflectlite.Value).Set.unaddressable")
    let val ← loadVar src b
    if ← Rtype.directlyAssignable dst src then storeVar dst a val
    else if ← Rtype.implements dst src then
      if (← Rtype.kind src) == 20 then
        match val with
        | .nilIface => unsupported (.noEntry "extern/reflectlite: a nil value of one interface type handed on as a value of another")
        | _ => storeVar dst a val
      else storeVar dst a (.iface src val)
    else panicString ("reflectlite.Set: value of type " ++ (← Rtype.spelt src) ++ " is not assignable to type " ++ (← Rtype.spelt dst))
    pure (.tuple #[])) := rfl
theorem partsEa (a : Addr) (w : World) : (ReflectliteValue.parts (.agg #[.pointer (some ⟨1, 120, none⟩), .pointer (some a), .int .u64 386])).run Tryz.prog w = .ok (some (120, a, 386)) w := by kernel_rfl
theorem partsE (a : Addr) (w : World) : (ReflectliteValue.parts (.agg #[.pointer (some ⟨1, 120, none⟩), .pointer (some a), .int .u64 130])).run Tryz.prog w = .ok (some (120, a, 130)) w := by kernel_rfl
theorem directE (w : World) : (Rtype.directlyAssignable 120 120).run Tryz.prog w = .ok true w := by kernel_rfl
theorem setE (ta b : Addr) (n : Int) (old : Value) (W : World) (hb : W.cell? b = some (.int .i64 n)) (ht : W.cell? ta = some old) (hf : W.frozen? ta = false) :
    (ReflectliteValue.set #[.agg #[.pointer (some ⟨1, 120, none⟩), .pointer (some ta), .int .u64 386], .agg #[.pointer (some ⟨1, 120, none⟩), .pointer (some b), .int .u64 130]]).run Tryz.prog W
      = .ok (.tuple #[]) (W.setCell ta (.int .i64 n)) := by
  rw [rls]
  simp only [Sem.run_bind, partsEa, partsE, Result.andThen]
  simp [ReflectliteValue.flagAddr, loadVar, isAgg, underlying, Tryz.underlying120, hb, Result.andThen, directE, storeVar, Value.cells, storeCells, Addr.add]
  rw [run_store Tryz.prog W ta _ _ (by rfl)]
  simp [ht, hf]
end As
/-- The variable that errors.As reads: the type of an error. -/
def ErrVar (w : World) : Prop := w.cell? ⟨0, 0, none⟩ = some (.iface 209 (.agg #[.pointer (some ⟨1, 51, none⟩)]))
theorem ErrVar.lt {w : World} (h : ErrVar w) : 0 < w.heap.size := by
  rcases Nat.eq_zero_or_pos w.heap.size with h0 | h1
  · simp [ErrVar, World.cell?, h0] at h
  · exact h1
theorem ErrVar.go {w w' : World} (h : ErrVar w) (hb : Below w.heap.size w w') : ErrVar w' := (hb.cell (p := ⟨0, 0, none⟩) h.lt).trans h
set_option maxRecDepth 100000 in
set_option maxHeartbeats 4000000 in
theorem errAs_hit (n : Int) (t : Addr) (old : Value) (w : World) (hg : ErrVar w) (ht0 : w.cell? t = some old) (hf0 : w.frozen? t = false) :
    Calls Tryz.prog 60 #[.iface 120 (.int .i64 n), .iface 129 (.pointer (some t))] w fun ev w' => ev = .returned (.bool true) ∧ w' = ((((w.alloc (.cells #[.pointer (some t)] 129)).alloc (.cells #[.pointer (some ⟨1, 129, none⟩), .pointer (some ⟨w.heap.size, 0, none⟩), .int .u64 150] 165)).alloc (.cells #[.pointer (some ⟨1, 129, none⟩), .pointer (some ⟨w.heap.size, 0, none⟩), .int .u64 150] 165)).alloc (.cells #[.int .i64 n] 120)).setCell t (.int .i64 n) := by
  have h6 := @run_callFunc_extern Tryz.prog 90 _ (fun args => ReflectliteValue.unpack (args.getD 0 (.tuple #[]))) Tryz.func90 (by kernel_rfl) (by kernel_rfl) (by kernel_rfl) (by kernel_rfl)
  have h7 := @run_callFunc_extern Tryz.prog 91 _ (ReflectliteValue.methodAny (ReflectliteValue.valueError "reflectlite.Value.Type" 0) (fun t _ _ _ => ReflectliteType.toType t)) Tryz.func91 (by kernel_rfl) (by kernel_rfl) (by kernel_rfl) (by kernel_rfl)
  have h8 := @run_callFunc_extern Tryz.prog 92 _ (ReflectliteValue.method (ReflectliteValue.valueError "reflectlite.Value.IsNil" 0) ReflectliteValue.isNil) Tryz.func92 (by kernel_rfl) (by kernel_rfl) (by kernel_rfl) (by kernel_rfl)
  have h27 := @run_callFunc_extern Tryz.prog 223 _ (ReflectliteType.abiMethod fun t => do pure (.int .u8 (← Rtype.kind t))) Tryz.func223 (by kernel_rfl) (by kernel_rfl) (by kernel_rfl) (by kernel_rfl)
  have h37 := @run_callFunc_extern Tryz.prog 235 _ (ReflectliteType.method ReflectliteType.elem) Tryz.func235 (by kernel_rfl) (by kernel_rfl) (by kernel_rfl) (by kernel_rfl)
  have h38 := @run_callFunc_extern Tryz.prog 236 _ (ReflectliteType.relation "Implements" ReflectliteType.implements_) Tryz.func236 (by kernel_rfl) (by kernel_rfl) (by kernel_rfl) (by kernel_rfl)
  have h10 := @run_callFunc_extern Tryz.prog 94 _ ReflectliteType.typeOf Tryz.func94 (by kernel_rfl) (by kernel_rfl) (by kernel_rfl) (by kernel_rfl)
  have h35 := @run_callFunc_extern Tryz.prog 233 _ (ReflectliteType.relation "AssignableTo" ReflectliteType.assignableTo) Tryz.func233 (by kernel_rfl) (by kernel_rfl) (by kernel_rfl) (by kernel_rfl)
  have h11 := @run_callFunc_extern Tryz.prog 119 _ (ReflectliteValue.method (ReflectliteValue.valueError "reflectlite.Value.Elem" 0) ReflectliteValue.elem) Tryz.func119 (by kernel_rfl) (by kernel_rfl) (by kernel_rfl) (by kernel_rfl)
  have h12 := @run_callFunc_extern Tryz.prog 120 _ ReflectliteValue.set Tryz.func120 (by kernel_rfl) (by kernel_rfl) (by kernel_rfl) (by kernel_rfl)
  have tO := As.typeOfE
  have mA := As.methodAssignableTo
  have a25 := As.assignableE
  have v25 := As.valueOfE
  have f6 := As.valueOfP
  have f7 := As.typeP
  have mK := As.methodKind
  have mE := As.methodElem
  have mI := As.methodImplements
  have k27 := As.kindP
  have k25 := As.kindE
  have e27 := As.elemP
  have i25 := As.implementsE
  have n8 := As.isNilP ⟨w.heap.size, 0, none⟩ t ((w.alloc (.cells #[.pointer (some t)] 129)).alloc (.cells #[.pointer (some ⟨1, 129, none⟩), .pointer (some ⟨w.heap.size, 0, none⟩), .int .u64 150] 165)) (by simp)
  have hlt := hg.lt
  have hg : w.cell? ⟨0, 0, none⟩ = some (.iface 209 (.agg #[.pointer (some ⟨1, 51, none⟩)])) := hg
  have hg2 : ((w.alloc (.cells #[.pointer (some t)] 129)).alloc (.cells #[.pointer (some ⟨1, 129, none⟩), .pointer (some ⟨w.heap.size, 0, none⟩), .int .u64 150] 165)).cell? ⟨0, 0, none⟩ = some (.iface 209 (.agg #[.pointer (some ⟨1, 51, none⟩)])) := by
    rw [World.cell?_alloc_lt _ _ ⟨0, 0, none⟩ (by simp), World.cell?_alloc_lt _ _ ⟨0, 0, none⟩ hlt]; exact hg
  have htl : t.block < w.heap.size := by
    rcases Nat.lt_or_ge t.block w.heap.size with h | h
    · exact h
    · simp [World.cell?, Array.getElem?_eq_none h] at ht0
  have el := As.elemVP ⟨w.heap.size, 0, none⟩ t (((w.alloc (.cells #[.pointer (some t)] 129)).alloc (.cells #[.pointer (some ⟨1, 129, none⟩), .pointer (some ⟨w.heap.size, 0, none⟩), .int .u64 150] 165)).alloc (.cells #[.pointer (some ⟨1, 129, none⟩), .pointer (some ⟨w.heap.size, 0, none⟩), .int .u64 150] 165)) (by rw [World.cell?_alloc_lt _ _ ⟨w.heap.size, 0, none⟩ (by simp; omega)]; simp)
  have st := As.setE t ⟨w.heap.size + 1 + 1 + 1, 0, none⟩ n old ((((w.alloc (.cells #[.pointer (some t)] 129)).alloc (.cells #[.pointer (some ⟨1, 129, none⟩), .pointer (some ⟨w.heap.size, 0, none⟩), .int .u64 150] 165)).alloc (.cells #[.pointer (some ⟨1, 129, none⟩), .pointer (some ⟨w.heap.size, 0, none⟩), .int .u64 150] 165)).alloc (.cells #[.int .i64 n] 120))
    (by rw [World.cell?_alloc_at _ _ _ _ (by simp)]; rfl)
    (by rw [World.cell?_alloc_lt _ _ t (by simp; omega), World.cell?_alloc_lt _ _ t (by simp; omega), World.cell?_alloc_lt _ _ t (by simp; omega), World.cell?_alloc_lt _ _ t htl]; exact ht0)
    (by rw [World.frozen?_alloc_old _ _ t (by simp; omega), World.frozen?_alloc_old _ _ t (by simp; omega), World.frozen?_alloc_old _ _ t (by simp; omega), World.frozen?_alloc_old _ _ t (Nat.ne_of_lt htl)]; exact hf0)
  go_enter Tryz.func60, Tryz.ntmps60
  go_wp2
  refine wp_loop_rounds 1 ?_
  rw [rounds_succ]
  go_wp2
  go_ret
  exact ⟨rfl, rfl⟩
theorem errAs_any (n : Int) (b : Nat) (old : Value) (w : World) (hg : ErrVar w) (hb : Blk w b 120 #[old]) :
    Calls Tryz.prog 60 #[.iface 120 (.int .i64 n), .iface 129 (.pointer (some ⟨b, 0, none⟩))] w fun ev w' => ev = .returned (.bool true) ∧ Blk w' b 120 #[.int .i64 n] ∧ Chg (OneM b) w w' := by
  refine (errAs_hit n ⟨b, 0, none⟩ old w hg (hb.cell 0) (hb.frozen 0)).mono ?_
  rintro e w' ⟨rfl, rfl⟩
  refine ⟨rfl, ?_, ?_⟩
  · exact ((((hb.alloc _).alloc _).alloc _).alloc _).set_ 0 (.int .i64 n)
  · exact ((((Chg.refl (OneM b) w).alloc _).alloc _).alloc _).alloc _ |>.setCell (p := ⟨b, 0, none⟩) (.inl rfl) _
end Go.Proofs.YtmcpkhknjdiocaaGreatDoor
namespace Go.Proofs.YtmcpkhknjdiocaaGreatDoor
open Go.RowKit
attribute [local go_sem low] mk_extract
attribute [local go_sem] After.cell After.frozen mk_extract_end ByteArray.mk_append_mk
set_option maxRecDepth 100000 in
set_option maxHeartbeats 1600000 in
theorem code_nil (w : World) : Calls Tryz.prog 39 #[.nilIface] w fun e w' => e = .returned (.int .i64 0) ∧ Below w.heap.size w w' := by
  go_enter Tryz.func39, Tryz.ntmps39
  go_wp2_with fail
  go_ret
  exact ⟨rfl, (Below.refl _ _).alloc (Nat.le_refl _) _⟩
set_option maxRecDepth 100000 in
set_option maxHeartbeats 1600000 in
theorem code_no (n : Int) (w : World) (hg : ErrVar w) : Calls Tryz.prog 39 #[.iface ErrT (.int .i64 n)] w fun e w' => e = .returned (.int .i64 n) ∧ Below w.heap.size w w' := by
  have hal : Below w.heap.size w (w.alloc (.cells #[.int .i64 0] ErrT)) := (Below.refl _ _).alloc (Nat.le_refl _) _
  have HG := Lib.hid (hg.go hal)
  have HB := Lib.hid (Blk.new w ErrT #[.int .i64 0])
  have HAL := Lib.hid hal
  clear hg hal
  go_enter Tryz.func39, Tryz.ntmps39
  go_wp2_with (go_at_call 60; refine (errAs_any n w.heap.size (.int .i64 0) _ HG.out HB.out).mono ?_; rintro e w2 ⟨rfl, hb2, hk2⟩; have c0 : w2.cell? ⟨w.heap.size, 0, none⟩ = some (.int .i64 n) := hb2.cell 0; have HK := Lib.hid hk2; clear hb2 hk2)
  go_ret
  exact ⟨rfl, HAL.out.trans (HK.out.below HAL.out.size fun k hk e => by have : k = w.heap.size := e; omega)⟩
end Go.Proofs.YtmcpkhknjdiocaaGreatDoor
namespace Go.Proofs.YtmcpkhknjdiocaaGreatDoor
open Go.RowKit
attribute [local go_sem low] mk_extract
attribute [local go_sem] After.cell After.frozen mk_extract_end ByteArray.mk_append_mk
set_option maxRecDepth 100000 in
set_option maxHeartbeats 400000 in
theorem dSameTexts (l m : List Txt) (A B : Option Addr) (c d : Nat) {M N : Nat → Prop} (w : World) (hl : Txts w M A l) (hm : Txts w N B m) :
    Calls Tryz.prog 73 #[.slice A l.length c, .slice B m.length d] w fun e w' => e = .returned (.bool (decide (l = m))) ∧ Below w.heap.size w w' := by
  have hlen := hl.len
  have hmen := hm.len
  have Hl := Lib.hid hl
  have Hm := Lib.hid hm
  clear hl hm
  by_cases he : l.length = m.length
  · have he1 : ((l.length : Int) == (m.length : Int)) = true := by simp [he]
    have he2 : ((l.length : Int) != (m.length : Int)) = false := by simp [he]
    have HE := Lib.hid he
    clear he
    go_enter Tryz.func73, Tryz.ntmps73
    go_wp2
    go_loopw [5] (fun i wr => ∃ k : Nat, k ≤ l.length ∧ i = .int .i64 k ∧ Below w.heap.size w wr ∧ Hid (∀ j, j < k → l.getD j [] = m.getD j [])) (fun i _ => l.length - (intOf i).toNat)
    case atStart => exact ⟨0, Nat.zero_le _, rfl, Below.refl _ _, fun j h => absurd h (by omega)⟩
    case round =>
      obtain ⟨k, hk, rfl, hb, hok⟩ := hrel
      have hsz := hb.size
      by_cases hlt : k < l.length
      · obtain ⟨b, off, rfl, hbl, hc⟩ := Hl.out.at_ hlt
        obtain ⟨b2, off2, rfl, hbl2, hc2⟩ := Hm.out.at_ (HE.out ▸ hlt : k < m.length)
        have hltm : k < m.length := HE.out ▸ hlt
        have hc0 := (hb.cell (p := ⟨b, off + k, none⟩) hbl).trans (hc k hlt)
        have hc1 := (hb.cell (p := ⟨b2, off2 + k, none⟩) hbl2).trans (hc2 k hltm)
        have hbw : b < wr.heap.size := by omega
        have hbw2 : b2 < wr.heap.size := by omega
        clear hc hc2
        generalize hx : l.getD k [] = x at *
        generalize hy : m.getD k [] = y at *
        have HX := Lib.hid hx
        have HY := Lib.hid hy
        clear hx hy
        go_wp2
        refine wp_region_after (by kernel_rfl) (by kernel_rfl) (wr.heap.size) ?_
        repeat (go_big_quiet_step (fail))
        refine wpQuiet_nil ?_
        intro w2 hb2
        have hb3 := hb.trans (hb2.mono hsz)
        go_wp2
        all_goals first
          | (go_ret
             go_light
             have hne : x ≠ y := by grind
             exact ⟨ret_bool (by simpa using Sp.ne_at (k := k) (d := []) (by rw [HX.out, HY.out]; exact hne)), hb3⟩)
          | (go_light
             have hee : x = y := by grind
             refine ⟨⟨k + 1, by omega, by go_num, hb3, fun j hj => ?_⟩, by simp [intOf]; omega⟩
             rcases Nat.lt_succ_iff_lt_or_eq.1 hj with h | rfl
             · exact hok.out j h
             · rw [HX.out, HY.out]; exact hee)
      · have hkl : k = l.length := by omega
        go_wp2
        go_ret
        refine ⟨ret_bool ?_, hb⟩
        have := Sp.eq_all HE.out (fun j hj => hok.out j (by omega))
        simp [this]
  · have he1 : ((l.length : Int) == (m.length : Int)) = false := by simp; omega
    have he2 : ((l.length : Int) != (m.length : Int)) = true := by simp; omega
    have HE := Lib.hid he
    clear he
    go_enter Tryz.func73, Tryz.ntmps73
    go_wp2
    go_ret
    refine ⟨ret_bool ?_, Below.refl _ _⟩
    have hne : l ≠ m := fun e => HE.out (by rw [e])
    simp [hne]
set_option maxRecDepth 100000 in
set_option maxHeartbeats 1600000 in
theorem dSameItem (x y : Sp.Item) (V W : Option Addr) (c d : Nat) {M N : Nat → Prop} (w : World) (hx : Txts w M V x.vals) (hy : Txts w N W y.vals) :
    Calls Tryz.prog 40 #[.agg (itemV x V c).toArray, .agg (itemV y W d).toArray] w fun e w' => e = .returned (.bool (Sp.sameItem x y)) ∧ Below w.heap.size w w' := by
  obtain ⟨key, kind, val, run, len, vals, dup, ⟨rp, rc, rf⟩⟩ := x
  obtain ⟨key', kind', val', run', len', vals', dup', ⟨rp', rc', rf'⟩⟩ := y
  simp only [itemV]
  have Hx := Lib.hid hx
  have Hy := Lib.hid hy
  clear hx hy
  go_enter Tryz.func40, Tryz.ntmps40
  go_wp2_with (go_at_call 73; refine (dSameTexts vals vals' V W c d _ (Hx.out.go (by go_grown)) (Hy.out.go (by go_grown))).mono ?_; rintro e w1 ⟨rfl, hb⟩; obtain ⟨hc, hf⟩ := bcell hb)
  all_goals
    go_ret
    go_light
    refine ⟨ret_bool ?_, by first | (refine Below.trans (b := (w.alloc _).alloc _) ?_ (hb.mono (by simp; omega)); go_grown) | go_grown⟩
    simp only [Sp.sameItem]
    grind
end Go.Proofs.YtmcpkhknjdiocaaGreatDoor
namespace Go.Proofs.YtmcpkhknjdiocaaGreatDoor
open Go.RowKit
attribute [local go_sem low] mk_extract
attribute [local go_sem] After.cell After.frozen mk_extract_end ByteArray.mk_append_mk
namespace Sp
theorem lt_eq (a b : Txt) : lt a b = decide (a < b) := bytesLess_eq a b
theorem lt_irr (a : Txt) : lt a a = false := by
  rw [lt_eq]
  exact decide_eq_false (List.lt_irrefl a)
theorem lt_trans {a b c : Txt} (h1 : lt a b = true) (h2 : lt b c = true) : lt a c = true := by
  rw [lt_eq] at *
  exact decide_eq_true (List.lt_trans (of_decide_eq_true h1) (of_decide_eq_true h2))
theorem lt_asymm {a b : Txt} (h : lt a b = true) : lt b a = false := by
  rcases hb : lt b a with _ | _
  · rfl
  · exact absurd (lt_trans h hb) (by rw [lt_irr]; simp)
theorem lt_tri (a b : Txt) : lt a b = true ∨ a = b ∨ lt b a = true := by
  rw [lt_eq, lt_eq]
  by_cases h1 : a < b
  · exact .inl (decide_eq_true h1)
  · by_cases h2 : b < a
    · exact .inr (.inr (decide_eq_true h2))
    · exact .inr (.inl (List.le_antisymm (List.not_lt.1 h2) (List.not_lt.1 h1)))
theorem lt_nilF (a : Txt) : lt a [] = false := by
  unfold lt Op.bytesLess
  rfl
/-- An item put into a leaf's. -/
def insIt (x : Item) : List Item → List Item
  | [] => [x]
  | y :: l => if lt y.key x.key then y :: insIt x l else if y.key = x.key then x :: l else x :: y :: l
/-- Items whose keys rise. -/
def Rising (l : List Item) : Prop := l.Pairwise fun a b => lt a.key b.key = true
theorem insIt_len (x : Item) : ∀ l : List Item, l.length ≤ (insIt x l).length ∧ (insIt x l).length ≤ l.length + 1
  | [] => by simp [insIt]
  | y :: l => by
    have := insIt_len x l
    unfold insIt
    split
    · simp; omega
    · split <;> simp
theorem mem_insIt {x y : Item} : ∀ {l : List Item}, y ∈ insIt x l → y = x ∨ y ∈ l
  | [], h => by simpa [insIt] using h
  | z :: l, h => by
    unfold insIt at h
    split at h
    · rcases List.mem_cons.1 h with h | h
      · exact .inr (by simp [h])
      · rcases mem_insIt h with h | h
        · exact .inl h
        · exact .inr (by simp [h])
    · split at h
      · rcases List.mem_cons.1 h with h | h
        · exact .inl h
        · exact .inr (by simp [h])
      · rcases List.mem_cons.1 h with h | h
        · exact .inl h
        · exact .inr h
theorem insIt_rising (x : Item) : ∀ {l : List Item}, Rising l → Rising (insIt x l)
  | [], _ => by simp [insIt, Rising]
  | y :: l, h => by
    obtain ⟨h1, h2⟩ := List.pairwise_cons.1 h
    unfold insIt
    split
    · rename_i hy
      refine List.pairwise_cons.2 ⟨fun z hz => ?_, insIt_rising x h2⟩
      rcases mem_insIt hz with rfl | hz
      · exact hy
      · exact h1 z hz
    · rename_i hy
      split
      · rename_i he
        exact List.pairwise_cons.2 ⟨fun z hz => by rw [← he]; exact h1 z hz, h2⟩
      · rename_i he
        have hxy : lt x.key y.key = true := by
          rcases lt_tri y.key x.key with h' | h' | h'
          · exact absurd h' hy
          · exact absurd h' he
          · exact h'
        exact List.pairwise_cons.2 ⟨fun z hz => by
          rcases List.mem_cons.1 hz with rfl | hz
          · exact hxy
          · exact lt_trans hxy (h1 z hz), h⟩
/-- Put into one of two rows, where it belongs. -/
theorem insIt_left {x : Item} : ∀ {l r : List Item}, (∀ y ∈ r, lt x.key y.key = true) → insIt x (l ++ r) = insIt x l ++ r
  | [], [], _ => rfl
  | [], y :: r, h => by
    have hy := h y (by simp)
    show insIt x (y :: r) = [x] ++ y :: r
    unfold insIt
    rw [if_neg (by rw [lt_asymm hy]; simp), if_neg (fun e => by rw [e, lt_irr] at hy; simp at hy)]
    rfl
  | z :: l, r, h => by
    rw [List.cons_append]
    unfold insIt
    split
    · rw [insIt_left h]; rfl
    · split <;> rfl
theorem insIt_right {x : Item} : ∀ {l r : List Item}, (∀ y ∈ l, lt y.key x.key = true) → insIt x (l ++ r) = l ++ insIt x r
  | [], _, _ => rfl
  | z :: l, r, h => by
    rw [List.cons_append]
    show insIt x (z :: (l ++ r)) = z :: (l ++ insIt x r)
    rw [insIt, if_pos (h z (by simp)), insIt_right fun y hy => h y (by simp [hy])]
end Sp
end Go.Proofs.YtmcpkhknjdiocaaGreatDoor
namespace Go.Proofs.YtmcpkhknjdiocaaGreatDoor
open Go.RowKit
attribute [local go_sem low] mk_extract
attribute [local go_sem] After.cell After.frozen mk_extract_end ByteArray.mk_append_mk
namespace Sp
/-- A tree of so many levels of branches: pages by number, children each with its key. -/
def T : Nat → Type
  | 0 => Nat × List Item
  | d + 1 => Nat × List (Txt × T d)
def T.id : (d : Nat) → T d → Nat
  | 0, t => t.1
  | _ + 1, t => t.1
def T.items : (d : Nat) → T d → List Item
  | 0, t => t.2
  | d + 1, t => t.2.flatMap fun c => T.items d c.2
/-- Which child: the last one whose key isn't above. -/
def downI {α : Type} (key : Txt) : List (Txt × α) → Nat
  | [] => 0
  | [_] => 0
  | _ :: c :: cs => if lt key c.1 then 0 else downI key (c :: cs) + 1
/-- A child replaced, maybe by two. -/
def graft {α : Type} (k : Nat) (t : α) (more : Option (Txt × α)) (cs : List (Txt × α)) : List (Txt × α) :=
  match cs[k]? with
  | none => cs
  | some c => cs.take k ++ (c.1, t) :: (more.toList ++ cs.drop (k + 1))
/-- An item put in: the tree as it is now, behind it a new one with its key; the next free number. -/
def T.put (x : Item) : (d : Nat) → T d → Nat → T d × Option (Txt × T d) × Nat
  | 0, t, n => if (insIt x t.2).length ≤ 4 then ((t.1, insIt x t.2), none, n) else ((t.1, (insIt x t.2).take 3), some (((insIt x t.2).getD 3 item0).key, (n, (insIt x t.2).drop 3)), n + 1)
  | d + 1, t, n => match t.2[downI x.key t.2]? with
    | none => (t, none, n)
    | some c => let r := T.put x d c.2 n
      let cs := graft (downI x.key t.2) r.1 r.2.1 t.2
      if cs.length ≤ 4 then ((t.1, cs), none, r.2.2)
      else match cs.drop 3 with
        | [] => (t, none, n)
        | b :: bs => ((t.1, cs.take 3), some (b.1, (r.2.2, ([], b.2) :: bs)), r.2.2 + 1)
/-- Children that are parted by their keys. -/
def Parted {α : Type} (f : α → List Item) (cs : List (Txt × α)) : Prop :=
  cs.Pairwise (fun a b => ∀ y ∈ f a.2, lt y.key b.1 = true) ∧ ∀ c ∈ cs, ∀ y ∈ f c.2, lt y.key c.1 = false
/-- A right tree (a root may be small). -/
def T.Ok : (d : Nat) → Bool → T d → Prop
  | 0, top, t => t.2.length ≤ 4 ∧ (if top then 1 else 2) ≤ t.2.length ∧ Rising t.2 ∧ ∀ y ∈ t.2, isItem y = true
  | d + 1, _, t => 2 ≤ t.2.length ∧ t.2.length ≤ 4 ∧ (t.2.map (·.1)).head? = some [] ∧ Parted (T.items d) t.2 ∧ (∀ c ∈ t.2.tail, short c.1 = true) ∧ ∀ c ∈ t.2, T.Ok d false c.2
theorem T.Ok.top {d : Nat} {t : T d} (h : T.Ok d false t) : T.Ok d true t := by
  cases d with
  | zero => exact ⟨h.1, Nat.le_trans (by decide) h.2.1, h.2.2⟩
  | succ d => exact h
theorem T.Ok.ne {d : Nat} {b : Bool} {t : T d} (h : T.Ok d b t) : T.items d t ≠ [] := by
  induction d generalizing b with
  | zero =>
    intro e
    have h2 := h.2.1
    have : t.2 = [] := e
    rw [this] at h2
    cases b <;> simp at h2
  | succ d ih =>
    intro e
    obtain ⟨h1, _, _, _, _, h6⟩ := h
    match hc : t.2 with
    | [] => rw [hc] at h1; simp at h1
    | c :: cs =>
      have hcm : c ∈ t.2 := by rw [hc]; simp
      apply ih (h6 c hcm)
      have e' : t.2.flatMap (fun c => T.items d c.2) = [] := e
      rw [List.flatMap_eq_nil_iff] at e'
      exact e' c hcm
theorem parted_rising {α : Type} {f : α → List Item} : ∀ {cs : List (Txt × α)}, Parted f cs → (∀ c ∈ cs, Rising (f c.2)) → Rising (cs.flatMap fun c => f c.2)
  | [], _, _ => List.Pairwise.nil
  | c :: cs, ⟨h1, h2⟩, h3 => by
    obtain ⟨h4, h5⟩ := List.pairwise_cons.1 h1
    rw [List.flatMap_cons]
    refine List.pairwise_append.2 ⟨h3 c (by simp), parted_rising ⟨h5, fun c hc => h2 c (by simp [hc])⟩ (fun c hc => h3 c (by simp [hc])), fun y hy z hz => ?_⟩
    obtain ⟨c', hc', hz⟩ := List.mem_flatMap.1 hz
    have a := h4 c' hc' y hy
    have b := h2 c' (by simp [hc']) z hz
    rcases lt_tri c'.1 z.key with h | h | h
    · exact lt_trans a h
    · rw [← h]; exact a
    · rw [b] at h; simp at h
theorem T.Ok.rising {d : Nat} {b : Bool} {t : T d} (h : T.Ok d b t) : Rising (T.items d t) := by
  induction d generalizing b with
  | zero => exact h.2.2.1
  | succ d ih =>
    obtain ⟨_, _, _, h4, _, h6⟩ := h
    exact parted_rising h4 fun c hc => ih (h6 c hc)
theorem T.Ok.item {d : Nat} {b : Bool} {t : T d} (h : T.Ok d b t) : ∀ y ∈ T.items d t, isItem y = true := by
  induction d generalizing b with
  | zero => exact h.2.2.2
  | succ d ih =>
    obtain ⟨_, _, _, _, _, h6⟩ := h
    intro y hy
    obtain ⟨c, hc, hy⟩ := List.mem_flatMap.1 hy
    exact ih (h6 c hc) y hy
end Sp
end Go.Proofs.YtmcpkhknjdiocaaGreatDoor
namespace Go.Proofs.YtmcpkhknjdiocaaGreatDoor
open Go.RowKit
attribute [local go_sem low] mk_extract
attribute [local go_sem] After.cell After.frozen mk_extract_end ByteArray.mk_append_mk
namespace Sp
theorem le_lt {a b z : Txt} (h1 : lt z a = false) (h2 : lt z b = true) : lt a b = true := by
  rcases lt_tri a z with h | h | h
  · exact lt_trans h h2
  · rw [h]; exact h2
  · rw [h1] at h; simp at h
theorem lt_le {a b z : Txt} (h1 : lt a b = true) (h2 : lt z b = false) : lt a z = true := by
  rcases lt_tri b z with h | h | h
  · exact lt_trans h1 h
  · rw [← h]; exact h1
  · rw [h2] at h; simp at h
def KeysRise {α : Type} (cs : List (Txt × α)) : Prop := cs.Pairwise fun a b => lt a.1 b.1 = true
theorem parted_keys {α : Type} {f : α → List Item} {cs : List (Txt × α)} (h : Parted f cs) (hne : ∀ c ∈ cs, f c.2 ≠ []) : KeysRise cs := by
  refine List.Pairwise.imp_of_mem (fun {a b} ha _ hab => ?_) h.1
  obtain ⟨z, hz⟩ := List.exists_mem_of_ne_nil _ (hne a ha)
  exact le_lt (h.2 a ha z hz) (hab z hz)
theorem downI_lt {α : Type} (key : Txt) : ∀ {cs : List (Txt × α)}, cs ≠ [] → downI key cs < cs.length
  | [], h => absurd rfl h
  | [_], _ => by simp [downI]
  | _ :: c :: cs, _ => by
    have := downI_lt key (cs := c :: cs) (by simp)
    unfold downI
    split
    · simp
    · simp only [List.length_cons] at *; omega
theorem downI_post {α : Type} (key : Txt) : ∀ {cs : List (Txt × α)}, KeysRise cs → ∀ p ∈ cs.drop (downI key cs + 1), lt key p.1 = true
  | [], _, p, hp => by simp at hp
  | [_], _, p, hp => by simp [downI] at hp
  | a :: c :: cs, h, p, hp => by
    obtain ⟨_, h2⟩ := List.pairwise_cons.1 h
    obtain ⟨h3, _⟩ := List.pairwise_cons.1 h2
    unfold downI at hp
    split at hp
    · rename_i hk
      rw [Nat.zero_add, List.drop_succ_cons, List.drop_zero] at hp
      rcases List.mem_cons.1 hp with rfl | hp
      · exact hk
      · exact lt_trans hk (h3 p hp)
    · rw [List.drop_succ_cons] at hp
      exact downI_post key h2 p hp
theorem downI_at {α : Type} (key : Txt) : ∀ {cs : List (Txt × α)} {c : Txt × α}, cs[downI key cs]? = some c → downI key cs = 0 ∨ lt key c.1 = false
  | [], _, h => by simp at h
  | [_], _, _ => .inl rfl
  | a :: b :: cs, c, h => by
    unfold downI at h ⊢
    split at h
    · rename_i hk; rw [if_pos hk]; exact .inl rfl
    · rename_i hk
      rw [if_neg hk]
      rw [List.getElem?_cons_succ] at h
      rcases downI_at key h with h0 | h0
      · rw [h0, List.getElem?_cons_zero] at h
        simp only [Option.some.injEq] at h
        subst h
        right
        simpa using hk
      · exact .inr h0
theorem split_at {α : Type} {cs : List α} {k : Nat} {c : α} (h : cs[k]? = some c) : cs = cs.take k ++ c :: cs.drop (k + 1) := by
  obtain ⟨hk, hc⟩ := List.getElem?_eq_some_iff.1 h
  have := List.take_append_drop k cs
  rw [List.drop_eq_getElem_cons hk, hc] at this
  exact this.symm
theorem isItem_short {x : Item} (h : isItem x = true) : short x.key = true := by
  rw [isItem_def] at h
  simp only [Bool.and_eq_true] at h
  exact h.1.1
/-- Children replaced stay parted. -/
theorem parted_graft {α : Type} {f : α → List Item} {pre post : List (Txt × α)} {c : Txt × α} {t : α} {more : Option (Txt × α)} {x : Item}
    (h : Parted f (pre ++ c :: post)) (hx : lt x.key c.1 = false) (hpost : ∀ p ∈ post, lt x.key p.1 = true) (hne : f t ≠ [])
    (hit : f t ++ (more.toList.flatMap fun m => f m.2) = insIt x (f c.2))
    (hm : ∀ m ∈ more, (∀ y ∈ f t, lt y.key m.1 = true) ∧ ∀ y ∈ f m.2, lt y.key m.1 = false) : Parted f (pre ++ (c.1, t) :: (more.toList ++ post)) := by
  obtain ⟨h1, h2⟩ := h
  obtain ⟨p1, p2, p3⟩ := List.pairwise_append.1 h1
  obtain ⟨p4, p5⟩ := List.pairwise_cons.1 p2
  have hin : ∀ y, y ∈ f t ∨ y ∈ (more.toList.flatMap fun m => f m.2) → y = x ∨ y ∈ f c.2 := fun y hy => by
    refine mem_insIt ?_
    rw [← hit]
    exact List.mem_append.2 hy
  have hup : ∀ y, y ∈ f t ∨ y ∈ (more.toList.flatMap fun m => f m.2) → ∀ p ∈ post, lt y.key p.1 = true := fun y hy p hp => by
    rcases hin y hy with rfl | hy
    · exact hpost p hp
    · exact p4 p hp y hy
  have hlo : ∀ y, y ∈ f t ∨ y ∈ (more.toList.flatMap fun m => f m.2) → lt y.key c.1 = false := fun y hy => by
    rcases hin y hy with rfl | hy
    · exact hx
    · exact h2 c (by simp) y hy
  refine ⟨List.pairwise_append.2 ⟨p1, List.pairwise_cons.2 ⟨fun b hb y hy => ?_, List.pairwise_append.2 ⟨?_, p5, fun m hm' p hp y hy => ?_⟩⟩, fun a ha b hb y hy => ?_⟩, fun b hb y hy => ?_⟩
  · rcases List.mem_append.1 hb with hb | hb
    · exact (hm b (by simpa using hb)).1 y hy
    · exact hup y (.inl hy) b hb
  · cases more <;> simp
  · exact hup y (.inr (List.mem_flatMap.2 ⟨m, hm', hy⟩)) p hp
  · rcases List.mem_cons.1 hb with rfl | hb
    · exact p3 a ha c (by simp) y hy
    · rcases List.mem_append.1 hb with hb | hb
      · have hyc := p3 a ha c (by simp) y hy
        obtain ⟨z, hz⟩ := List.exists_mem_of_ne_nil _ hne
        exact lt_trans (lt_le hyc (hlo z (.inl hz))) ((hm b (by simpa using hb)).1 z hz)
      · exact p3 a ha b (by simp [hb]) y hy
  · rcases List.mem_append.1 hb with hb | hb
    · exact h2 b (by simp [hb]) y hy
    · rcases List.mem_cons.1 hb with rfl | hb
      · exact hlo y (.inl hy)
      · rcases List.mem_append.1 hb with hb | hb
        · exact (hm b (by simpa using hb)).2 y hy
        · exact h2 b (by simp [hb]) y hy
end Sp
end Go.Proofs.YtmcpkhknjdiocaaGreatDoor
namespace Go.Proofs.YtmcpkhknjdiocaaGreatDoor
open Go.RowKit
attribute [local go_sem low] mk_extract
attribute [local go_sem] After.cell After.frozen mk_extract_end ByteArray.mk_append_mk
abbrev StoreT : TypeId := 136
/-- Pages that lie side by side. -/
def PgCells (w : World) (M : Nat → Prop) : List Sp.Page → List Value → Prop
  | [], xs => xs = []
  | p :: P, xs => ∃ r ys, xs = pageV p r ++ ys ∧ PageRd w M p r ∧ PgCells w M P ys
theorem PgCells.chg {w w' : World} {M : Nat → Prop} (hk : Chg M w w') : ∀ {P : List Sp.Page} {xs : List Value}, PgCells w M P xs → PgCells w' M P xs
  | [], _, h => h
  | _ :: _, _, ⟨r, ys, e, hr, h⟩ => ⟨r, ys, e, hr.chg hk, h.chg hk⟩
theorem PgCells.len {w : World} {M : Nat → Prop} : ∀ {P : List Sp.Page} {xs : List Value}, PgCells w M P xs → xs.length = P.length * 14
  | [], xs, h => by
    have h : xs = [] := h
    rw [h]; rfl
  | _ :: P, _, ⟨r, ys, e, _, h⟩ => by
    have := h.len
    rw [e, List.length_append, this]
    simp [pageV, mtV]
    omega
theorem PgCells.app {w : World} {M : Nat → Prop} {Q : List Sp.Page} {ys : List Value} (hq : PgCells w M Q ys) : ∀ {P : List Sp.Page} {xs : List Value}, PgCells w M P xs → PgCells w M (P ++ Q) (xs ++ ys)
  | [], xs, h => by
    have h : xs = [] := h
    rw [h]; exact hq
  | _ :: P, _, ⟨r, zs, e, hr, h⟩ => ⟨r, zs ++ ys, by rw [e, List.append_assoc], hr, hq.app h⟩
theorem PgCells.at_ {w : World} {M : Nat → Prop} : ∀ {P : List Sp.Page} {xs : List Value} {k : Nat} {p : Sp.Page}, PgCells w M P xs → P[k]? = some p → ∃ r, PageRd w M p r ∧ ∀ j u, (pageV p r)[j]? = some u → xs[k * 14 + j]? = some u
  | [], _, _, _, _, h => by simp at h
  | q :: P, xs, 0, p, ⟨r, ys, e, hr, _⟩, h => by
    have : q = p := by simpa using h
    subst this
    refine ⟨r, hr, fun j u hu => ?_⟩
    rw [e, Nat.zero_mul, Nat.zero_add, List.getElem?_append_left (List.getElem?_eq_some_iff.1 hu).1]
    exact hu
  | q :: P, xs, k + 1, p, ⟨r, ys, e, _, hc⟩, h => by
    rw [List.getElem?_cons_succ] at h
    obtain ⟨r', hr', hx⟩ := hc.at_ h
    refine ⟨r', hr', fun j u hu => ?_⟩
    have hl : (pageV q r).length = 14 := by simp [pageV, mtV]
    rw [e, List.getElem?_append_right (by omega), hl, show (k + 1) * 14 + j - 14 = k * 14 + j by omega]
    exact hx j u hu
/-- The numbers of so many pages. -/
def idsV (n : Nat) : List Value := (List.range n).map fun k => Value.int .i64 ((k + 2 : Nat) : Int)
theorem idsV_at {n k : Nat} (h : k < n) : (idsV n)[k]? = some (.int .i64 ((k + 2 : Nat) : Int)) := by
  unfold idsV
  rw [List.getElem?_map, List.getElem?_range h]
  rfl
theorem idsV_succ (n : Nat) : idsV (n + 1) = idsV n ++ [.int .i64 ((n + 2 : Nat) : Int)] := by
  unfold idsV
  rw [List.range_succ, List.map_append]
  rfl
/-- A store in memory: its file, its pages, numbered from 2 on; none is free. -/
structure StoreAt (w : World) (s : Nat) (fp vi vp : Value) (P : List Sp.Page) : Prop where
  bs : Blk w s StoreT #[fp, .int .i64 ((P.length + 2 : Nat) : Int), .int .i64 400, .slice none 0 0, .slice none 0 0, vi, vp]
  oi : w.ownsRow 0 3 1 vi P.length (idsV P.length)
  op : ∃ xs, w.ownsRow 0 PageT 14 vp P.length xs ∧ PgCells w (OneM s) P xs
theorem StoreAt.go {w w' : World} {s : Nat} {fp vi vp : Value} {P : List Sp.Page} (h : StoreAt w s fp vi vp P) (hb : Below w.heap.size w w') : StoreAt w' s fp vi vp P := by
  obtain ⟨xs, h1, h2⟩ := h.op
  exact ⟨h.bs.below hb h.bs.lt, own_chg2 (S := NoM) h.oi (Chg.of_below hb) (fun _ _ h => h), ⟨xs, own_chg2 (S := NoM) h1 (Chg.of_below hb) (fun _ _ h => h), h2.chg (Chg.of_below hb)⟩⟩
end Go.Proofs.YtmcpkhknjdiocaaGreatDoor
