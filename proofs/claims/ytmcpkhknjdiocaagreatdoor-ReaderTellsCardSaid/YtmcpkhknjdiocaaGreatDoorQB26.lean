/- errors.As at an Errno target: the number is told; nothing that was there is changed but the target. copyholdlaw22: an error's number. A page that comes in: what can be read as data lies in memory as a page does. A row of steps that comes in. Readers' steps: what a reader sees of other metas, of none: the plain side. ReaderTells: the plain side: what the law's pages, slots, reader stay. The laid handle: what the condition on errors.errorType gives a walk; a world that meets it. After the kit's worked toy 'toyas'. Trees of the document: keys in order; a tree whose pages are told by number. Trees of the document: an item put in. Trees of the document: what putting an item in does. -/
import Derived.Test.YtmcpkhknjdiocaaGreatDoorQB00
import Derived.Test.YtmcpkhknjdiocaaGreatDoorQB01
import Derived.Test.YtmcpkhknjdiocaaGreatDoorQB04
import Derived.Test.YtmcpkhknjdiocaaGreatDoorQB09
import Derived.Test.YtmcpkhknjdiocaaGreatDoorQB19
import Derived.Test.YtmcpkhknjdiocaaGreatDoorQB25
import Derived.Test.YtmcpkhknjdiocaaGreatDoorProg
import Derived.LaidEql
import Derived.Stop.Asserts
import Derived.RowKitTokens
import Derived.SizedLaws
import Derived.SliceStrings
import Derived.ChangeSlices
import Derived.Deep.Slices
import Derived.Deep.Grids
import Derived.ChangeSame
import Derived.ChangeVars
import Derived.JoinedOf
import Derived.RowKit
import Derived.LaidLaws
import Derived.LaidHandle
import Derived.Stop.Joined
import Derived.Sort.Walk0
set_option linter.unusedSimpArgs false
set_option linter.unusedVariables false
namespace Go.Proofs.YtmcpkhknjdiocaaGreatDoor
open Go.RowKit Go.Extern.Stop Go.Stop Go.Extern
namespace As
theorem valueOfP (t : Addr) (w : World) : (ReflectliteValue.unpack (.iface 129 (.pointer (some t)))).run Tryz.prog w
    = .ok (.agg #[.pointer (some ⟨1, 129, none⟩), .pointer (some ⟨w.heap.size, 0, none⟩), .int .u64 150]) (w.alloc (.cells #[.pointer (some t)] 129)) := by kernel_rfl
theorem typeP (a : Addr) (w : World) : (ReflectliteValue.methodAny (ReflectliteValue.valueError "reflectlite.Value.Type" 0) (fun t _ _ _ => ReflectliteType.toType t) #[.agg #[.pointer (some ⟨1, 129, none⟩), .pointer (some a), .int .u64 150]]).run Tryz.prog w
    = .ok (.iface 209 (.agg #[.pointer (some ⟨1, 129, none⟩)])) w := by kernel_rfl
theorem methodKind (h : Value) (w : World) : (Go.method 168 209 (.agg #[h]) "Kind").run Tryz.prog w = .ok (223, h) w := by kernel_rfl
theorem kindP (w : World) : ((ReflectliteType.abiMethod fun t => (fun a : Nat => Value.int IntKind.u8 (a : Int)) <$> Rtype.kind t) #[.pointer (some ⟨1, 129, none⟩)]).run Tryz.prog w = .ok (.int .u8 22) w := by kernel_rfl
theorem kindE (w : World) : ((ReflectliteType.abiMethod fun t => (fun a : Nat => Value.int IntKind.u8 (a : Int)) <$> Rtype.kind t) #[.pointer (some ⟨1, 120, none⟩)]).run Tryz.prog w = .ok (.int .u8 2) w := by kernel_rfl
theorem rlm (z : Sem Value) (f : TypeId → Addr → Nat → Nat → Sem Value) (v : Value) :
    ReflectliteValue.method z f #[v] = (do match ← ReflectliteValue.parts v with | none => z | some (t, a, fl) => f t a fl (fl % 32)) := rfl
theorem partsP (a : Addr) (w : World) : (ReflectliteValue.parts (.agg #[.pointer (some ⟨1, 129, none⟩), .pointer (some a), .int .u64 150])).run Tryz.prog w = .ok (some (129, a, 150)) w := by kernel_rfl
theorem isNilP (a p : Addr) (W : World) (ha : W.cell? a = some (.pointer (some p))) :
    (ReflectliteValue.method (ReflectliteValue.valueError "reflectlite.Value.IsNil" 0) ReflectliteValue.isNil #[.agg #[.pointer (some ⟨1, 129, none⟩), .pointer (some a), .int .u64 150]]).run Tryz.prog W = .ok (.bool false) W := by
  rw [rlm]
  simp only [Sem.run_bind, partsP, Result.andThen]
  simp [ReflectliteValue.isNil, loadVar, isAgg, underlying, Tryz.underlying129, ha, Result.andThen]
theorem methodElem (h : Value) (w : World) : (Go.method 168 209 (.agg #[h]) "Elem").run Tryz.prog w = .ok (235, .agg #[h]) w := by kernel_rfl
theorem methodImplements (h : Value) (w : World) : (Go.method 168 209 (.agg #[h]) "Implements").run Tryz.prog w = .ok (236, .agg #[h]) w := by kernel_rfl
theorem methodAssignableTo (h : Value) (w : World) : (Go.method 168 209 (.agg #[h]) "AssignableTo").run Tryz.prog w = .ok (233, .agg #[h]) w := by kernel_rfl
theorem elemP (w : World) : (ReflectliteType.method ReflectliteType.elem #[.agg #[.pointer (some ⟨1, 129, none⟩)]]).run Tryz.prog w = .ok (.iface 209 (.agg #[.pointer (some ⟨1, 120, none⟩)])) w := by kernel_rfl
theorem implementsE (w : World) : (ReflectliteType.relation "Implements" ReflectliteType.implements_ #[.agg #[.pointer (some ⟨1, 120, none⟩)], .iface 209 (.agg #[.pointer (some ⟨1, 51, none⟩)])]).run Tryz.prog w = .ok (.bool true) w := by kernel_rfl
theorem typeOfE (v : Value) (w : World) : (ReflectliteType.typeOf #[.iface 120 v]).run Tryz.prog w = .ok (.iface 209 (.agg #[.pointer (some ⟨1, 120, none⟩)])) w := by kernel_rfl
theorem assignableE (w : World) : (ReflectliteType.relation "AssignableTo" ReflectliteType.assignableTo #[.agg #[.pointer (some ⟨1, 120, none⟩)], .iface 209 (.agg #[.pointer (some ⟨1, 120, none⟩)])]).run Tryz.prog w = .ok (.bool true) w := by kernel_rfl
theorem valueOfE (n : Int) (w : World) : (ReflectliteValue.unpack (.iface 120 (.int .i64 n))).run Tryz.prog w
    = .ok (.agg #[.pointer (some ⟨1, 120, none⟩), .pointer (some ⟨w.heap.size, 0, none⟩), .int .u64 130]) (w.alloc (.cells #[.int .i64 n] 120)) := by kernel_rfl
theorem elemOfP (w : World) : (Rtype.elem? 129).run Tryz.prog w = .ok (some 120) w := by kernel_rfl
theorem mkE (p : Addr) (w : World) : (ReflectliteValue.mk 120 p ReflectliteValue.flagAddr).run Tryz.prog w = .ok (.agg #[.pointer (some ⟨1, 120, none⟩), .pointer (some p), .int .u64 386]) w := by kernel_rfl
theorem elemVP (a p : Addr) (W : World) (ha : W.cell? a = some (.pointer (some p))) :
    (ReflectliteValue.method (ReflectliteValue.valueError "reflectlite.Value.Elem" 0) ReflectliteValue.elem #[.agg #[.pointer (some ⟨1, 129, none⟩), .pointer (some a), .int .u64 150]]).run Tryz.prog W
      = .ok (.agg #[.pointer (some ⟨1, 120, none⟩), .pointer (some p), .int .u64 386]) W := by
  rw [rlm]
  simp only [Sem.run_bind, partsP, Result.andThen]
  simp [ReflectliteValue.elem, loadVar, isAgg, underlying, Tryz.underlying129, ha, Result.andThen, elemOfP, mkE]
theorem rls (v x : Value) : ReflectliteValue.set #[v, x] = (do
    let (some (dst, a, fl), some (src, b, _)) := (← ReflectliteValue.parts v, ← ReflectliteValue.parts x)
      | unsupported (.noEntry "extern/(internal/reflectlite.Value).Set.zeroValue")
    if fl / ReflectliteValue.flagAddr % 2 == 0 then unsupported (.noEntry "extern/(internal/reflectlite.Value).Set.unaddressable")
    let val ← loadVar src b
    if ← Rtype.directlyAssignable dst src then storeVar dst a val
    else if ← Rtype.implements dst src then
      if (← Rtype.kind src) == 20 then
        match val with
        | .nilIface => unsupported (.noEntry "extern/reflectlite: a nil value of one interface type handed on as a value of another")
        | _ => storeVar dst a val
      else storeVar dst a (.iface src val)
    else panicString ("reflectlite.Set: value of type " ++ (← Rtype.spelt src) ++ " is not assignable to type " ++ (← Rtype.spelt dst))
    pure (.tuple #[])) := rfl
theorem partsEa (a : Addr) (w : World) : (ReflectliteValue.parts (.agg #[.pointer (some ⟨1, 120, none⟩), .pointer (some a), .int .u64 386])).run Tryz.prog w = .ok (some (120, a, 386)) w := by kernel_rfl
theorem partsE (a : Addr) (w : World) : (ReflectliteValue.parts (.agg #[.pointer (some ⟨1, 120, none⟩), .pointer (some a), .int .u64 130])).run Tryz.prog w = .ok (some (120, a, 130)) w := by kernel_rfl
theorem directE (w : World) : (Rtype.directlyAssignable 120 120).run Tryz.prog w = .ok true w := by kernel_rfl
theorem setE (ta b : Addr) (n : Int) (old : Value) (W : World) (hb : W.cell? b = some (.int .i64 n)) (ht : W.cell? ta = some old) (hf : W.frozen? ta = false) :
    (ReflectliteValue.set #[.agg #[.pointer (some ⟨1, 120, none⟩), .pointer (some ta), .int .u64 386], .agg #[.pointer (some ⟨1, 120, none⟩), .pointer (some b), .int .u64 130]]).run Tryz.prog W
      = .ok (.tuple #[]) (W.setCell ta (.int .i64 n)) := by
  rw [rls]
  simp only [Sem.run_bind, partsEa, partsE, Result.andThen]
  simp [ReflectliteValue.flagAddr, loadVar, isAgg, underlying, Tryz.underlying120, hb, Result.andThen, directE, storeVar, Value.cells, storeCells, Addr.add]
  rw [run_store Tryz.prog W ta _ _ (by rfl)]
  simp [ht, hf]
end As
/-- The variable that errors.As reads: the type of an error. -/
def ErrVar (w : World) : Prop := w.cell? ⟨0, 0, none⟩ = some (.iface 209 (.agg #[.pointer (some ⟨1, 51, none⟩)]))
theorem ErrVar.lt {w : World} (h : ErrVar w) : 0 < w.heap.size := by
  rcases Nat.eq_zero_or_pos w.heap.size with h0 | h1
  · simp [ErrVar, World.cell?, h0] at h
  · exact h1
theorem ErrVar.go {w w' : World} (h : ErrVar w) (hb : Below w.heap.size w w') : ErrVar w' := (hb.cell (p := ⟨0, 0, none⟩) h.lt).trans h
set_option maxRecDepth 100000 in
set_option maxHeartbeats 4000000 in
theorem errAs_hit (n : Int) (t : Addr) (old : Value) (w : World) (hg : ErrVar w) (ht0 : w.cell? t = some old) (hf0 : w.frozen? t = false) :
    Calls Tryz.prog 60 #[.iface 120 (.int .i64 n), .iface 129 (.pointer (some t))] w fun ev w' => ev = .returned (.bool true) ∧ w' = ((((w.alloc (.cells #[.pointer (some t)] 129)).alloc (.cells #[.pointer (some ⟨1, 129, none⟩), .pointer (some ⟨w.heap.size, 0, none⟩), .int .u64 150] 165)).alloc (.cells #[.pointer (some ⟨1, 129, none⟩), .pointer (some ⟨w.heap.size, 0, none⟩), .int .u64 150] 165)).alloc (.cells #[.int .i64 n] 120)).setCell t (.int .i64 n) := by
  have h6 := @run_callFunc_extern Tryz.prog 90 _ (fun args => ReflectliteValue.unpack (args.getD 0 (.tuple #[]))) Tryz.func90 (by kernel_rfl) (by kernel_rfl) (by kernel_rfl) (by kernel_rfl)
  have h7 := @run_callFunc_extern Tryz.prog 91 _ (ReflectliteValue.methodAny (ReflectliteValue.valueError "reflectlite.Value.Type" 0) (fun t _ _ _ => ReflectliteType.toType t)) Tryz.func91 (by kernel_rfl) (by kernel_rfl) (by kernel_rfl) (by kernel_rfl)
  have h8 := @run_callFunc_extern Tryz.prog 92 _ (ReflectliteValue.method (ReflectliteValue.valueError "reflectlite.Value.IsNil" 0) ReflectliteValue.isNil) Tryz.func92 (by kernel_rfl) (by kernel_rfl) (by kernel_rfl) (by kernel_rfl)
  have h27 := @run_callFunc_extern Tryz.prog 223 _ (ReflectliteType.abiMethod fun t => do pure (.int .u8 (← Rtype.kind t))) Tryz.func223 (by kernel_rfl) (by kernel_rfl) (by kernel_rfl) (by kernel_rfl)
  have h37 := @run_callFunc_extern Tryz.prog 235 _ (ReflectliteType.method ReflectliteType.elem) Tryz.func235 (by kernel_rfl) (by kernel_rfl) (by kernel_rfl) (by kernel_rfl)
  have h38 := @run_callFunc_extern Tryz.prog 236 _ (ReflectliteType.relation "Implements" ReflectliteType.implements_) Tryz.func236 (by kernel_rfl) (by kernel_rfl) (by kernel_rfl) (by kernel_rfl)
  have h10 := @run_callFunc_extern Tryz.prog 94 _ ReflectliteType.typeOf Tryz.func94 (by kernel_rfl) (by kernel_rfl) (by kernel_rfl) (by kernel_rfl)
  have h35 := @run_callFunc_extern Tryz.prog 233 _ (ReflectliteType.relation "AssignableTo" ReflectliteType.assignableTo) Tryz.func233 (by kernel_rfl) (by kernel_rfl) (by kernel_rfl) (by kernel_rfl)
  have h11 := @run_callFunc_extern Tryz.prog 119 _ (ReflectliteValue.method (ReflectliteValue.valueError "reflectlite.Value.Elem" 0) ReflectliteValue.elem) Tryz.func119 (by kernel_rfl) (by kernel_rfl) (by kernel_rfl) (by kernel_rfl)
  have h12 := @run_callFunc_extern Tryz.prog 120 _ ReflectliteValue.set Tryz.func120 (by kernel_rfl) (by kernel_rfl) (by kernel_rfl) (by kernel_rfl)
  have tO := As.typeOfE
  have mA := As.methodAssignableTo
  have a25 := As.assignableE
  have v25 := As.valueOfE
  have f6 := As.valueOfP
  have f7 := As.typeP
  have mK := As.methodKind
  have mE := As.methodElem
  have mI := As.methodImplements
  have k27 := As.kindP
  have k25 := As.kindE
  have e27 := As.elemP
  have i25 := As.implementsE
  have n8 := As.isNilP ⟨w.heap.size, 0, none⟩ t ((w.alloc (.cells #[.pointer (some t)] 129)).alloc (.cells #[.pointer (some ⟨1, 129, none⟩), .pointer (some ⟨w.heap.size, 0, none⟩), .int .u64 150] 165)) (by simp)
  have hlt := hg.lt
  have hg : w.cell? ⟨0, 0, none⟩ = some (.iface 209 (.agg #[.pointer (some ⟨1, 51, none⟩)])) := hg
  have hg2 : ((w.alloc (.cells #[.pointer (some t)] 129)).alloc (.cells #[.pointer (some ⟨1, 129, none⟩), .pointer (some ⟨w.heap.size, 0, none⟩), .int .u64 150] 165)).cell? ⟨0, 0, none⟩ = some (.iface 209 (.agg #[.pointer (some ⟨1, 51, none⟩)])) := by
    rw [World.cell?_alloc_lt _ _ ⟨0, 0, none⟩ (by simp), World.cell?_alloc_lt _ _ ⟨0, 0, none⟩ hlt]; exact hg
  have htl : t.block < w.heap.size := by
    rcases Nat.lt_or_ge t.block w.heap.size with h | h
    · exact h
    · simp [World.cell?, Array.getElem?_eq_none h] at ht0
  have el := As.elemVP ⟨w.heap.size, 0, none⟩ t (((w.alloc (.cells #[.pointer (some t)] 129)).alloc (.cells #[.pointer (some ⟨1, 129, none⟩), .pointer (some ⟨w.heap.size, 0, none⟩), .int .u64 150] 165)).alloc (.cells #[.pointer (some ⟨1, 129, none⟩), .pointer (some ⟨w.heap.size, 0, none⟩), .int .u64 150] 165)) (by rw [World.cell?_alloc_lt _ _ ⟨w.heap.size, 0, none⟩ (by simp; omega)]; simp)
  have st := As.setE t ⟨w.heap.size + 1 + 1 + 1, 0, none⟩ n old ((((w.alloc (.cells #[.pointer (some t)] 129)).alloc (.cells #[.pointer (some ⟨1, 129, none⟩), .pointer (some ⟨w.heap.size, 0, none⟩), .int .u64 150] 165)).alloc (.cells #[.pointer (some ⟨1, 129, none⟩), .pointer (some ⟨w.heap.size, 0, none⟩), .int .u64 150] 165)).alloc (.cells #[.int .i64 n] 120))
    (by rw [World.cell?_alloc_at _ _ _ _ (by simp)]; rfl)
    (by rw [World.cell?_alloc_lt _ _ t (by simp; omega), World.cell?_alloc_lt _ _ t (by simp; omega), World.cell?_alloc_lt _ _ t (by simp; omega), World.cell?_alloc_lt _ _ t htl]; exact ht0)
    (by rw [World.frozen?_alloc_old _ _ t (by simp; omega), World.frozen?_alloc_old _ _ t (by simp; omega), World.frozen?_alloc_old _ _ t (by simp; omega), World.frozen?_alloc_old _ _ t (Nat.ne_of_lt htl)]; exact hf0)
  go_enter Tryz.func60, Tryz.ntmps60
  go_wp2
  refine wp_loop_rounds 1 ?_
  rw [rounds_succ]
  go_wp2
  go_ret
  exact ⟨rfl, rfl⟩
theorem errAs_any (n : Int) (b : Nat) (old : Value) (w : World) (hg : ErrVar w) (hb : Blk w b 120 #[old]) :
    Calls Tryz.prog 60 #[.iface 120 (.int .i64 n), .iface 129 (.pointer (some ⟨b, 0, none⟩))] w fun ev w' => ev = .returned (.bool true) ∧ Blk w' b 120 #[.int .i64 n] ∧ Chg (OneM b) w w' := by
  refine (errAs_hit n ⟨b, 0, none⟩ old w hg (hb.cell 0) (hb.frozen 0)).mono ?_
  rintro e w' ⟨rfl, rfl⟩
  refine ⟨rfl, ?_, ?_⟩
  · exact ((((hb.alloc _).alloc _).alloc _).alloc _).set_ 0 (.int .i64 n)
  · exact ((((Chg.refl (OneM b) w).alloc _).alloc _).alloc _).alloc _ |>.setCell (p := ⟨b, 0, none⟩) (.inl rfl) _
end Go.Proofs.YtmcpkhknjdiocaaGreatDoor
namespace Go.Proofs.YtmcpkhknjdiocaaGreatDoor
open Go.RowKit
attribute [local go_sem low] mk_extract
attribute [local go_sem] After.cell After.frozen mk_extract_end ByteArray.mk_append_mk
set_option maxRecDepth 100000 in
set_option maxHeartbeats 1600000 in
theorem code_nil (w : World) : Calls Tryz.prog 23 #[.nilIface] w fun e w' => e = .returned (.int .i64 0) ∧ Below w.heap.size w w' := by
  go_enter Tryz.func23, Tryz.ntmps23
  go_wp2_with fail
  go_ret
  exact ⟨rfl, (Below.refl _ _).alloc (Nat.le_refl _) _⟩
set_option maxRecDepth 100000 in
set_option maxHeartbeats 1600000 in
theorem code_no (n : Int) (w : World) (hg : ErrVar w) : Calls Tryz.prog 23 #[.iface ErrT (.int .i64 n)] w fun e w' => e = .returned (.int .i64 n) ∧ Below w.heap.size w w' := by
  have hal : Below w.heap.size w (w.alloc (.cells #[.int .i64 0] ErrT)) := (Below.refl _ _).alloc (Nat.le_refl _) _
  have HG := Lib.hid (hg.go hal)
  have HB := Lib.hid (Blk.new w ErrT #[.int .i64 0])
  have HAL := Lib.hid hal
  clear hg hal
  go_enter Tryz.func23, Tryz.ntmps23
  go_wp2_with (go_at_call 60; refine (errAs_any n w.heap.size (.int .i64 0) _ HG.out HB.out).mono ?_; rintro e w2 ⟨rfl, hb2, hk2⟩; have c0 : w2.cell? ⟨w.heap.size, 0, none⟩ = some (.int .i64 n) := hb2.cell 0; have HK := Lib.hid hk2; clear hb2 hk2)
  go_ret
  exact ⟨rfl, HAL.out.trans (HK.out.below HAL.out.size fun k hk e => by have : k = w.heap.size := e; omega)⟩
end Go.Proofs.YtmcpkhknjdiocaaGreatDoor
namespace Go.Proofs.YtmcpkhknjdiocaaGreatDoor
open Go.RowKit Go.WideShapes Go.ChangeShapes Go.Deep
theorem cellsInt : Tryz.prog.cellsOf 3 = 1 := by kernel_rfl
theorem addr_of {w : World} {a : Addr} {u : Value} (h : w.cell? (a.add 0) = some u) : ∃ b off, a = ⟨b, off, none⟩ ∧ b < w.heap.size := by
  obtain ⟨b, off, spot⟩ := a
  have hspot : spot = none := by simpa [Addr.add] using World.cell?_spot h
  subst hspot
  refine ⟨b, off, rfl, ?_⟩
  have := block_lt_of_cell h
  simpa [Go.WideShapes.add_plain] using this
section
variable {H : Type} {enc : TypeId × Value → H} {w : World} {base : Nat} {spare : Nat → Bool} {held : Bool}
theorem tr_int {n : Nat} {c : Value} {y : DataW H × List MemPlace} (h : DataW.trod enc Tryz.prog w base spare held n 3 [c] = some y) : ∃ k : Int, c = .int .i64 k := by
  obtain ⟨k, hc, _⟩ := DataW.trod_int Tryz.underlying3 h
  simp only [List.cons.injEq, and_true] at hc
  exact ⟨k, hc⟩
theorem fld {fs : Array Field} {n : Nat} {cs : List Value} {xs : List (DataW H × List MemPlace)} (hlen : xs.length = fs.size)
    (hg : ∀ (i : Nat) (f : Field), fs[i]? = some f → DataW.trod enc Tryz.prog w base spare held n f.type ((cs.drop f.offset).take (Tryz.prog.cellsOf f.type)) = xs[i]?) (i : Nat) (T : TypeId) (off : Nat) (hf : (fs[i]?).map (fun f => (f.type, f.offset)) = some (T, off)) :
    ∃ y, xs[i]? = some y ∧ DataW.trod enc Tryz.prog w base spare held n T ((cs.drop off).take (Tryz.prog.cellsOf T)) = some y := by
  obtain ⟨f, hf1, hf2⟩ := Option.map_eq_some_iff.1 hf
  simp only [Prod.mk.injEq] at hf2
  obtain ⟨rfl, rfl⟩ := hf2
  have hi : i < xs.length := by
    rw [hlen]
    exact (Array.getElem?_eq_some_iff.1 hf1).1
  exact ⟨xs[i], List.getElem?_eq_getElem hi, (hg i f hf1).trans (List.getElem?_eq_getElem hi)⟩
theorem cells_at {a : Addr} {n : Nat} {cs : List Value} (h : w.cells? base a n = some cs) : ∀ j u, cs[j]? = some u → w.cell? (a.add j) = some u := fun j u hu => by
  obtain ⟨_, hl, hc⟩ := World.cells?_some h
  have hj : j < n := by
    rw [← hl]
    exact (List.getElem?_eq_some_iff.1 hu).1
  exact (hc j hj).trans hu
theorem getD_map {α : Type} (F : Nat → α) (d : α) {n k : Nat} (h : k < n) : ((List.range n).map F).getD k d = F k := by
  simp [List.getD, h]
end
end Go.Proofs.YtmcpkhknjdiocaaGreatDoor
namespace Go.Proofs.YtmcpkhknjdiocaaGreatDoor
open Go.RowKit Go.WideShapes Go.ChangeShapes Go.Deep
namespace Sp
structure Stp where
  what : Int
  last : Int
def stp0 : Stp := ⟨0, 0⟩
end Sp
/-- A slice that reads as a list of steps: what each is. -/
def Stps (w : World) (A : Option Addr) (l : List Sp.Stp) : Prop :=
  l.length ≤ 9223372036854775807 ∧ (l = [] ∨ ∃ b off, A = some ⟨b, off, none⟩ ∧ b < w.heap.size ∧ ∀ j, j < l.length → w.cell? ⟨b, off + j * 2, none⟩ = some (.int .i64 (l.getD j Sp.stp0).what) ∧ w.cell? ⟨b, off + j * 2 + 1, none⟩ = some (.int .i64 (l.getD j Sp.stp0).last))
theorem Stps.go {w w' : World} {A : Option Addr} {l : List Sp.Stp} (h : Stps w A l) (hb : Below w.heap.size w w') : Stps w' A l := by
  refine ⟨h.1, ?_⟩
  rcases h.2 with h | ⟨b, off, e, hl, hc⟩
  · exact .inl h
  · exact .inr ⟨b, off, e, Nat.lt_of_lt_of_le hl hb.size, fun j hj => ⟨(hb.cell (p := ⟨b, off + j * 2, none⟩) hl).trans (hc j hj).1, (hb.cell (p := ⟨b, off + j * 2 + 1, none⟩) hl).trans (hc j hj).2⟩⟩
theorem cellsStep : Tryz.prog.cellsOf 44 = 2 := by kernel_rfl
section
variable {H : Type} {enc : TypeId × Value → H} {w : World} {base : Nat} {spare : Nat → Bool} {held : Bool}
set_option maxRecDepth 100000 in
theorem tr_stp {n : Nat} {cs : List Value} {y : DataW H × List MemPlace} (h : DataW.trod enc Tryz.prog w base spare held n 44 cs = some y) : ∃ x : Sp.Stp, cs = [.int .i64 x.what, .int .i64 x.last] := by
  obtain ⟨xs, k, _, _, hl, hlen, hg⟩ := DataW.trod_struct Tryz.underlying44 h
  rw [cellsStep] at hl
  match cs, hl with
  | [c0, c1], _ =>
    obtain ⟨_, _, g0⟩ := fld hlen hg 0 3 0 rfl
    obtain ⟨_, _, g1⟩ := fld hlen hg 1 3 1 rfl
    simp only [cellsInt, List.drop_zero, List.drop_succ_cons, List.take_succ_cons, List.take_zero] at g0 g1
    obtain ⟨a0, rfl⟩ := tr_int g0
    obtain ⟨a1, rfl⟩ := tr_int g1
    exact ⟨⟨a0, a1⟩, rfl⟩
set_option maxRecDepth 100000 in
theorem open_stps {r : Reach} {b0 : Nat} {v : Value} {d : DataW H} {ps : List MemPlace} (hv : Value.okWide Tryz.prog w r b0 22 v) (h : DataW.Trod enc Tryz.prog w base spare held 22 v d ps) :
    ∃ (l : List Sp.Stp) (A : Option Addr) (c : Nat), v = .slice A l.length c ∧ Stps w A l := by
  obtain ⟨a, n, c, rfl⟩ := okWide_slice Tryz.underlying22 hv
  obtain ⟨fuel, hf⟩ := h
  simp only [Value.cells] at hf
  rcases open_slice Tryz.underlying22 hf with ⟨hc, _⟩ | ⟨a', len, cap, m, n', D, Pl, hc, _, hl, hm, hmm, hx, hi⟩
  · simp only [List.cons.injEq, and_true] at hc
    exact ⟨[], none, 0, hc, by simp, .inl rfl⟩
  · simp only [List.cons.injEq, and_true] at hc
    unfold maxLen at hm
    have hle : len ≤ m := by rw [hmm]; split <;> omega
    have hex : ∀ i : Nat, ∃ x : Sp.Stp, i < m → ∀ j u, ([.int .i64 x.what, .int .i64 x.last] : List Value)[j]? = some u → w.cell? (a'.add (i * 2 + j)) = some u := fun i => by
      by_cases him : i < m
      · obtain ⟨cs', hcs, ht⟩ := hi i him
        rw [cellsStep] at hcs
        obtain ⟨x, rfl⟩ := tr_stp ht
        refine ⟨x, fun _ j u hu => ?_⟩
        rw [← Go.Deep.add_add]
        exact cells_at hcs j u hu
      · exact ⟨Sp.stp0, fun h => absurd h him⟩
    obtain ⟨F, hF⟩ := Classical.axiomOfChoice hex
    refine ⟨(List.range len).map F, some a', cap, by rw [hc]; simp, by simp; omega, ?_⟩
    rcases Nat.eq_zero_or_pos len with h0 | h0
    · left; rw [h0]; rfl
    · right
      have hcell := hF 0 (by omega)
      obtain ⟨b, off, rfl, hbl⟩ := addr_of (hcell 0 _ rfl)
      refine ⟨b, off, rfl, hbl, fun j hj => ?_⟩
      rw [List.length_map, List.length_range] at hj
      rw [getD_map F _ hj]
      have h0' := hF j (by omega) 0 _ rfl
      have h1' := hF j (by omega) 1 _ rfl
      rw [Go.WideShapes.add_plain] at h0' h1'
      exact ⟨by rw [Nat.add_zero] at h0'; exact h0', by rw [Nat.add_assoc]; exact h1'⟩
end
end Go.Proofs.YtmcpkhknjdiocaaGreatDoor
namespace Go.Proofs.YtmcpkhknjdiocaaGreatDoor
open Go.RowKit
attribute [local go_sem low] mk_extract
attribute [local go_sem] After.cell After.frozen mk_extract_end ByteArray.mk_append_mk
namespace Sp
section
variable {a b : Txt} {pid most slot x e : Int} {m m2 : Mt} {er : Option Int} {sl : List Sl}
end
/-- The file of a law, with another meta in the first place, or spoilt. -/
def spoilAt (k : Int) (spoilt : Bool) : List Txt := if spoilt then [[120], [120]] else [metaB (mt2 2 k), metaB (mt2 1 2)]
/-- Slots of which the first i are another's. -/
def fullSl (i : Nat) : List Sl := List.replicate i ⟨100, 0⟩ ++ List.replicate (8 - i) sl0
end Sp
end Go.Proofs.YtmcpkhknjdiocaaGreatDoor
namespace Go.Proofs.YtmcpkhknjdiocaaGreatDoor
open Go.RowKit
attribute [local go_sem low] mk_extract
attribute [local go_sem] After.cell After.frozen mk_extract_end ByteArray.mk_append_mk
namespace Sp
theorem right_par {s : Txt} {i : Int} {x : Mt} (h : right s i = some x) : x.txn % 2 = i := by
  unfold right at h
  split at h
  · rename_i hc
    injection h with h
    rw [← h]
    exact hc.2.2
  · cases h
def Seen (a b : Txt) (x : Mt) : Prop := right a 0 = some x ∨ right b 1 = some x
theorem Seen.one {a b : Txt} {x y : Mt} (hx : Seen a b x) (hy : Seen a b y) (h : x.txn = y.txn) : x = y := by
  rcases hx with hx | hx <;> rcases hy with hy | hy
  · rw [hx] at hy; injection hy
  · have := right_par hx; have := right_par hy; omega
  · have := right_par hx; have := right_par hy; omega
  · rw [hx] at hy; injection hy
theorem choose_seen {a b : Txt} {m : Mt} (h : choose a b = some m) : Seen a b m := by
  have : ∀ (l : List Mt) (o : Option Mt), l.foldl later o = some m → m ∈ l ∨ o = some m := by
    intro l
    induction l with
    | nil => intro o h; exact .inr h
    | cons y l ih =>
      intro o h
      rcases ih _ h with h | h
      · exact .inl (List.mem_cons_of_mem _ h)
      · unfold later at h
        split at h
        · injection h with h; exact .inl (h ▸ List.mem_cons_self)
        · split at h
          · injection h with h; exact .inl (h ▸ List.mem_cons_self)
          · exact .inr h
  rcases this _ none h with h | h
  · rcases List.mem_append.1 h with h | h
    · exact .inl (Option.mem_toList.1 h)
    · exact .inr (Option.mem_toList.1 h)
  · cases h
theorem see_seen {most : Int} {a b : Txt} (h : (see most a b).2 = none) : Seen a b (see most a b).1 := by
  unfold see at h ⊢
  split at h
  · cases h
  · exact choose_seen (by assumption)
/-- What stays true: the last version that was written; the pages; the slots; the reader. -/
structure RtI (T : Int) (a b : Txt) (sl : List Sl) (r : Rdr) : Prop where
  sz : a.length ≤ 4611686018427387904 ∧ b.length ≤ 4611686018427387904
  le : ∀ x, Seen a b x → x.txn ≤ T
  inv : r.Inv
  ok : SlsOk sl
  cs : r.phase = 3 ∨ r.phase = 4 → r.mt.txn ≤ T ∧ ∀ x, Seen a b x → x.txn = r.mt.txn → x = r.mt
section
variable {T : Int} {a b : Txt} {sl : List Sl} {r : Rdr}
theorem RtI.looks (h : RtI T a b sl r) : r.phase = 4 → (see r.most a b).2 = none → (see r.most a b).1.txn = r.mt.txn → (see r.most a b).1 = r.mt :=
  fun h4 hs hx => (h.cs (.inr h4)).2 _ (see_seen hs) hx
theorem step_way (r : Rdr) (a b : Txt) (sl : List Sl) : ((r.step a b sl).2.1.phase ≠ 3 ∧ (r.step a b sl).2.1.phase ≠ 4) ∨ ((r.step a b sl).2.1.mt = (see r.most a b).1 ∧ (see r.most a b).2 = none) ∨ ((r.step a b sl).2.1.mt = r.mt ∧ r.phase = 3) ∨ (r.step a b sl).2.1 = r := by
  have hg : ((r.goes a b sl).1.phase ≠ 3 ∧ (r.goes a b sl).1.phase ≠ 4) ∨ ((r.goes a b sl).1.mt = (see r.most a b).1 ∧ (see r.most a b).2 = none) ∨ ((r.goes a b sl).1.mt = r.mt ∧ r.phase = 3) ∨ (r.goes a b sl).1 = r := by
    unfold Rdr.goes
    split
    · left
      dsimp only
      split <;> simp
    · split
      · dsimp only
        unfold Rdr.looks
        split
        · left; simp
        · split
          · left; simp
          · right; left
            exact ⟨rfl, by assumption⟩
      · split
        · dsimp only
          split
          · right; right; left; exact ⟨rfl, by assumption⟩
          · left; simp
        · split
          · left; simp
          · right; right; right; rfl
  unfold Rdr.step
  split
  · right; right; right; rfl
  · split
    · exact hg
    · exact hg
theorem RtI.step (h : RtI T a b sl r) : RtI T a b (r.step a b sl).2.2 (r.step a b sl).2.1 := by
  obtain ⟨h1, h2⟩ := h.inv.step a b h.ok
  refine ⟨h.sz, h.le, h1, h2, fun hp => ?_⟩
  rcases step_way r a b sl with hw | ⟨hw, hs⟩ | ⟨hw, hs⟩ | hw
  · omega
  · rw [hw]
    exact ⟨h.le _ (see_seen hs), fun x hx e => hx.one (see_seen hs) e⟩
  · rw [hw]
    exact h.cs (.inl hs)
  · rw [hw] at hp ⊢
    exact h.cs hp
theorem RtI.claim (h : RtI T a b sl r) : RtI T a b (claimed sl 300) r := ⟨h.sz, h.le, h.inv, h.ok.claimed (by decide), h.cs⟩
theorem RtI.free (h : RtI T a b sl r) (k : Int) : RtI T a b (freeSl sl k 300) r := ⟨h.sz, h.le, h.inv, h.ok.freeSl, h.cs⟩
def spoilt : Txt := [115, 112, 111, 105, 108, 116]
theorem right_spoilt (i : Int) : right spoilt i = none := right_bad (by decide +kernel) i
theorem spoil_seen {q : Nat} {x : Mt} (h : Seen (([a, b].set q spoilt).getD 0 []) (([a, b].set q spoilt).getD 1 []) x) : Seen a b x := by
  match q with
  | 0 => rcases h with h | h
         · exact absurd (right_spoilt 0) (by rw [show ([a, b].set 0 spoilt).getD 0 [] = spoilt from rfl] at h; rw [h]; simp)
         · exact .inr h
  | 1 => rcases h with h | h
         · exact .inl h
         · exact absurd (right_spoilt 1) (by rw [show ([a, b].set 1 spoilt).getD 1 [] = spoilt from rfl] at h; rw [h]; simp)
  | q + 2 => exact h
/-- The pages, one of them another text. -/
def pg2 (a b : Txt) (q : Nat) (s : Txt) (i : Nat) : Txt := ([a, b].set q s).getD i []
theorem pg2_sz {q : Nat} {s : Txt} (hs : s.length ≤ 1000) (h : a.length ≤ 4611686018427387904 ∧ b.length ≤ 4611686018427387904) : (pg2 a b q s 0).length ≤ 4611686018427387904 ∧ (pg2 a b q s 1).length ≤ 4611686018427387904 := by
  unfold pg2
  match q with
  | 0 => exact ⟨by show s.length ≤ _; omega, h.2⟩
  | 1 => exact ⟨h.1, by show s.length ≤ _; omega⟩
  | q + 2 => exact h
theorem pg2_eq {q : Nat} {s : Txt} (hq : q < 2) : [a, b].set q s = [pg2 a b q s 0, pg2 a b q s 1] := by
  match q, hq with
  | 0, _ => rfl
  | 1, _ => rfl
theorem RtI.spoil (h : RtI T a b sl r) (q : Nat) : RtI T (pg2 a b q spoilt 0) (pg2 a b q spoilt 1) sl r :=
  ⟨pg2_sz (by decide) h.sz, fun x hx => h.le x (spoil_seen hx), h.inv, h.ok, fun hp => ⟨(h.cs hp).1, fun x hx e => (h.cs hp).2 x (spoil_seen hx) e⟩⟩
theorem RtI.write (h : RtI T a b sl r) (hT : 0 ≤ T ∧ T + 1 < 18446744073709551616) {k : Int} (hk : 2 ≤ k ∧ k ≤ 400) {q : Nat} (hq : (T + 1) % 2 = (q : Int)) : RtI (T + 1) (pg2 a b q (metaB (mt2 (T + 1) k)) 0) (pg2 a b q (metaB (mt2 (T + 1) k)) 1) sl r := by
  have hml := metaB_le (mt2 (T + 1) k)
  have hr := right_metaB (mt2_is (n := T + 1) (l := k) hk) (show 0 ≤ T + 1 ∧ T + 1 < 18446744073709551616 by omega)
  have hs : ∀ x, Seen (pg2 a b q (metaB (mt2 (T + 1) k)) 0) (pg2 a b q (metaB (mt2 (T + 1) k)) 1) x → Seen a b x ∨ x.txn = T + 1 := by
    intro x hx
    have hq2 : q = 0 ∨ q = 1 := by omega
    rcases hq2 with rfl | rfl
    · rcases hx with hx | hx
      · rw [show pg2 a b 0 (metaB (mt2 (T + 1) k)) 0 = metaB (mt2 (T + 1) k) from rfl, hr] at hx
        split at hx
        · injection hx with hx; right; rw [← hx]; rfl
        · cases hx
      · exact .inl (.inr hx)
    · rcases hx with hx | hx
      · exact .inl (.inl hx)
      · rw [show pg2 a b 1 (metaB (mt2 (T + 1) k)) 1 = metaB (mt2 (T + 1) k) from rfl, hr] at hx
        split at hx
        · injection hx with hx; right; rw [← hx]; rfl
        · cases hx
  refine ⟨pg2_sz (by omega) h.sz, fun x hx => ?_, h.inv, h.ok, fun hp => ⟨?_, fun x hx e => ?_⟩⟩
  · rcases hs x hx with hx | hx
    · have := h.le x hx; omega
    · omega
  · have := (h.cs hp).1; omega
  · rcases hs x hx with hx | hx
    · exact (h.cs hp).2 x hx e
    · have := (h.cs hp).1; omega
theorem RtI.start {pid most : Int} (hp : 0 ≤ pid ∧ pid ≤ 255) : RtI 1 (metaB (mt2 0 2)) (metaB (mt2 1 2)) (List.replicate 8 sl0) ⟨pid, most, 1, -1, mt0, none⟩ := by
  have h0 := metaB_le (mt2 0 2)
  have h1 := metaB_le (mt2 1 2)
  refine ⟨by omega, fun x hx => ?_, ⟨by simp, fun _ _ => rfl, fun _ => rfl, ⟨hp.1, by show pid < _; omega⟩, by show (0 : Int) ≤ 0 ∧ (0 : Int) < _; decide⟩, SlsOk.new, fun hp => ?_⟩
  · rcases hx with hx | hx
    · rw [right_metaB (mt2_is (n := 0) (l := 2) (by decide)) (by decide)] at hx
      split at hx
      · injection hx with hx; rw [← hx]; decide
      · cases hx
    · rw [right_metaB (mt2_is (n := 1) (l := 2) (by decide)) (by decide)] at hx
      split at hx
      · injection hx with hx; rw [← hx]; decide
      · cases hx
  · simp at hp
end
end Sp
end Go.Proofs.YtmcpkhknjdiocaaGreatDoor
namespace Go.Proofs.YtmcpkhknjdiocaaGreatDoor
open Go.ChangeShapes Go.WideShapes Go.RowKit
namespace Lh
def laidL : List (String × DataW Unit) := [("errors.errorType", Rows.laid_errors_errorType)]
theorem et : Tryz.prog.globalNamed "errors.errorType" = some 0 := by kernel_rfl
theorem rt : (Tryz.prog.cutTypes.find? (·.1 == "internal/reflectlite.rtype")).map (·.2) = some 209 := by kernel_rfl
theorem oneRow : ((List.range Tryz.prog.types.size).filter fun t => Tryz.prog.rowNamed t [101, 114, 114, 111, 114]) = [51] := by kernel_rfl
theorem errVar_of_laid {W : World} (h : laidMetH Tryz.prog laidL W) : ErrVar W := by
  have h' : laidMet Tryz.prog [] W ∧ handlesMet Tryz.prog laidL W := h
  obtain ⟨name, u, ty, e1, e2, e3, e4, e5⟩ := h'.2 _ (List.mem_singleton.2 rfl)
  have en : name = [101, 114, 114, 111, 114] := (Option.some.inj e1).symm
  subst en
  obtain rfl := Option.some.inj (rt.symm.trans e2)
  have hm : ty ∈ (List.range Tryz.prog.types.size).filter fun t => Tryz.prog.rowNamed t [101, 114, 114, 111, 114] := List.mem_filter.2 ⟨List.mem_range.2 e3, e4⟩
  rw [oneRow] at hm
  obtain rfl := List.mem_singleton.1 hm
  have hh : typeHandle Tryz.prog 51 = .pointer (some ⟨1, 51, none⟩) := by kernel_rfl
  rw [hh] at e5
  show W.cell? ⟨0, 0, none⟩ = _
  simpa using World.var?_cell et e5 0
noncomputable def laidWorld (os : Os) : World :=
  let w0 := World.holding Tryz.prog os ⟨#[], #[], []⟩
  { w0 with heap := w0.heap.modify 0 fun
      | .cells _ t frozen => .cells #[.iface 209 (.agg #[.pointer (some ⟨1, 51, none⟩)])] t frozen
      | o => o }
theorem laidWorld_met (os : Os) (args : Array Value) : laidMetH Tryz.prog laidL ((laidWorld os).forCall (fun _ _ => 0) ⟨#[], args, []⟩).memory :=
  laidMetH_of_parts (laidMet_nil _ _) (by kernel_rfl)
end Lh
end Go.Proofs.YtmcpkhknjdiocaaGreatDoor
namespace Go.Proofs.YtmcpkhknjdiocaaGreatDoor
open Go.RowKit
attribute [local go_sem low] mk_extract
attribute [local go_sem] After.cell After.frozen mk_extract_end ByteArray.mk_append_mk
namespace Sp
theorem lt_eq (a b : Txt) : lt a b = decide (a < b) := bytesLess_eq a b
theorem lt_irr (a : Txt) : lt a a = false := by
  rw [lt_eq]
  exact decide_eq_false (List.lt_irrefl a)
theorem lt_trans {a b c : Txt} (h1 : lt a b = true) (h2 : lt b c = true) : lt a c = true := by
  rw [lt_eq] at *
  exact decide_eq_true (List.lt_trans (of_decide_eq_true h1) (of_decide_eq_true h2))
theorem lt_tri (a b : Txt) : lt a b = true ∨ a = b ∨ lt b a = true := by
  rw [lt_eq, lt_eq]
  by_cases h1 : a < b
  · exact .inl (decide_eq_true h1)
  · by_cases h2 : b < a
    · exact .inr (.inr (decide_eq_true h2))
    · exact .inr (.inl (List.le_antisymm (List.not_lt.1 h2) (List.not_lt.1 h1)))
/-- An item put into a leaf's. -/
def insIt (x : Item) : List Item → List Item
  | [] => [x]
  | y :: l => if lt y.key x.key then y :: insIt x l else if y.key = x.key then x :: l else x :: y :: l
/-- Items whose keys rise. -/
def Rising (l : List Item) : Prop := l.Pairwise fun a b => lt a.key b.key = true
end Sp
end Go.Proofs.YtmcpkhknjdiocaaGreatDoor
namespace Go.Proofs.YtmcpkhknjdiocaaGreatDoor
open Go.RowKit
attribute [local go_sem low] mk_extract
attribute [local go_sem] After.cell After.frozen mk_extract_end ByteArray.mk_append_mk
namespace Sp
/-- A tree of so many levels of branches: pages by number, children each with its key. -/
def T : Nat → Type
  | 0 => Nat × List Item
  | d + 1 => Nat × List (Txt × T d)
def T.id : (d : Nat) → T d → Nat
  | 0, t => t.1
  | _ + 1, t => t.1
def T.items : (d : Nat) → T d → List Item
  | 0, t => t.2
  | d + 1, t => t.2.flatMap fun c => T.items d c.2
/-- Which child: the last one whose key isn't above. -/
def downI {α : Type} (key : Txt) : List (Txt × α) → Nat
  | [] => 0
  | [_] => 0
  | _ :: c :: cs => if lt key c.1 then 0 else downI key (c :: cs) + 1
/-- A child replaced, maybe by two. -/
def graft {α : Type} (k : Nat) (t : α) (more : Option (Txt × α)) (cs : List (Txt × α)) : List (Txt × α) :=
  match cs[k]? with
  | none => cs
  | some c => cs.take k ++ (c.1, t) :: (more.toList ++ cs.drop (k + 1))
/-- An item put in: the tree as it is now, behind it a new one with its key; the next free number. -/
def T.put (x : Item) : (d : Nat) → T d → Nat → T d × Option (Txt × T d) × Nat
  | 0, t, n => if (insIt x t.2).length ≤ 4 then ((t.1, insIt x t.2), none, n) else ((t.1, (insIt x t.2).take 3), some (((insIt x t.2).getD 3 item0).key, (n, (insIt x t.2).drop 3)), n + 1)
  | d + 1, t, n => match t.2[downI x.key t.2]? with
    | none => (t, none, n)
    | some c => let r := T.put x d c.2 n
      let cs := graft (downI x.key t.2) r.1 r.2.1 t.2
      if cs.length ≤ 4 then ((t.1, cs), none, r.2.2)
      else match cs.drop 3 with
        | [] => (t, none, n)
        | b :: bs => ((t.1, cs.take 3), some (b.1, (r.2.2, ([], b.2) :: bs)), r.2.2 + 1)
/-- Children that are parted by their keys. -/
def Parted {α : Type} (f : α → List Item) (cs : List (Txt × α)) : Prop :=
  cs.Pairwise (fun a b => ∀ y ∈ f a.2, lt y.key b.1 = true) ∧ ∀ c ∈ cs, ∀ y ∈ f c.2, lt y.key c.1 = false
/-- A right tree (a root may be small). -/
def T.Ok : (d : Nat) → Bool → T d → Prop
  | 0, top, t => t.2.length ≤ 4 ∧ (if top then 1 else 2) ≤ t.2.length ∧ Rising t.2 ∧ ∀ y ∈ t.2, isItem y = true
  | d + 1, _, t => 2 ≤ t.2.length ∧ t.2.length ≤ 4 ∧ (t.2.map (·.1)).head? = some [] ∧ Parted (T.items d) t.2 ∧ (∀ c ∈ t.2.tail, short c.1 = true) ∧ ∀ c ∈ t.2, T.Ok d false c.2
theorem T.Ok.top {d : Nat} {t : T d} (h : T.Ok d false t) : T.Ok d true t := by
  cases d with
  | zero => exact ⟨h.1, Nat.le_trans (by decide) h.2.1, h.2.2⟩
  | succ d => exact h
theorem T.Ok.ne {d : Nat} {b : Bool} {t : T d} (h : T.Ok d b t) : T.items d t ≠ [] := by
  induction d generalizing b with
  | zero =>
    intro e
    have h2 := h.2.1
    have : t.2 = [] := e
    rw [this] at h2
    cases b <;> simp at h2
  | succ d ih =>
    intro e
    obtain ⟨h1, _, _, _, _, h6⟩ := h
    match hc : t.2 with
    | [] => rw [hc] at h1; simp at h1
    | c :: cs =>
      have hcm : c ∈ t.2 := by rw [hc]; simp
      apply ih (h6 c hcm)
      have e' : t.2.flatMap (fun c => T.items d c.2) = [] := e
      rw [List.flatMap_eq_nil_iff] at e'
      exact e' c hcm
theorem parted_rising {α : Type} {f : α → List Item} : ∀ {cs : List (Txt × α)}, Parted f cs → (∀ c ∈ cs, Rising (f c.2)) → Rising (cs.flatMap fun c => f c.2)
  | [], _, _ => List.Pairwise.nil
  | c :: cs, ⟨h1, h2⟩, h3 => by
    obtain ⟨h4, h5⟩ := List.pairwise_cons.1 h1
    rw [List.flatMap_cons]
    refine List.pairwise_append.2 ⟨h3 c (by simp), parted_rising ⟨h5, fun c hc => h2 c (by simp [hc])⟩ (fun c hc => h3 c (by simp [hc])), fun y hy z hz => ?_⟩
    obtain ⟨c', hc', hz⟩ := List.mem_flatMap.1 hz
    have a := h4 c' hc' y hy
    have b := h2 c' (by simp [hc']) z hz
    rcases lt_tri c'.1 z.key with h | h | h
    · exact lt_trans a h
    · rw [← h]; exact a
    · rw [b] at h; simp at h
theorem T.Ok.rising {d : Nat} {b : Bool} {t : T d} (h : T.Ok d b t) : Rising (T.items d t) := by
  induction d generalizing b with
  | zero => exact h.2.2.1
  | succ d ih =>
    obtain ⟨_, _, _, h4, _, h6⟩ := h
    exact parted_rising h4 fun c hc => ih (h6 c hc)
theorem T.Ok.item {d : Nat} {b : Bool} {t : T d} (h : T.Ok d b t) : ∀ y ∈ T.items d t, isItem y = true := by
  induction d generalizing b with
  | zero => exact h.2.2.2
  | succ d ih =>
    obtain ⟨_, _, _, _, _, h6⟩ := h
    intro y hy
    obtain ⟨c, hc, hy⟩ := List.mem_flatMap.1 hy
    exact ih (h6 c hc) y hy
end Sp
end Go.Proofs.YtmcpkhknjdiocaaGreatDoor
namespace Go.Proofs.YtmcpkhknjdiocaaGreatDoor
open Go.RowKit
attribute [local go_sem low] mk_extract
attribute [local go_sem] After.cell After.frozen mk_extract_end ByteArray.mk_append_mk
namespace Sp
theorem lt_le {a b z : Txt} (h1 : lt a b = true) (h2 : lt z b = false) : lt a z = true := by
  rcases lt_tri b z with h | h | h
  · exact lt_trans h1 h
  · rw [← h]; exact h1
  · rw [h2] at h; simp at h
def KeysRise {α : Type} (cs : List (Txt × α)) : Prop := cs.Pairwise fun a b => lt a.1 b.1 = true
theorem split_at {α : Type} {cs : List α} {k : Nat} {c : α} (h : cs[k]? = some c) : cs = cs.take k ++ c :: cs.drop (k + 1) := by
  obtain ⟨hk, hc⟩ := List.getElem?_eq_some_iff.1 h
  have := List.take_append_drop k cs
  rw [List.drop_eq_getElem_cons hk, hc] at this
  exact this.symm
end Sp
end Go.Proofs.YtmcpkhknjdiocaaGreatDoor
