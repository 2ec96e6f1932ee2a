/- Whether a key is within bounds: tree.bounds; whether an item of a leaf is not: slices.ContainsFunc by the shelf's contract. Whether an item of a leaf is out of bounds: slices.ContainsFunc by the shelf's contract. -/
import Derived.Test.YtlpmjeiogdlifaaGreatQB24
import Derived.Shelf.SlicesQ.IndexFunc
set_option linter.unusedSimpArgs false
set_option linter.unusedVariables false
namespace Go.Proofs.YtlpmjeiogdlifaaGreat
open Go.RowKit
attribute [local go_sem low] mk_extract
attribute [local go_sem] After.cell After.frozen mk_extract_end ByteArray.mk_append_mk
abbrev BndT : TypeId := 109
theorem geq_yes {key fr : Txt} (h : Sp.lt key fr = false) : (Op.bytesLess fr key || (key == fr)) = true ∧ (Op.bytesLess fr key || (fr == key)) = true ∧ (!Op.bytesLess key fr) = true := by
  refine ⟨?_, ?_, by rw [show Op.bytesLess key fr = false from h]; rfl⟩
  · rcases gt_no h with h1 | h1
    · rw [h1]; rfl
    · have : key = fr := (beq_iff_eq.1 h1).symm
      subst this
      simp
  · rcases gt_no h with h1 | h1
    · rw [h1]; rfl
    · rw [h1, Bool.or_true]
theorem geq_no {key fr : Txt} (h : Sp.lt key fr = true) : Op.bytesLess fr key = false ∧ (key == fr) = false ∧ (fr == key) = false ∧ Op.bytesLess key fr = true := by
  obtain ⟨h1, h2⟩ := gt_yes h
  refine ⟨h1, ?_, h2, h⟩
  rw [beq_eq_false_iff_ne] at h2 ⊢
  exact fun e => h2 e.symm
set_option maxRecDepth 100000 in
set_option maxHeartbeats 1600000 in
theorem holds_any (fr bl key : Txt) (w : World) : Calls Tryz.prog 96 #[.agg #[.string ⟨fr.toArray⟩, .string ⟨bl.toArray⟩], .string ⟨key.toArray⟩] w fun e w' => e = .returned (.bool (Sp.within fr bl key)) ∧ Below w.heap.size w w' := by
  have hal : Below w.heap.size w (w.alloc (.cells #[.string ⟨fr.toArray⟩, .string ⟨bl.toArray⟩] BndT)) := (Below.refl _ _).alloc (Nat.le_refl _) _
  have hbl := Blk.new w BndT #[.string ⟨fr.toArray⟩, .string ⟨bl.toArray⟩]
  have HW := Lib.hid (show Sp.within fr bl key = (!Sp.lt key fr && (decide (bl = []) || Sp.lt key bl)) from rfl)
  rcases h1 : Sp.lt key fr with _ | _
  · obtain ⟨q1, q2, q3⟩ := geq_yes h1
    rw [h1] at HW
    have HG := Lib.hid (gt_no h1)
    have h1' : Op.bytesLess key fr = false := h1
    by_cases h2 : bl = []
    · subst h2
      rcases HG.out with g | g <;>
      · go_enter Tryz.func96, Tryz.ntmps96
        go_wp2_with fail
        go_ret
        exact ⟨by rw [HW.out]; simp, hal⟩
    · have hb2 : (bl == []) = false := beq_eq_false_iff_ne.2 h2
      rcases h3 : Sp.lt key bl with _ | _
      · have h3' : Op.bytesLess key bl = false := h3
        rw [h3] at HW
        rcases HG.out with g | g <;>
        · go_enter Tryz.func96, Tryz.ntmps96
          go_wp2_with fail
          go_ret
          exact ⟨by rw [HW.out]; simp [h2], hal⟩
      · have h3' : Op.bytesLess key bl = true := h3
        rw [h3] at HW
        rcases HG.out with g | g <;>
        · go_enter Tryz.func96, Tryz.ntmps96
          go_wp2_with fail
          go_ret
          exact ⟨by rw [HW.out]; simp, hal⟩
  · obtain ⟨q1, q2, q3, q4⟩ := geq_no h1
    rw [h1] at HW
    go_enter Tryz.func96, Tryz.ntmps96
    go_wp2_with fail
    go_ret
    exact ⟨by rw [HW.out]; simp, hal⟩
end Go.Proofs.YtlpmjeiogdlifaaGreat
namespace Go.Proofs.YtlpmjeiogdlifaaGreat
open Go.RowKit
attribute [local go_sem low] mk_extract
attribute [local go_sem] After.cell After.frozen mk_extract_end ByteArray.mk_append_mk
def renCF : Go.Shelf.Ren := ⟨fun | 6 => 155 | 8 => 94 | n => n, fun | 22 => 36 | 23 => 45 | 3 => 3 | 4 => 4 | 25 => 164 | 0 => 0 | n => n, fun | n => n⟩
theorem layCF : SlLaysH0.n8 Tryz.prog renCF := {
  mixed := by kernel_rfl
  f6 := ⟨Tryz.f155.name, by decide, Tryz.func155.trans (congrArg some (by kernel_rfl))⟩
  f8 := ⟨Tryz.f94.name, by decide, Tryz.func94.trans (congrArg some (by kernel_rfl))⟩
  t0 := Tryz.underlying0
  a0 := Tryz.isAgg0
  z0 := Tryz.sizeOf0
  v0 := Tryz.zeroValue0
  t3 := Tryz.underlying3
  a3 := Tryz.isAgg3
  z3 := Tryz.sizeOf3
  v3 := Tryz.zeroValue3
  t4 := Tryz.underlying4
  a4 := Tryz.isAgg4
  z4 := Tryz.sizeOf4
  v4 := Tryz.zeroValue4
  t22 := Tryz.underlying36
  a22 := Tryz.isAgg36
  z22 := Tryz.sizeOf36
  v22 := Tryz.zeroValue36
  t25 := Tryz.underlying164
  a25 := Tryz.isAgg164
  z25 := Tryz.sizeOf164
  v25 := Tryz.zeroValue164 }
theorem callFunc_chk1 (cap : Array Value) (w : World) : (callFunc 95 cap).run Tryz.prog w = .ok (.enter 95 cap) w := by kernel_rfl
abbrev ItR : Type := Sp.Item × Option Addr × Nat
def encR (x : ItR) : List Value := itemV x.1 x.2.1 x.2.2
def outB (fr bl : Txt) (x : ItR) : Bool := !Sp.within fr bl x.1.key
set_option maxRecDepth 100000 in
set_option maxHeartbeats 1600000 in
theorem chk1_pred (fr bl : Txt) (bb : Nat) (w : World) (hb : Blk w bb BndT #[.string ⟨fr.toArray⟩, .string ⟨bl.toArray⟩]) : PredBelow Tryz.prog 95 #[.pointer (some ⟨bb, 0, none⟩)] (fun x : ItR => .agg (encR x).toArray) (outB fr bl) w := by
  intro W x hW
  have hbW := Lib.hid (hb.below hW hb.lt)
  obtain ⟨x, X, c⟩ := x
  show Calls Tryz.prog 95 #[.agg #[.string ⟨x.key.toArray⟩, .int .i64 x.kind, .string ⟨x.val.toArray⟩, .int .i64 x.run, .int .i64 x.len, .slice X x.vals.length c, .int .i64 x.dup, .int .i64 x.root.page, .int .i64 x.root.count, .int .i64 x.root.flags], .pointer (some ⟨bb, 0, none⟩)] W _
  have hsz := hW.size
  have hal : Below W.heap.size W (W.alloc (.cells #[.string ⟨x.key.toArray⟩, .int .i64 x.kind, .string ⟨x.val.toArray⟩, .int .i64 x.run, .int .i64 x.len, .slice X x.vals.length c, .int .i64 x.dup, .int .i64 x.root.page, .int .i64 x.root.count, .int .i64 x.root.flags] ItemT)) := (Below.refl _ _).alloc (Nat.le_refl _) _
  have HX := Lib.hid (hbW.out.below hal hbW.out.lt)
  have HO := Lib.hid (show outB fr bl (x, X, c) = !Sp.within fr bl x.key from rfl)
  generalize outB fr bl (x, X, c) = ob at *
  go_enter Tryz.func95, Tryz.ntmps95
  go_wp2_with (first
    | (refine wpList_row BndT _ rfl bb rfl rfl BndT _ (0, 0) _ HX.out Tryz.underlying109 rfl (by kernel_rfl) ?_)
    | (go_at_call 96; refine (holds_any fr bl x.key _).mono ?_; rintro e w2 ⟨rfl, hb2⟩; have HB2 := Lib.hid hb2; clear hb2))
  go_ret
  exact ⟨by rw [HO.out]; rfl, hW.trans ((hal.trans (HB2.out.mono hal.size)).mono hsz)⟩
theorem contains_any {M : Nat → Prop} (l : List Sp.Item) (A : Option Addr) (c : Nat) (fr bl : Txt) (bb : Nat) (w : World) (hi : Items w M A l) (h0 : l ≠ []) (hb : Blk w bb BndT #[.string ⟨fr.toArray⟩, .string ⟨bl.toArray⟩]) :
    Calls Tryz.prog 94 #[.slice A l.length c, .func (.func 95) #[] #[.pointer (some ⟨bb, 0, none⟩)]] w fun e w' => e = .returned (.bool (l.any fun x => !Sp.within fr bl x.key)) ∧ Below w.heap.size w w' := by
  haveI : Inhabited ItR := ⟨(Sp.item0, none, 0)⟩
  have hl := hi.1
  obtain ⟨b, off, rfl, hblt, hc⟩ := hi.at_ (k := 0) (List.length_pos_iff.2 h0)
  have hex : ∀ k : Nat, ∃ y : Option Addr × Nat, k < l.length → ∀ j u, (itemV (l.getD k Sp.item0) y.1 y.2)[j]? = some u → w.cell? ⟨b, off + k * 10 + j, none⟩ = some u := fun k => by
    by_cases hk : k < l.length
    · obtain ⟨V, c, h1, _⟩ := hc k hk
      exact ⟨(V, c), fun _ => itemAt_cells h1⟩
    · exact ⟨(none, 0), fun h => absurd h hk⟩
  obtain ⟨F, hF⟩ := Classical.axiomOfChoice hex
  have hzl : ((List.range l.length).map fun k => ((l.getD k Sp.item0, F k) : ItR)).length = l.length := by simp
  have hcall := AnyQ.slices_ContainsFunc (α := ItR) layCF 10 Tryz.isAgg45 Tryz.sizeOf45 encR (fun x => rfl) (outB fr bl) 95 #[.pointer (some ⟨bb, 0, none⟩)] callFunc_chk1 b off l.length c ((List.range l.length).map fun k => ((l.getD k Sp.item0, F k) : ItR)) w (chk1_pred fr bl bb w hb) (by rw [hzl]; exact Nat.le_refl _) (by omega) hblt (fun j hj i v hv => by
    rw [hzl] at hj
    have e : ((List.range l.length).map fun k => ((l.getD k Sp.item0, F k) : ItR))[j]! = (l.getD j Sp.item0, F j) := by
      rw [List.getElem!_eq_getElem?_getD, List.getElem?_map, List.getElem?_range hj]
      rfl
    rw [e] at hv
    exact hF j hj i v hv)
  refine hcall.mono fun e w' ⟨h1, h2⟩ => ⟨?_, h2⟩
  rw [h1]
  congr 2
  rw [List.take_of_length_le (by rw [hzl]; exact Nat.le_refl _)]
  have : l = ((List.range l.length).map fun k => ((l.getD k Sp.item0, F k) : ItR)).map (fun x => x.1) := by
    refine List.ext_getElem (by simp) fun i h1 h2 => ?_
    simp [List.getD, h1]
  conv => rhs; rw [this, List.any_map]
  rfl
end Go.Proofs.YtlpmjeiogdlifaaGreat
