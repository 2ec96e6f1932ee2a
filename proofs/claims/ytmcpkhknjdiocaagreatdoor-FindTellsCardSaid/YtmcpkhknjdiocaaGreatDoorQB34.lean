/- The document's first: the first item at or above a key. The document's Above, Behind, Get. find.Get. What find tells of trees of numbers; how a store is laid over them; law10's known tree. -/
import Derived.Test.YtmcpkhknjdiocaaGreatDoorQB03
import Derived.Test.YtmcpkhknjdiocaaGreatDoorQB20
import Derived.Test.YtmcpkhknjdiocaaGreatDoorQB24
import Derived.Test.YtmcpkhknjdiocaaGreatDoorQB31
import Derived.Test.YtmcpkhknjdiocaaGreatDoorQB33
set_option linter.unusedSimpArgs false
set_option linter.unusedVariables false
namespace Go.Proofs.YtmcpkhknjdiocaaGreatDoor
open Go.RowKit
attribute [local go_sem low] mk_extract
attribute [local go_sem] After.cell After.frozen mk_extract_end ByteArray.mk_append_mk
/-- What the document tells of an item that is sought. -/
def DFindIs (e : Ending) (y : Option Sp.Item) : Prop := match y with
  | none => e = .returned (.tuple #[.agg itZ, .int .i64 21])
  | some y => ∃ V c, e = .returned (.tuple #[.agg (itemV y V c).toArray, .int .i64 0])
/-- What is wanted: at or above a key; with 'above' above it alone. -/
def wantD (key : Txt) (ab : Bool) (k : Txt) : Bool := Sp.lt key k || (k == key && !ab)
theorem wantD_at (key k : Txt) : wantD key false k = !Sp.lt k key := by
  unfold wantD
  rcases Sp.lt_tri key k with h | h | h
  · rw [h, Sp.lt_asymm h]; simp
  · subst h; simp [Sp.lt_irr]
  · have h1 := Sp.lt_asymm h
    have h2 : (k == key) = false := beq_eq_false_iff_ne.2 fun e => by rw [e, Sp.lt_irr] at h; cases h
    rw [h, h1, h2]; simp
theorem wantD_behind (key k : Txt) : wantD key true k = Sp.lt key k := by
  unfold wantD
  simp
structure DfS (w W : World) (A : Option Addr) (l : List Sp.Item) : Prop where
  bz : Blk W w.heap.size ItemT itZ
  it : Items W NoM A l
  hb : Below w.heap.size w W
set_option maxRecDepth 100000 in
set_option maxHeartbeats 1600000 in
theorem dFirst_any (s : Nat) (o : Option Sp.Rt) (key : Txt) (ab : Bool) (w : World) (h : DtS w s o) (hn : (Sp.Rt.items o).length ≤ 1000) :
    Calls Tryz.prog 69 #[.pointer (some ⟨s, 0, none⟩), .int .i64 ((Sp.Rt.root o : Nat) : Int), .string ⟨key.toArray⟩, .bool ab] w fun e w' => DFindIs e ((Sp.Rt.items o).find? fun y => wantD key ab y.key) ∧ Below w.heap.size w w' := by
  have hal : Below w.heap.size w (w.alloc (.cells itZ ItemT)) := (Below.refl _ _).alloc (Nat.le_refl _) _
  have HL := Lib.hid (list_any s o _ (h.go hal) hn)
  have HZ := Lib.hid (Blk.new w ItemT itZ)
  have HAL := Lib.hid hal
  clear hal h
  generalize hll : Sp.Rt.items o = l at *
  clear hll
  simp only [itZ] at *
  go_enter Tryz.func69, Tryz.ntmps69
  go_upto_region 2 with (go_at_call 101; refine HL.out.mono ?_; rintro e w2 ⟨A, c, rfl, hi, hb⟩; have S0 := Lib.hid (show DfS w w2 A l from ⟨HZ.out.below hb HZ.out.lt, hi, HAL.out.trans (hb.mono HAL.out.size)⟩); clear hi hb)
  clear HZ HAL HL
  go_upto_region 3 with fail
  go_loopw [12] (fun iv wr => ∃ k : Nat, k ≤ l.length ∧ iv = .int .i64 (k : Int) ∧ wr = w2 ∧ Hid (∀ j, j < k → wantD key ab (l.getD j Sp.item0).key = false)) (fun iv _ => l.length - (intOf iv).toNat)
  case atStart => exact ⟨0, Nat.zero_le _, rfl, rfl, Lib.hid (fun j hj => absurd hj (by omega))⟩
  case round =>
    obtain ⟨k, hk, rfl, rfl, HNO⟩ := hrel
    by_cases hlt : k < l.length
    · obtain ⟨ib, io, rfl, hib, hit⟩ := S0.out.it.at_ hlt
      obtain ⟨V', c', hi', _⟩ := hit k hlt
      have HY := Lib.hid hi'
      have y0 : wr.cell? ⟨ib, io + k * 10, none⟩ = some (.string ⟨(l.getD k Sp.item0).key.toArray⟩) := hi'.c0
      have HH := Lib.hid (fun (h : wantD key ab (l.getD k Sp.item0).key = true) => Sp.find_hit (W := fun y => wantD key ab y.key) (d := Sp.item0) hlt HNO.out h)
      have HNX := Lib.hid (fun (h : wantD key ab (l.getD k Sp.item0).key = false) => show ∀ j, j < k + 1 → wantD key ab (l.getD j Sp.item0).key = false from fun j hj => by
        rcases Nat.lt_succ_iff_lt_or_eq.1 hj with h' | rfl
        · exact HNO.out j h'
        · exact h)
      clear hit hi' HNO
      generalize l.getD k Sp.item0 = y at *
      have hkl : (k : Int) < (l.length : Int) := by omega
      rcases hq : Sp.lt key y.key with _ | _
      · by_cases he : y.key = key
        · have hb1 : (y.key == key) = true := beq_iff_eq.2 he
          have hb0 : Op.bytesLess y.key key = false := by rw [he]; exact Sp.lt_irr key
          rcases ab with _ | _
          · have HR := Lib.hid (HH.out (by unfold wantD; rw [hb1]; simp))
            clear HNX HH hq he
            as_aux_lemma =>
              go_wp2_with (first
                | (refine wpList_at ItemT _ rfl ib (io + k * 10) rfl rfl (itemV y V' c').toArray _ (fun j v hv => HY.out.cells j v hv) Tryz.underlying83 rfl (by kernel_rfl) ?_)
                | (refine wpList_store_row rfl ItemT _ _ rfl w.heap.size _ rfl rfl ItemT _ S0.out.bz (by kernel_rfl) rfl (itemV_all0 y V' c') ?_))
              obtain ⟨⟨z0, z1, z2, z3, z4, z5, z6, z7, z8, z9⟩, _⟩ := (S0.out.bz.row (ds := #[.string ⟨y.key.toArray⟩, .int .i64 y.kind, .string ⟨y.val.toArray⟩, .int .i64 y.run, .int .i64 y.len, .slice V' y.vals.length c', .int .i64 y.dup, .int .i64 y.root.page, .int .i64 y.root.count, .int .i64 y.root.flags])).at10
              have hb4 : Below w.heap.size w (wr.setRow w.heap.size (itemV y V' c').toArray) := below_setRow S0.out.hb (Nat.le_refl _) _
              refine bodyPost_ret (v := .tuple #[.agg (itemV y V' c').toArray, .int .i64 0]) (by simp [results, Tryz.results69, go_sem, itemV, z0, z1, z2, z3, z4, z5, z6, z7, z8, z9]) rfl ⟨?_, hb4⟩
              rw [HR.out]
              exact ⟨V', c', rfl⟩
          · have HN2 := Lib.hid (HNX.out (by unfold wantD; rw [hq]; simp))
            clear HNX HH hq he
            as_aux_lemma =>
              go_wp2_with fail
              refine ⟨⟨k + 1, by omega, by go_num, trivial, HN2⟩, by simp [intOf]; omega⟩
        · have hb1 : (y.key == key) = false := beq_eq_false_iff_ne.2 he
          have hb0 : Op.bytesLess y.key key = true := by
            rcases gt_no hq with h | h
            · exact h
            · rw [hb1] at h; cases h
          have HN2 := Lib.hid (HNX.out (by unfold wantD; rw [hq, hb1]; simp))
          clear HNX HH hq he
          as_aux_lemma =>
            go_wp2_with fail
            refine ⟨⟨k + 1, by omega, by go_num, trivial, HN2⟩, by simp [intOf]; omega⟩
      · obtain ⟨hb0, hb1⟩ := gt_yes hq
        have HR := Lib.hid (HH.out (by unfold wantD; rw [hq]; simp))
        clear HNX HH hq
        as_aux_lemma =>
          go_wp2_with (first
            | (refine wpList_at ItemT _ rfl ib (io + k * 10) rfl rfl (itemV y V' c').toArray _ (fun j v hv => HY.out.cells j v hv) Tryz.underlying83 rfl (by kernel_rfl) ?_)
            | (refine wpList_store_row rfl ItemT _ _ rfl w.heap.size _ rfl rfl ItemT _ S0.out.bz (by kernel_rfl) rfl (itemV_all0 y V' c') ?_))
          obtain ⟨⟨z0, z1, z2, z3, z4, z5, z6, z7, z8, z9⟩, _⟩ := (S0.out.bz.row (ds := #[.string ⟨y.key.toArray⟩, .int .i64 y.kind, .string ⟨y.val.toArray⟩, .int .i64 y.run, .int .i64 y.len, .slice V' y.vals.length c', .int .i64 y.dup, .int .i64 y.root.page, .int .i64 y.root.count, .int .i64 y.root.flags])).at10
          have hb4 : Below w.heap.size w (wr.setRow w.heap.size (itemV y V' c').toArray) := below_setRow S0.out.hb (Nat.le_refl _) _
          refine bodyPost_ret (v := .tuple #[.agg (itemV y V' c').toArray, .int .i64 0]) (by simp [results, Tryz.results69, go_sem, itemV, z0, z1, z2, z3, z4, z5, z6, z7, z8, z9]) rfl ⟨?_, hb4⟩
          rw [HR.out]
          exact ⟨V', c', rfl⟩
    · obtain rfl : k = l.length := by omega
      have HR := Lib.hid (Sp.find_miss (W := fun y => wantD key ab y.key) (d := Sp.item0) HNO.out)
      clear HNO
      have hbz : Blk wr w.heap.size ItemT #[.string ⟨#[]⟩, .int .i64 0, .string ⟨#[]⟩, .int .i64 0, .int .i64 0, .slice none 0 0, .int .i64 0, .int .i64 0, .int .i64 0, .int .i64 0] := S0.out.bz
      go_wp2_with (refine wpList_store_row rfl ItemT _ _ rfl w.heap.size _ rfl rfl ItemT _ hbz (by kernel_rfl) rfl (by kernel_rfl) ?_)
      obtain ⟨⟨z0, z1, z2, z3, z4, z5, z6, z7, z8, z9⟩, _⟩ := (hbz.row (ds := #[.string ⟨#[]⟩, .int .i64 0, .string ⟨#[]⟩, .int .i64 0, .int .i64 0, .slice none 0 0, .int .i64 0, .int .i64 0, .int .i64 0, .int .i64 0])).at10
      have hb4 : Below w.heap.size w (wr.setRow w.heap.size itZ) := below_setRow S0.out.hb (Nat.le_refl _) _
      refine bodyPost_ret (v := .tuple #[.agg itZ, .int .i64 21]) (by simp [results, Tryz.results69, go_sem, itZ, z0, z1, z2, z3, z4, z5, z6, z7, z8, z9]) rfl ⟨?_, hb4⟩
      rw [HR.out]
      rfl
end Go.Proofs.YtmcpkhknjdiocaaGreatDoor
namespace Go.Proofs.YtmcpkhknjdiocaaGreatDoor
open Go.RowKit
attribute [local go_sem low] mk_extract
attribute [local go_sem] After.cell After.frozen mk_extract_end ByteArray.mk_append_mk
theorem DFindIs.cases {e : Ending} {y : Option Sp.Item} (h : DFindIs e y) : (y = none ∧ e = .returned (.tuple #[.agg itZ, .int .i64 21])) ∨ ∃ z V c, y = some z ∧ e = .returned (.tuple #[.agg (itemV z V c).toArray, .int .i64 0]) := by
  cases y with
  | none => exact .inl ⟨rfl, h⟩
  | some z =>
    obtain ⟨V, c, h1⟩ := h
    exact .inr ⟨z, V, c, rfl, h1⟩
theorem DFindIs.form {e : Ending} {y : Option Sp.Item} (h : DFindIs e y) : ∃ a0 a1 a2 a3 a4 a5 a6 a7 a8 a9 n, e = .returned (.tuple #[.agg #[a0, a1, a2, a3, a4, a5, a6, a7, a8, a9], .int .i64 n]) ∧ #[a0, a1, a2, a3, a4, a5, a6, a7, a8, a9].all (·.oneCell') = true := by
  rcases h.cases with ⟨_, rfl⟩ | ⟨z, V, c, _, rfl⟩
  · exact ⟨_, _, _, _, _, _, _, _, _, _, _, rfl, by kernel_rfl⟩
  · exact ⟨_, _, _, _, _, _, _, _, _, _, _, rfl, itemV_all0 z V c⟩
set_option maxRecDepth 100000 in
set_option maxHeartbeats 1600000 in
theorem dAbove_any (s : Nat) (o : Option Sp.Rt) (key : Txt) (w : World) (h : DtS w s o) (hn : (Sp.Rt.items o).length ≤ 1000) :
    Calls Tryz.prog 36 #[.pointer (some ⟨s, 0, none⟩), .int .i64 ((Sp.Rt.root o : Nat) : Int), .string ⟨key.toArray⟩] w fun e w' => DFindIs e ((Sp.Rt.items o).find? fun y => !Sp.lt y.key key) ∧ Below w.heap.size w w' := by
  have hal : Below w.heap.size w (w.alloc (.cells itZ ItemT)) := (Below.refl _ _).alloc (Nat.le_refl _) _
  have HL := Lib.hid (dFirst_any s o key false _ (h.go hal) hn)
  have HZ := Lib.hid (Blk.new w ItemT itZ)
  have HAL := Lib.hid hal
  have HW := Lib.hid (show (Sp.Rt.items o).find? (fun y => wantD key false y.key) = (Sp.Rt.items o).find? fun y => !Sp.lt y.key key from congrArg (fun f => List.find? f (Sp.Rt.items o)) (funext fun y => wantD_at key y.key))
  clear hal h
  rw [HW.out] at HL
  generalize ((Sp.Rt.items o).find? fun y => !Sp.lt y.key key) = fr at *
  clear HW
  simp only [itZ] at *
  go_enter Tryz.func36, Tryz.ntmps36
  go_wp2_with (first
    | (go_at_call 69; refine HL.out.mono ?_; rintro e w2 ⟨hfi, hb2⟩; obtain ⟨a0, a1, a2, a3, a4, a5, a6, a7, a8, a9, n, rfl, hall⟩ := hfi.form; have HF := Lib.hid hfi; have HA := Lib.hid hall; have HZ2 := Lib.hid (HZ.out.below hb2 HZ.out.lt); have HB := Lib.hid (HAL.out.trans (hb2.mono HAL.out.size)); clear hfi hb2 hall)
    | (refine wpList_store_row rfl ItemT _ _ rfl w.heap.size _ rfl rfl ItemT _ HZ2.out (by kernel_rfl) rfl HA.out ?_))
  obtain ⟨⟨z0, z1, z2, z3, z4, z5, z6, z7, z8, z9⟩, _⟩ := (HZ2.out.row (ds := #[a0, a1, a2, a3, a4, a5, a6, a7, a8, a9])).at10
  have hb4 : Below w.heap.size w (w2.setRow w.heap.size #[a0, a1, a2, a3, a4, a5, a6, a7, a8, a9]) := below_setRow HB.out (Nat.le_refl _) _
  refine bodyPost_ret (v := .tuple #[.agg #[a0, a1, a2, a3, a4, a5, a6, a7, a8, a9], .int .i64 n]) (by simp [results, Tryz.results36, go_sem, z0, z1, z2, z3, z4, z5, z6, z7, z8, z9]) rfl ⟨HF.out, hb4⟩
set_option maxRecDepth 100000 in
set_option maxHeartbeats 1600000 in
theorem dBehind_any (s : Nat) (o : Option Sp.Rt) (key : Txt) (w : World) (h : DtS w s o) (hn : (Sp.Rt.items o).length ≤ 1000) :
    Calls Tryz.prog 38 #[.pointer (some ⟨s, 0, none⟩), .int .i64 ((Sp.Rt.root o : Nat) : Int), .string ⟨key.toArray⟩] w fun e w' => DFindIs e ((Sp.Rt.items o).find? fun y => Sp.lt key y.key) ∧ Below w.heap.size w w' := by
  have hal : Below w.heap.size w (w.alloc (.cells itZ ItemT)) := (Below.refl _ _).alloc (Nat.le_refl _) _
  have HL := Lib.hid (dFirst_any s o key true _ (h.go hal) hn)
  have HZ := Lib.hid (Blk.new w ItemT itZ)
  have HAL := Lib.hid hal
  have HW := Lib.hid (show (Sp.Rt.items o).find? (fun y => wantD key true y.key) = (Sp.Rt.items o).find? fun y => Sp.lt key y.key from congrArg (fun f => List.find? f (Sp.Rt.items o)) (funext fun y => wantD_behind key y.key))
  clear hal h
  rw [HW.out] at HL
  generalize ((Sp.Rt.items o).find? fun y => Sp.lt key y.key) = fr at *
  clear HW
  simp only [itZ] at *
  go_enter Tryz.func38, Tryz.ntmps38
  go_wp2_with (first
    | (go_at_call 69; refine HL.out.mono ?_; rintro e w2 ⟨hfi, hb2⟩; obtain ⟨a0, a1, a2, a3, a4, a5, a6, a7, a8, a9, n, rfl, hall⟩ := hfi.form; have HF := Lib.hid hfi; have HA := Lib.hid hall; have HZ2 := Lib.hid (HZ.out.below hb2 HZ.out.lt); have HB := Lib.hid (HAL.out.trans (hb2.mono HAL.out.size)); clear hfi hb2 hall)
    | (refine wpList_store_row rfl ItemT _ _ rfl w.heap.size _ rfl rfl ItemT _ HZ2.out (by kernel_rfl) rfl HA.out ?_))
  obtain ⟨⟨z0, z1, z2, z3, z4, z5, z6, z7, z8, z9⟩, _⟩ := (HZ2.out.row (ds := #[a0, a1, a2, a3, a4, a5, a6, a7, a8, a9])).at10
  have hb4 : Below w.heap.size w (w2.setRow w.heap.size #[a0, a1, a2, a3, a4, a5, a6, a7, a8, a9]) := below_setRow HB.out (Nat.le_refl _) _
  refine bodyPost_ret (v := .tuple #[.agg #[a0, a1, a2, a3, a4, a5, a6, a7, a8, a9], .int .i64 n]) (by simp [results, Tryz.results38, go_sem, z0, z1, z2, z3, z4, z5, z6, z7, z8, z9]) rfl ⟨HF.out, hb4⟩
set_option maxRecDepth 100000 in
set_option maxHeartbeats 1600000 in
theorem dGet_any (s : Nat) (o : Option Sp.Rt) (key : Txt) (w : World) (h : DtS w s o) (hn : (Sp.Rt.items o).length ≤ 1000) :
    Calls Tryz.prog 34 #[.pointer (some ⟨s, 0, none⟩), .int .i64 ((Sp.Rt.root o : Nat) : Int), .string ⟨key.toArray⟩] w fun e w' => DFindIs e (Sp.getI (Sp.Rt.items o) key) ∧ Below w.heap.size w w' := by
  have hal : Below w.heap.size w (w.alloc (.cells itZ ItemT)) := (Below.refl _ _).alloc (Nat.le_refl _) _
  have HL := Lib.hid (dFirst_any s o key false _ (h.go hal) hn)
  have HZ := Lib.hid (Blk.new w ItemT itZ)
  have HAL := Lib.hid hal
  have HW := Lib.hid (show (Sp.Rt.items o).find? (fun y => wantD key false y.key) = (Sp.Rt.items o).find? fun y => !Sp.lt y.key key from congrArg (fun f => List.find? f (Sp.Rt.items o)) (funext fun y => wantD_at key y.key))
  have HG := Lib.hid (show Sp.getI (Sp.Rt.items o) key = ((Sp.Rt.items o).find? fun y => !Sp.lt y.key key).bind fun y => if y.key = key then some y else none from rfl)
  clear hal h
  rw [HW.out] at HL
  generalize ((Sp.Rt.items o).find? fun y => !Sp.lt y.key key) = fr at *
  clear HW
  simp only [itZ] at *
  go_enter Tryz.func34, Tryz.ntmps34
  go_upto_region 2 with (first
    | (go_at_call 69; refine HL.out.mono ?_; rintro e w2 ⟨hfi, hb2⟩; obtain ⟨a0, a1, a2, a3, a4, a5, a6, a7, a8, a9, n, rfl, hall⟩ := hfi.form; have HF := Lib.hid hfi; have HA := Lib.hid hall; have HB2 := Lib.hid hb2; clear hfi hb2 hall)
    | (refine wpList_new ItemT _ _ rfl rfl rfl rfl rfl rfl _ rfl (of_decide_eq_true (by kernel_rfl)) (by kernel_rfl) (by kernel_rfl) HA.out ?_))
  have hal : Below w2.heap.size w2 (w2.alloc (.cells #[a0, a1, a2, a3, a4, a5, a6, a7, a8, a9] ItemT)) := (Below.refl _ _).alloc (Nat.le_refl _) _
  refine wp_gen (fun W => Blk W w.heap.size ItemT #[.string ⟨#[]⟩, .int .i64 0, .string ⟨#[]⟩, .int .i64 0, .int .i64 0, .slice none 0 0, .int .i64 0, .int .i64 0, .int .i64 0, .int .i64 0] ∧ Blk W w2.heap.size ItemT #[a0, a1, a2, a3, a4, a5, a6, a7, a8, a9] ∧ Below w.heap.size w W)
    ⟨(HZ.out.below HB2.out HZ.out.lt).below hal (Nat.lt_of_lt_of_le HZ.out.lt HB2.out.size), Blk.new _ _ _, HAL.out.trans ((HB2.out.trans (hal.mono HB2.out.size)).mono HAL.out.size)⟩ ?_
  generalize w2.heap.size = bq at *
  clear HZ HAL HB2 HA hal HL
  rintro w4 ⟨hz, hq, hb⟩
  have BZ := Lib.hid hz
  have BQ := Lib.hid hq
  have HB := Lib.hid hb
  clear hz hq hb
  rcases HF.out.cases with ⟨hy, he⟩ | ⟨z, V, c, hy, he⟩
  · simp only [itZ, Ending.returned.injEq, Value.tuple.injEq, Array.mk.injEq, List.cons.injEq, Value.agg.injEq, Value.int.injEq, and_true, true_and] at he
    obtain ⟨⟨rfl, rfl, rfl, rfl, rfl, rfl, rfl, rfl, rfl, rfl⟩, rfl⟩ := he
    have HY := Lib.hid hy
    have c0 : w4.cell? ⟨bq, 0, none⟩ = some (.string ⟨#[]⟩) := BQ.out.cell 0
    clear HF hy
    as_aux_lemma =>
      go_wp2_with (first
        | (refine wpList_row ItemT _ rfl bq rfl rfl ItemT _ (0, 0) _ BQ.out Tryz.underlying83 rfl (by kernel_rfl) ?_)
        | (refine wpList_store_row rfl ItemT _ _ rfl w.heap.size _ rfl rfl ItemT _ BZ.out (by kernel_rfl) rfl (by kernel_rfl) ?_))
      obtain ⟨⟨z0, z1, z2, z3, z4, z5, z6, z7, z8, z9⟩, _⟩ := (BZ.out.row (ds := #[.string ⟨#[]⟩, .int .i64 0, .string ⟨#[]⟩, .int .i64 0, .int .i64 0, .slice none 0 0, .int .i64 0, .int .i64 0, .int .i64 0, .int .i64 0])).at10
      have hb4 : Below w.heap.size w (w4.setRow w.heap.size #[.string ⟨#[]⟩, .int .i64 0, .string ⟨#[]⟩, .int .i64 0, .int .i64 0, .slice none 0 0, .int .i64 0, .int .i64 0, .int .i64 0, .int .i64 0]) := below_setRow HB.out (Nat.le_refl _) _
      refine bodyPost_ret (v := .tuple #[.agg #[.string ⟨#[]⟩, .int .i64 0, .string ⟨#[]⟩, .int .i64 0, .int .i64 0, .slice none 0 0, .int .i64 0, .int .i64 0, .int .i64 0, .int .i64 0], .int .i64 21]) (by simp [results, Tryz.results34, go_sem, z0, z1, z2, z3, z4, z5, z6, z7, z8, z9]) rfl ⟨?_, hb4⟩
      rw [HG.out, HY.out]
      rfl
  · simp only [itemV, Ending.returned.injEq, Value.tuple.injEq, Array.mk.injEq, List.cons.injEq, Value.agg.injEq, Value.int.injEq, and_true, true_and] at he
    obtain ⟨⟨rfl, rfl, rfl, rfl, rfl, rfl, rfl, rfl, rfl, rfl⟩, rfl⟩ := he
    have HY := Lib.hid hy
    have c0 : w4.cell? ⟨bq, 0, none⟩ = some (.string ⟨z.key.toArray⟩) := BQ.out.cell 0
    clear HF hy
    by_cases hk : z.key = key
    · have hk1 : (z.key == key) = true := beq_iff_eq.2 hk
      have hk2 : (z.key != key) = false := by simp [hk]
      have HK := Lib.hid hk
      clear hk
      as_aux_lemma =>
        go_wp2_with (first
          | (refine wpList_row ItemT _ rfl bq rfl rfl ItemT _ (0, 0) _ BQ.out Tryz.underlying83 rfl (by kernel_rfl) ?_)
          | (refine wpList_store_row rfl ItemT _ _ rfl w.heap.size _ rfl rfl ItemT _ BZ.out (by kernel_rfl) rfl (itemV_all0 z V c) ?_))
        obtain ⟨⟨z0, z1, z2, z3, z4, z5, z6, z7, z8, z9⟩, _⟩ := (BZ.out.row (ds := #[.string ⟨z.key.toArray⟩, .int .i64 z.kind, .string ⟨z.val.toArray⟩, .int .i64 z.run, .int .i64 z.len, .slice V z.vals.length c, .int .i64 z.dup, .int .i64 z.root.page, .int .i64 z.root.count, .int .i64 z.root.flags])).at10
        have hb4 : Below w.heap.size w (w4.setRow w.heap.size #[.string ⟨z.key.toArray⟩, .int .i64 z.kind, .string ⟨z.val.toArray⟩, .int .i64 z.run, .int .i64 z.len, .slice V z.vals.length c, .int .i64 z.dup, .int .i64 z.root.page, .int .i64 z.root.count, .int .i64 z.root.flags]) := below_setRow HB.out (Nat.le_refl _) _
        refine bodyPost_ret (v := .tuple #[.agg #[.string ⟨z.key.toArray⟩, .int .i64 z.kind, .string ⟨z.val.toArray⟩, .int .i64 z.run, .int .i64 z.len, .slice V z.vals.length c, .int .i64 z.dup, .int .i64 z.root.page, .int .i64 z.root.count, .int .i64 z.root.flags], .int .i64 0]) (by simp [results, Tryz.results34, go_sem, z0, z1, z2, z3, z4, z5, z6, z7, z8, z9]) rfl ⟨?_, hb4⟩
        rw [HG.out, HY.out, show ((some z).bind fun y => if y.key = key then some y else none) = some z from if_pos HK.out]
        exact ⟨V, c, rfl⟩
    · have hk1 : (z.key == key) = false := beq_eq_false_iff_ne.2 hk
      have hk2 : (z.key != key) = true := by simp [hk]
      have HK := Lib.hid hk
      as_aux_lemma =>
        go_wp2_with (refine wpList_store_row rfl ItemT _ _ rfl w.heap.size _ rfl rfl ItemT _ BZ.out (by kernel_rfl) rfl (by kernel_rfl) ?_)
        obtain ⟨⟨z0, z1, z2, z3, z4, z5, z6, z7, z8, z9⟩, _⟩ := (BZ.out.row (ds := #[.string ⟨#[]⟩, .int .i64 0, .string ⟨#[]⟩, .int .i64 0, .int .i64 0, .slice none 0 0, .int .i64 0, .int .i64 0, .int .i64 0, .int .i64 0])).at10
        have hb4 : Below w.heap.size w (w4.setRow w.heap.size #[.string ⟨#[]⟩, .int .i64 0, .string ⟨#[]⟩, .int .i64 0, .int .i64 0, .slice none 0 0, .int .i64 0, .int .i64 0, .int .i64 0, .int .i64 0]) := below_setRow HB.out (Nat.le_refl _) _
        refine bodyPost_ret (v := .tuple #[.agg #[.string ⟨#[]⟩, .int .i64 0, .string ⟨#[]⟩, .int .i64 0, .int .i64 0, .slice none 0 0, .int .i64 0, .int .i64 0, .int .i64 0, .int .i64 0], .int .i64 21]) (by simp [results, Tryz.results34, go_sem, z0, z1, z2, z3, z4, z5, z6, z7, z8, z9]) rfl ⟨?_, hb4⟩
        rw [HG.out, HY.out, show ((some z).bind fun y => if y.key = key then some y else none) = none from if_neg HK.out]
        rfl
end Go.Proofs.YtmcpkhknjdiocaaGreatDoor
namespace Go.Proofs.YtmcpkhknjdiocaaGreatDoor
open Go.RowKit
attribute [local go_sem low] mk_extract
attribute [local go_sem] After.cell After.frozen mk_extract_end ByteArray.mk_append_mk
set_option maxRecDepth 100000 in
set_option maxHeartbeats 1600000 in
theorem get_any (t : Nat) (o : Option Sp.Rt) (key : Txt) (w : World) (hs : TrS w t o) :
    Calls Tryz.prog 33 #[.pointer (some ⟨t, 0, none⟩), .int .i64 ((Sp.Rt.root o : Nat) : Int), .string ⟨key.toArray⟩] w fun e w' => FindIs w.heap.size w' e (Sp.getI (Sp.Rt.items o) key) ∧ Below w.heap.size w w' := by
  have hal : Below w.heap.size w (w.alloc (.cells itZ ItemT)) := (Below.refl _ _).alloc (Nat.le_refl _) _
  have HT := Lib.hid (hs.go hal)
  have HZ := Lib.hid (Blk.new w ItemT itZ)
  have HAL := Lib.hid hal
  clear hs hal
  simp only [itZ] at *
  go_enter Tryz.func33, Tryz.ntmps33
  go_upto_region 1 with fail
  refine wp_gen (fun W => TrS W t o ∧ Blk W w.heap.size ItemT #[.string ⟨#[]⟩, .int .i64 0, .string ⟨#[]⟩, .int .i64 0, .int .i64 0, .slice none 0 0, .int .i64 0, .int .i64 0, .int .i64 0, .int .i64 0] ∧ Below w.heap.size w W) ⟨HT.out, HZ.out, HAL.out⟩ ?_
  clear HT HZ HAL
  rintro w1 ⟨hT, hZ, hB⟩
  have HT := Lib.hid hT
  have HZ := Lib.hid hZ
  have HB := Lib.hid hB
  clear hT hZ hB
  generalize hbi : w.heap.size = bi at HZ ⊢
  have HI := Lib.hid (show w.heap.size ≤ bi by omega)
  clear hbi
  go_upto_region 2 with (first
    | (go_at_call 35; refine (above_any t o key _ HT.out).mono ?_; rintro e w2 ⟨hfi, hb2⟩; obtain ⟨a0, a1, a2, a3, a4, a5, a6, a7, a8, a9, ev, rfl, hall⟩ := hfi.form; have HF := Lib.hid hfi; have HA := Lib.hid hall; have HB2 := Lib.hid hb2; clear hfi hb2 hall)
    | (refine wpList_new ItemT _ _ rfl rfl rfl rfl rfl rfl _ rfl (of_decide_eq_true (by kernel_rfl)) (by kernel_rfl) (by kernel_rfl) HA.out ?_))
  have hal : Below w2.heap.size w2 (w2.alloc (.cells #[a0, a1, a2, a3, a4, a5, a6, a7, a8, a9] ItemT)) := (Below.refl _ _).alloc (Nat.le_refl _) _
  have hzl := HZ.out.lt
  refine wp_gen (fun W => Blk W bi ItemT #[.string ⟨#[]⟩, .int .i64 0, .string ⟨#[]⟩, .int .i64 0, .int .i64 0, .slice none 0 0, .int .i64 0, .int .i64 0, .int .i64 0, .int .i64 0] ∧ Blk W w2.heap.size ItemT #[a0, a1, a2, a3, a4, a5, a6, a7, a8, a9] ∧ FindIs w1.heap.size W (.returned (.tuple #[.agg #[a0, a1, a2, a3, a4, a5, a6, a7, a8, a9], ev])) ((Sp.Rt.items o).find? fun y => !Sp.lt y.key key) ∧ Below w.heap.size w W)
    ⟨(HZ.out.below HB2.out hzl).below hal (Nat.lt_of_lt_of_le hzl HB2.out.size), Blk.new _ _ _, HF.out.go hal, HB.out.trans ((HB2.out.trans (hal.mono HB2.out.size)).mono HB.out.size)⟩ ?_
  generalize w2.heap.size = bq at *
  clear HT HZ HF HB2 HB HA hal
  rintro w4 ⟨hz, hq, hf, hb⟩
  have BZ := Lib.hid hz
  have BQ := Lib.hid hq
  have HB := Lib.hid hb
  have HZL := Lib.hid hzl
  have HG := Lib.hid (show Sp.getI (Sp.Rt.items o) key = ((Sp.Rt.items o).find? fun y => !Sp.lt y.key key).bind fun y => if y.key = key then some y else none from rfl)
  clear hz hq hb hzl
  generalize ((Sp.Rt.items o).find? fun y => !Sp.lt y.key key) = fr at *
  have HFI := Lib.hid hf
  rcases hf.cases with ⟨hy, he⟩ | ⟨z, V, c, hy, he, _⟩
  · simp only [itZ, Ending.returned.injEq, Value.tuple.injEq, Array.mk.injEq, List.cons.injEq, Value.agg.injEq, and_true] at he
    obtain ⟨⟨rfl, rfl, rfl, rfl, rfl, rfl, rfl, rfl, rfl, rfl⟩, rfl⟩ := he
    have HY := Lib.hid hy
    have c0 : w4.cell? ⟨bq, 0, none⟩ = some (.string ⟨#[]⟩) := BQ.out.cell 0
    clear hf hy
    as_aux_lemma =>
      go_wp2_with (first
        | (refine wpList_row ItemT _ rfl bq rfl rfl ItemT _ (0, 0) _ BQ.out Tryz.underlying83 rfl (by kernel_rfl) ?_)
        | (refine wpList_store_row rfl ItemT _ _ rfl bi _ rfl rfl ItemT _ BZ.out (by kernel_rfl) rfl (by kernel_rfl) ?_))
      obtain ⟨⟨z0, z1, z2, z3, z4, z5, z6, z7, z8, z9⟩, _⟩ := (BZ.out.row (ds := #[.string ⟨#[]⟩, .int .i64 0, .string ⟨#[]⟩, .int .i64 0, .int .i64 0, .slice none 0 0, .int .i64 0, .int .i64 0, .int .i64 0, .int .i64 0])).at10
      have hb4 : Below w.heap.size w (w4.setRow bi #[.string ⟨#[]⟩, .int .i64 0, .string ⟨#[]⟩, .int .i64 0, .int .i64 0, .slice none 0 0, .int .i64 0, .int .i64 0, .int .i64 0, .int .i64 0]) := below_setRow HB.out HI.out _
      refine bodyPost_ret (v := .tuple #[.agg #[.string ⟨#[]⟩, .int .i64 0, .string ⟨#[]⟩, .int .i64 0, .int .i64 0, .slice none 0 0, .int .i64 0, .int .i64 0, .int .i64 0, .int .i64 0], .iface ErrT (.int .i64 21)]) (by simp [results, Tryz.results33, go_sem, z0, z1, z2, z3, z4, z5, z6, z7, z8, z9]) rfl ⟨?_, hb4⟩
      rw [HG.out, HY.out]
      rfl
  · simp only [itemV, Ending.returned.injEq, Value.tuple.injEq, Array.mk.injEq, List.cons.injEq, Value.agg.injEq, and_true] at he
    obtain ⟨⟨rfl, rfl, rfl, rfl, rfl, rfl, rfl, rfl, rfl, rfl⟩, rfl⟩ := he
    have HY := Lib.hid hy
    have c0 : w4.cell? ⟨bq, 0, none⟩ = some (.string ⟨z.key.toArray⟩) := BQ.out.cell 0
    clear hf hy
    by_cases hk : z.key = key
    · have hk1 : (z.key == key) = true := beq_iff_eq.2 hk
      have hk2 : (z.key != key) = false := by simp [hk]
      have HK := Lib.hid hk
      clear hk
      as_aux_lemma =>
        go_wp2_with (first
          | (refine wpList_row ItemT _ rfl bq rfl rfl ItemT _ (0, 0) _ BQ.out Tryz.underlying83 rfl (by kernel_rfl) ?_)
          | (refine wpList_store_row rfl ItemT _ _ rfl bi _ rfl rfl ItemT _ BZ.out (by kernel_rfl) rfl (itemV_all0 z V c) ?_))
        obtain ⟨⟨z0, z1, z2, z3, z4, z5, z6, z7, z8, z9⟩, _⟩ := (BZ.out.row (ds := #[.string ⟨z.key.toArray⟩, .int .i64 z.kind, .string ⟨z.val.toArray⟩, .int .i64 z.run, .int .i64 z.len, .slice V z.vals.length c, .int .i64 z.dup, .int .i64 z.root.page, .int .i64 z.root.count, .int .i64 z.root.flags])).at10
        have hb4 : Below w.heap.size w (w4.setRow bi #[.string ⟨z.key.toArray⟩, .int .i64 z.kind, .string ⟨z.val.toArray⟩, .int .i64 z.run, .int .i64 z.len, .slice V z.vals.length c, .int .i64 z.dup, .int .i64 z.root.page, .int .i64 z.root.count, .int .i64 z.root.flags]) := below_setRow HB.out HI.out _
        refine bodyPost_ret (v := .tuple #[.agg #[.string ⟨z.key.toArray⟩, .int .i64 z.kind, .string ⟨z.val.toArray⟩, .int .i64 z.run, .int .i64 z.len, .slice V z.vals.length c, .int .i64 z.dup, .int .i64 z.root.page, .int .i64 z.root.count, .int .i64 z.root.flags], .nilIface]) (by simp [results, Tryz.results33, go_sem, z0, z1, z2, z3, z4, z5, z6, z7, z8, z9]) rfl ⟨?_, hb4⟩
        rw [HG.out, HY.out, show ((some z).bind fun y => if y.key = key then some y else none) = some z from if_pos HK.out]
        have := HFI.out.set HZL.out HI.out (cs := #[.string ⟨z.key.toArray⟩, .int .i64 z.kind, .string ⟨z.val.toArray⟩, .int .i64 z.run, .int .i64 z.len, .slice V z.vals.length c, .int .i64 z.dup, .int .i64 z.root.page, .int .i64 z.root.count, .int .i64 z.root.flags])
        rw [HY.out] at this
        exact this
    · have hk1 : (z.key == key) = false := beq_eq_false_iff_ne.2 hk
      have hk2 : (z.key != key) = true := by simp [hk]
      have HK := Lib.hid hk
      as_aux_lemma =>
        go_wp2_with (refine wpList_store_row rfl ItemT _ _ rfl bi _ rfl rfl ItemT _ BZ.out (by kernel_rfl) rfl (by kernel_rfl) ?_)
        obtain ⟨⟨z0, z1, z2, z3, z4, z5, z6, z7, z8, z9⟩, _⟩ := (BZ.out.row (ds := #[.string ⟨#[]⟩, .int .i64 0, .string ⟨#[]⟩, .int .i64 0, .int .i64 0, .slice none 0 0, .int .i64 0, .int .i64 0, .int .i64 0, .int .i64 0])).at10
        have hb4 : Below w.heap.size w (w4.setRow bi #[.string ⟨#[]⟩, .int .i64 0, .string ⟨#[]⟩, .int .i64 0, .int .i64 0, .slice none 0 0, .int .i64 0, .int .i64 0, .int .i64 0, .int .i64 0]) := below_setRow HB.out HI.out _
        refine bodyPost_ret (v := .tuple #[.agg #[.string ⟨#[]⟩, .int .i64 0, .string ⟨#[]⟩, .int .i64 0, .int .i64 0, .slice none 0 0, .int .i64 0, .int .i64 0, .int .i64 0, .int .i64 0], .iface ErrT (.int .i64 21)]) (by simp [results, Tryz.results33, go_sem, z0, z1, z2, z3, z4, z5, z6, z7, z8, z9]) rfl ⟨?_, hb4⟩
        rw [HG.out, HY.out, show ((some z).bind fun y => if y.key = key then some y else none) = none from if_neg HK.out]
        rfl
end Go.Proofs.YtmcpkhknjdiocaaGreatDoor
namespace Go.Proofs.YtmcpkhknjdiocaaGreatDoor
open Go.RowKit
attribute [local go_sem low] mk_extract
attribute [local go_sem] After.cell After.frozen mk_extract_end ByteArray.mk_append_mk
theorem Sp.bytes_le2 (p : Sp.Page) : (Sp.bytes p).length ≤ 2000000 := by
  cases h : Sp.isPage p with
  | false => simp [Sp.bytes, h]
  | true =>
    have := Sp.partsB_le h
    rw [Sp.bytes_of h]
    simp only [Sp.body, List.length_append, Sp.le8_length]
    omega
/-- The pages of a tree's file, as they are handed on. -/
theorem DfAt.opn {w : World} {f : Nat} {V : List Txt} (h : DfAt w f V) (h0 : 0 < V.length) (hn : V.length ≤ 400) : ∃ g cap, w.cell? ⟨f, 0, none⟩ = some (.slice (some ⟨g, 0, none⟩) V.length cap) ∧ Txts w NoM (some ⟨g, 0, none⟩) V ∧ V.length ≤ cap := by
  obtain ⟨v, dA, dn, dc, u, h1, h2, _⟩ := h.bf
  obtain ⟨g, cap, rfl, _, _⟩ := own_some h2 h0
  exact ⟨g, cap, h1.cell 0, Txts.of_own h2 (by omega), (own_cap h2).1⟩
theorem file_small (P : List Sp.Page) : ∀ s ∈ [[], []] ++ P.map Sp.bytes, s.length ≤ 4611686018427387904 := by
  intro s hs
  rcases List.mem_append.1 hs with hs | hs
  · have : s = [] := by simpa using hs
    rw [this]; simp
  · obtain ⟨p, _, rfl⟩ := List.mem_map.1 hs
    have := Sp.bytes_le2 p
    omega
/-- A store over a tree of numbers. -/
structure TnS (w : World) (t : Nat) (keys : List Nat) : Prop where
  tr : TrS w t (Sp.treeN keys).1
  it : Sp.Rt.items (Sp.treeN keys).1 = (Sp.numsOf keys).map Sp.itN
  lt : ∀ k ∈ Sp.numsOf keys, k < 256
theorem TnS.go {w w' : World} {t : Nat} {keys : List Nat} (h : TnS w t keys) (hb : Below w.heap.size w w') : TnS w' t keys := ⟨h.tr.go hb, h.it, h.lt⟩
theorem TnS.of {w : World} {t f m d : Nat} {last : Int} {v : Value} {keys : List Nat} {P : List Sp.Page} (hs : St0 w t f m d last v ([[], []] ++ P.map Sp.bytes)) (ht : Sp.TreeAt keys P) (hk : ∀ k ∈ keys, k < 256) (hn : keys.length ≤ 120) : TnS w t keys := by
  have := ht.len
  exact ⟨⟨f, m, d, last, v, _, hs, by simp; omega, ht.filed hn⟩, ht.items, Sp.numsOf_lt hk⟩
/-- What is told of a number that is sought. -/
def FindN (e : Ending) (y : Option Nat) : Prop := match y with
  | none => e = .returned (.tuple #[.agg itZ, .iface ErrT (.int .i64 21)])
  | some n => ∃ V c, e = .returned (.tuple #[.agg #[.string ⟨(Sp.keyN n).toArray⟩, .int .i64 1, .string ⟨#[118]⟩, .int .i64 0, .int .i64 0, .slice V 0 c, .int .i64 0, .int .i64 0, .int .i64 0, .int .i64 0], .nilIface])
theorem FindIs.num {B : Nat} {w : World} {e : Ending} {y : Option Nat} (h : FindIs B w e (y.map Sp.itN)) : FindN e y := by
  cases y with
  | none => exact h
  | some n =>
    obtain ⟨V, c, h1, _⟩ := h
    exact ⟨V, c, h1⟩
theorem aboveN (t : Nat) (keys : List Nat) (n : Nat) (hn : n < 256) (w : World) (h : TnS w t keys) :
    Calls Tryz.prog 35 #[.pointer (some ⟨t, 0, none⟩), .int .i64 ((Sp.Rt.root (Sp.treeN keys).1 : Nat) : Int), .string ⟨(Sp.keyN n).toArray⟩] w fun e w' => FindN e (Sp.fromN (Sp.numsOf keys) n) ∧ Below w.heap.size w w' := by
  refine (above_any t _ (Sp.keyN n) w h.tr).mono ?_
  rintro e w' ⟨h1, hb⟩
  rw [h.it, Sp.find_at h.lt hn] at h1
  exact ⟨h1.num, hb⟩
theorem behindN (t : Nat) (keys : List Nat) (n : Nat) (hn : n < 256) (w : World) (h : TnS w t keys) :
    Calls Tryz.prog 37 #[.pointer (some ⟨t, 0, none⟩), .int .i64 ((Sp.Rt.root (Sp.treeN keys).1 : Nat) : Int), .string ⟨(Sp.keyN n).toArray⟩] w fun e w' => FindN e (Sp.fromN (Sp.numsOf keys) (n + 1)) ∧ Below w.heap.size w w' := by
  refine (behind_any t _ (Sp.keyN n) w h.tr).mono ?_
  rintro e w' ⟨h1, hb⟩
  rw [h.it, Sp.find_behind h.lt hn] at h1
  exact ⟨h1.num, hb⟩
theorem getN (t : Nat) (keys : List Nat) (n : Nat) (hn : n < 256) (w : World) (h : TnS w t keys) :
    Calls Tryz.prog 33 #[.pointer (some ⟨t, 0, none⟩), .int .i64 ((Sp.Rt.root (Sp.treeN keys).1 : Nat) : Int), .string ⟨(Sp.keyN n).toArray⟩] w fun e w' => FindN e (if n ∈ Sp.numsOf keys then some n else none) ∧ Below w.heap.size w w' := by
  refine (get_any t _ (Sp.keyN n) w h.tr).mono ?_
  rintro e w' ⟨h1, hb⟩
  rw [h.it, Sp.get_N h.lt (Sp.numsOf_sorted keys) hn] at h1
  refine ⟨FindIs.num (B := w.heap.size) (w := w') ?_, hb⟩
  split <;> rename_i hh <;> simpa [hh] using h1
/-- Texts that lie at the front of blocks. -/
def TxC (W : World) (l : List (Nat × Txt)) : Prop := ∀ p ∈ l, p.1 < W.heap.size ∧ W.cell? ⟨p.1, 0, none⟩ = some (.string ⟨p.2.toArray⟩)
theorem TxC.go {W W' : World} {l : List (Nat × Txt)} (h : TxC W l) (hb : Below W.heap.size W W') : TxC W' l := fun p hp => ⟨Nat.lt_of_lt_of_le (h p hp).1 hb.size, (hb.cell (p := ⟨p.1, 0, none⟩) (h p hp).1).trans (h p hp).2⟩
structure KnS (w W : World) (t : Nat) (keys : List Nat) (l : List (Nat × Txt)) : Prop where
  tn : TnS W t keys
  tx : TxC W l
  hb : Below w.heap.size w W
theorem KnS.go {w W W' : World} {t : Nat} {keys : List Nat} {l : List (Nat × Txt)} (h : KnS w W t keys l) (hb : Below W.heap.size W W') : KnS w W' t keys l := ⟨h.tn.go hb, h.tx.go hb, h.hb.trans (hb.mono h.hb.size)⟩
theorem KnS.new {w W : World} {t : Nat} {keys : List Nat} {l : List (Nat × Txt)} (h : KnS w W t keys l) (T : TypeId) (s : Txt) (cs : List Value) : KnS w (W.alloc (.cells ⟨.string ⟨s.toArray⟩ :: cs⟩ T)) t keys ((W.heap.size, s) :: l) := by
  have hal : Below W.heap.size W (W.alloc (.cells ⟨.string ⟨s.toArray⟩ :: cs⟩ T)) := (Below.refl _ _).alloc (Nat.le_refl _) _
  refine ⟨h.tn.go hal, fun p hp => ?_, h.hb.trans (hal.mono h.hb.size)⟩
  rcases List.mem_cons.1 hp with rfl | hp
  · exact ⟨(Blk.new W T _).lt, (Blk.new W T _).cell 0⟩
  · exact h.tx.go hal p hp
end Go.Proofs.YtmcpkhknjdiocaaGreatDoor
