/- Pages that may be lost: a new file, a page that is written. Pages that may be lost: a page that is written. Readers' steps: a reader in memory; what it tells; the meta that it sees. Readers' steps: the meta that a reader sees. Readers' steps: a reader looks which meta counts. -/
import Derived.Test.YtmcpkhknjdiocaaGreatDoorQB10
import Derived.Test.YtmcpkhknjdiocaaGreatDoorQB12
import Derived.Maps.Own
import Derived.BigQuiet
set_option linter.unusedSimpArgs false
set_option linter.unusedVariables false
namespace Go.Proofs.YtmcpkhknjdiocaaGreatDoor
open Go.RowKit
attribute [local go_sem low] mk_extract
attribute [local go_sem] After.cell After.frozen mk_extract_end ByteArray.mk_append_mk
theorem Txts.of_own {w : World} {base g cap : Nat} {l : List Txt} (h : w.ownsRow base StrT 1 (.slice (some ⟨g, 0, none⟩) l.length cap) l.length (l.map tv)) (hn : l.length ≤ 4611686018427387904) : Txts w NoM (some ⟨g, 0, none⟩) l :=
  (TRow.of_own h (by rw [List.length_map]; exact hn)).row (fun _ _ h => h)
theorem own_less {w : World} {base base' : Nat} {e : TypeId} {size n : Nat} {v : Value} {xs : List Value} (h : w.ownsRow base e size v n xs) (hb : base' ≤ base) : w.ownsRow base' e size v n xs := by
  refine ⟨h.1, ?_⟩
  rcases h.2 with h | ⟨g, cap, cur, hv, hg, r⟩
  · exact .inl h
  · exact .inr ⟨g, cap, cur, hv, Nat.le_trans hb hg, r⟩
set_option maxRecDepth 100000 in
set_option maxHeartbeats 1600000 in
theorem fileNew_any (l : List Txt) (b off c : Nat) {M : Nat → Prop} (w : World) (hl : Txts w M (some ⟨b, off, none⟩) l) (hn : l.length ≤ 400) (hc : l.length ≤ c) (hs : ∀ s ∈ l, s.length ≤ 4611686018427387904) :
    Calls Tryz.prog 7 #[.slice (some ⟨b, off, none⟩) l.length c] w fun e w' => ∃ f v m, e = .returned (.pointer (some ⟨f, 0, none⟩)) ∧ FileAt w' f v m l ∧ w.heap.size ≤ f ∧ w.heap.size ≤ m ∧ (∀ k, v.ownBlock = some k → w.heap.size ≤ k) ∧ Below w.heap.size w w' := by
  have HL := Lib.hid hl
  have HS := Lib.hid hs
  have h400 : (l.length : Int) ≤ 400 := by omega
  have hcc : (l.length : Int) ≤ (c : Int) := by omega
  have hmin : min (l.length : Int) 400 = (l.length : Int) := by omega
  have hmm := @run_makeMap Tryz.prog
  clear hl hs
  go_enter Tryz.func7, Tryz.ntmps7
  go_upto_region 2 with (go_at_call 51; refine (clone_any l b off c _ HL.out (by omega)).mono ?_; rintro e w1 ⟨g, cap, rfl, ho, hb1⟩; have HO := Lib.hid ho; have HB := Lib.hid hb1; clear ho hb1)
  go_wp2_with (go_at_call 51; refine (clone_any l g 0 cap _ (Txts.of_own HO.out (by omega)) (by omega)).mono ?_; rintro e w2 ⟨g2, cap2, rfl, ho2, hb2⟩; have HO2 := Lib.hid ho2; have HB2 := Lib.hid hb2; clear ho2 hb2)
  go_ret
  have hz1 := HB.out.size
  have hz2 := HB2.out.size
  refine ⟨w2.heap.size + 1, .slice (some ⟨g, 0, none⟩) l.length cap, w2.heap.size, rfl, ⟨⟨.slice (some ⟨g2, 0, none⟩) l.length cap2, ?_⟩, ?_, ⟨#[], 0, ?_, by simp⟩, HS.out⟩, by omega, by omega, fun k hk => ?_, ?_⟩
  · exact blk_second w2 _ _ _
  · have hal : Below w1.heap.size w1 ((w2.alloc (.map #[] 0)).alloc (.cells #[.slice (some ⟨g, 0, none⟩) l.length cap, .slice (some ⟨g2, 0, none⟩) l.length cap2, .map (some w2.heap.size)] FileT)) := (HB2.out.alloc hz2 _).alloc (by rw [World.size_alloc]; omega) _
    exact own_less (own_chg2 (S := NoM) HO.out (Chg.of_below hal) (fun _ _ h => h)) (Nat.zero_le _)
  · have := heap_alloc_new w2 (.map #[] 0)
    exact (((Below.refl _ _).alloc (Nat.le_refl _) _ : Below (w2.alloc (.map #[] 0)).heap.size (w2.alloc (.map #[] 0)) _).block _ (by rw [World.size_alloc]; omega)).trans this
  · have := own_lt HO.out k hk
    rcases HO.out.2 with ⟨h, _⟩ | ⟨g', cap', cur, h, hg, _⟩
    · cases h
    · simp only [Value.slice.injEq, Option.some.injEq, Addr.mk.injEq] at h
      simp only [Value.ownBlock, Option.some.injEq] at hk
      omega
  · exact ((HB.out.trans (HB2.out.mono hz1)).alloc (by omega) _).alloc (by rw [World.size_alloc]; omega) _
end Go.Proofs.YtmcpkhknjdiocaaGreatDoor
namespace Go.Proofs.YtmcpkhknjdiocaaGreatDoor
open Go.RowKit
attribute [local go_sem low] mk_extract
attribute [local go_sem] After.cell After.frozen mk_extract_end ByteArray.mk_append_mk
theorem own_at {w : World} {base n : Nat} {e : TypeId} {g cap : Nat} {xs : List Value} (h : w.ownsRow base e 1 (.slice (some ⟨g, 0, none⟩) n cap) n xs) {j : Nat} (hj : j < n) : w.cell? ⟨g, j, none⟩ = some (xs.getD j undef) ∧ w.frozen? ⟨g, j, none⟩ = false := by
  rcases h.2 with ⟨h', _⟩ | ⟨g', cap', cur, hv, _, hh, hnc, _, hcs, ht⟩
  · cases h'
  · simp only [Value.slice.injEq, Option.some.injEq, Addr.mk.injEq] at hv
    obtain ⟨⟨rfl, _⟩, _, rfl⟩ := hv
    have hb : Blk w g e cur := hh
    refine ⟨(hb.cell j).trans ?_, hb.frozen j⟩
    have hjc : j < cur.size := by omega
    have : xs[j]? = cur[j]? := by
      rw [← ht, List.getElem?_take, if_pos (by omega), Array.getElem?_toList]
    rw [List.getD_eq_getElem?_getD, this, Array.getElem?_eq_getElem hjc]
    rfl
theorem own_set {w : World} {base n : Nat} {e : TypeId} {g cap : Nat} {xs : List Value} (h : w.ownsRow base e 1 (.slice (some ⟨g, 0, none⟩) n cap) n xs) {j : Nat} (u : Value) : (w.setCell ⟨g, j, none⟩ u).ownsRow base e 1 (.slice (some ⟨g, 0, none⟩) n cap) n (xs.set j u) := by
  rcases h.2 with ⟨h', _⟩ | ⟨g', cap', cur, hv, hb, hh, hnc, hm, hcs, ht⟩
  · cases h'
  · simp only [Value.slice.injEq, Option.some.injEq, Addr.mk.injEq] at hv
    obtain ⟨⟨rfl, _⟩, _, rfl⟩ := hv
    have hb2 : Blk w g e cur := hh
    refine ⟨by rw [List.length_set]; exact h.1, .inr ⟨g, cap, cur.setIfInBounds j u, rfl, hb, hb2.set_ j u, hnc, hm, by rw [Array.size_setIfInBounds]; exact hcs, ?_⟩⟩
    rw [← ht, Array.toList_setIfInBounds, List.take_set]
set_option maxRecDepth 100000 in
set_option maxHeartbeats 1600000 in
theorem fileWrite_any (f m j : Nat) (v : Value) (V : List Txt) (s : Txt) (w : World) (hf : FileAt w f v m V) (hj : j < V.length) (hn : V.length ≤ 400) (hs : s.length ≤ 4611686018427387904) :
    Calls Tryz.prog 14 #[.pointer (some ⟨f, 0, none⟩), .int .i64 j, .string ⟨s.toArray⟩] w fun e w' => e = .returned .nilIface ∧ FileAt w' f v m (V.set j s) ∧ Chg (fun k => k = m ∨ v.ownBlock = some k) w w' := by
  obtain ⟨g, cap, rfl⟩ : ∃ g cap, v = .slice (some ⟨g, 0, none⟩) V.length cap := by
    rcases hf.own.2 with ⟨_, h⟩ | ⟨g, cap, cur, h, _⟩
    · omega
    · exact ⟨g, cap, h⟩
  obtain ⟨sv, hb⟩ := hf.bf
  have c0 : w.cell? ⟨f, 0, none⟩ = some (.slice (some ⟨g, 0, none⟩) V.length cap) := hb.cell 0
  have HSV := Lib.hid (show w.cell? ⟨f, 1, none⟩ = some sv from hb.cell 1)
  have c2 : w.cell? ⟨f, 2, none⟩ = some (.map (some m)) := hb.cell 2
  obtain ⟨hcj, hfj⟩ := own_at hf.own hj
  have hmg : m ≠ g := fun e => by
    subst e
    rcases hf.own.2 with ⟨h, _⟩ | ⟨g', cap', cur, h, _, hh, _⟩
    · cases h
    · simp only [Value.slice.injEq, Option.some.injEq, Addr.mk.injEq] at h
      obtain ⟨⟨rfl, _⟩, _⟩ := h
      exact hf.map.not_blk (t := StrT) (cs := cur) hh
  have hfg : f ≠ g := fun e => by
    subst e
    exact own_not hf.own (by decide) f rfl _ hb
  have hfm : f ≠ m := fun e => by
    subst e
    exact hf.map.not_blk hb
  obtain ⟨v0, st, es1, k1, es2, hk2, hE0, hS0⟩ := hf.map.entry (j : Int)
  have hW1 : (w.setCell ⟨g, j, none⟩ (.string ⟨s.toArray⟩)).heap[m]? = w.heap[m]? := (Chg.set1 w g j _).block m hf.map.lt (fun e => hmg e)
  obtain ⟨es, clock, hes, _⟩ := hf.map
  have hE := hE0 (w.setCell ⟨g, j, none⟩ (.string ⟨s.toArray⟩)).drew hW1
  have hS := hS0 (turnM (w.setCell ⟨g, j, none⟩ (.string ⟨s.toArray⟩)).drew m (.map es1 k1)) (setB_heap (hW1.trans hes))
  have hjl : (j : Int) < (V.length : Int) := by omega
  have h400 : (j : Int) < 400 := by omega
  have HF := Lib.hid hf
  have HK2 := Lib.hid hk2
  clear hf hb hE0 hS0 hk2
  go_enter Tryz.func14, Tryz.ntmps14
  go_upto_region 3 with fail
  go_loopw [14] (fun _ wr => wr = w) (fun _ _ => 0)
  case atStart => rfl
  case round =>
    subst hrel
    go_upto_region 6 with fail
    go_region
    go_wp2_with fail
    go_ret
    have h1 : Chg (OneM g) wr (wr.setCell ⟨g, j, none⟩ (.string ⟨s.toArray⟩)).drew := (Chg.set1 wr g j _).drew
    have h2 := chg_setB (wr.setCell ⟨g, j, none⟩ (.string ⟨s.toArray⟩)).drew m (.map es1 k1)
    have h3 := chg_setB (turnM (wr.setCell ⟨g, j, none⟩ (.string ⟨s.toArray⟩)).drew m (.map es1 k1)) m (.map es2 k1)
    have hgo : ∀ k, (Value.slice (some ⟨g, 0, none⟩) V.length cap).ownBlock = some k ↔ g = k := fun k => by simp [Value.ownBlock]
    have hkA : Chg (fun k => k = m ∨ (Value.slice (some ⟨g, 0, none⟩) V.length cap).ownBlock = some k) wr (turnM (turnM (wr.setCell ⟨g, j, none⟩ (.string ⟨s.toArray⟩)).drew m (.map es1 k1)) m (.map es2 k1)) :=
      ((h1.mono (fun k _ h => .inr ((hgo k).2 h.symm))).trans (h2.mono (fun k _ h => .inl h))).trans (h3.mono (fun k _ h => .inl h))
    refine ⟨rfl, ⟨⟨sv, ?_⟩, ?_, ⟨es2, k1, setB_heap (setB_heap (hW1.trans hes)), HK2.out⟩, fun x hx => ?_⟩, hkA⟩
    · obtain ⟨sv', hb⟩ := HF.out.bf
      have hsv : sv' = sv := by
        have := (hb.cell 1).symm.trans HSV.out
        simpa using this
      subst hsv
      exact hb.chg hkA (fun h => by
        rcases h with h | h
        · exact hfm h
        · exact hfg ((hgo f).1 h).symm)
    · have ho := own_set HF.out.own (j := j) (.string ⟨s.toArray⟩)
      have e : (V.map tv).set j (.string ⟨s.toArray⟩) = (V.set j s).map tv := by rw [List.map_set]; rfl
      rw [e] at ho
      rw [List.length_set]
      have h4 : Chg (OneM m) (wr.setCell ⟨g, j, none⟩ (.string ⟨s.toArray⟩)) (turnM (turnM (wr.setCell ⟨g, j, none⟩ (.string ⟨s.toArray⟩)).drew m (.map es1 k1)) m (.map es2 k1)) := ((Chg.refl _ _).drew.trans h2).trans h3
      exact own_chg2 ho h4 (fun k hk h => hmg (h.symm.trans ((hgo k).1 hk).symm))
    · rcases List.mem_or_eq_of_mem_set hx with h | rfl
      · exact HF.out.sz x h
      · exact hs
end Go.Proofs.YtmcpkhknjdiocaaGreatDoor
namespace Go.Proofs.YtmcpkhknjdiocaaGreatDoor
open Go.RowKit
attribute [local go_sem low] mk_extract
attribute [local go_sem] After.cell After.frozen mk_extract_end ByteArray.mk_append_mk
namespace Sp
/-- A reader: who, how many pages it can see; its phase, its slot, the meta it chose; what it ended with. -/
structure Rdr where
  pid : Int
  most : Int
  phase : Int
  slot : Int
  mt : Mt
  err : Option Int
/-- The meta that counts, if it can be seen. -/
def see (most : Int) (a b : Txt) : Mt × Option Int := match choose a b with | none => (mt0, some 12) | some m => (m, if most < m.last then some 19 else none)
def Rdr.looks (r : Rdr) (a b : Txt) : Rdr := match (see r.most a b).2 with
  | some k => { r with err := some k, phase := 5 }
  | none => if r.phase = 4 ∧ (see r.most a b).1.txn = r.mt.txn then { r with phase := 0, err := none } else { r with mt := (see r.most a b).1, phase := 3 }
def Rdr.goes (r : Rdr) (a b : Txt) (sl : List Sl) : Rdr × List Sl :=
  if r.phase = 1 then (match claim sl r.pid with | some i => { r with slot := (i : Int), phase := 2 } | none => { r with phase := 0, err := some 15 }, claimed sl r.pid)
  else if r.phase = 2 ∨ r.phase = 4 then (r.looks a b, sl)
  else if r.phase = 3 then (if owns sl r.slot r.pid then { r with phase := 4 } else { r with phase := 0, err := some 18 }, publish sl r.slot r.pid r.mt.txn)
  else if r.phase = 5 then ({ r with slot := -1, phase := 0 }, freeSl sl r.slot r.pid)
  else (r, sl)
end Sp
abbrev ReaderT : TypeId := 114
def rdrV (r : Sp.Rdr) : List Value := [.int .i64 r.pid, .int .i64 r.most, .int .i64 r.phase, .int .i64 r.slot, .int .u64 r.mt.txn, .int .i64 r.mt.main.page, .int .i64 r.mt.main.count, .int .i64 r.mt.main.flags, .int .i64 r.mt.free, .int .i64 r.mt.last, erV r.err]
def RdAt (w : World) (p : Nat) (r : Sp.Rdr) : Prop := Blk w p ReaderT (rdrV r).toArray
theorem RdAt.chg {S : Nat → Prop} {w w' : World} {p : Nat} {r : Sp.Rdr} (h : RdAt w p r) (hk : Chg S w w') (hS : ¬ S p) : RdAt w' p r := Blk.chg h hk hS
theorem RdAt.go {w w' : World} {p : Nat} {r : Sp.Rdr} (h : RdAt w p r) (hb : Below w.heap.size w w') : RdAt w' p r := Blk.below h hb (Blk.lt h)
set_option maxRecDepth 100000 in
set_option maxHeartbeats 1600000 in
theorem rdNew_any (pid most : Int) (w : World) : Calls Tryz.prog 11 #[.int .i64 pid, .int .i64 most] w fun e w' => e = .returned (.pointer (some ⟨w.heap.size, 0, none⟩)) ∧ RdAt w' w.heap.size ⟨pid, most, 1, -1, Sp.mt0, none⟩ ∧ Below w.heap.size w w' := by
  go_enter Tryz.func11, Tryz.ntmps11
  go_wp2_with fail
  go_ret
  exact ⟨rfl, Blk.new w _ _, (Below.refl _ _).alloc (Nat.le_refl _) _⟩
set_option maxRecDepth 100000 in
set_option maxHeartbeats 1600000 in
theorem rdPhase_any (p : Nat) (r : Sp.Rdr) (w : World) (hr : RdAt w p r) : Calls Tryz.prog 24 #[.pointer (some ⟨p, 0, none⟩)] w fun e w' => e = .returned (.int .i64 r.phase) ∧ w = w' := by
  have c2 : w.cell? ⟨p, 2, none⟩ = some (.int .i64 r.phase) := Blk.cell hr 2
  clear hr
  go_enter Tryz.func24, Tryz.ntmps24
  go_wp2_with fail
  go_ret
  exact ⟨rfl, rfl⟩
set_option maxRecDepth 100000 in
set_option maxHeartbeats 1600000 in
theorem rdSlot_any (p : Nat) (r : Sp.Rdr) (w : World) (hr : RdAt w p r) : Calls Tryz.prog 25 #[.pointer (some ⟨p, 0, none⟩)] w fun e w' => e = .returned (.int .i64 r.slot) ∧ w = w' := by
  have c3 : w.cell? ⟨p, 3, none⟩ = some (.int .i64 r.slot) := Blk.cell hr 3
  clear hr
  go_enter Tryz.func25, Tryz.ntmps25
  go_wp2_with fail
  go_ret
  exact ⟨rfl, rfl⟩
theorem rd_mt {w : World} {p : Nat} {r : Sp.Rdr} (h : RdAt w p r) : ∀ j v, (mtV r.mt).toArray[j]? = some v → w.cell? ⟨p, 4 + j, none⟩ = some v := fun j v hv => by
  rw [Blk.cell h (4 + j)]
  match j, hv with
  | 0, hv => exact hv
  | 1, hv => exact hv
  | 2, hv => exact hv
  | 3, hv => exact hv
  | 4, hv => exact hv
  | 5, hv => exact hv
  | j + 6, hv => exact absurd hv (by simp [mtV])
set_option maxRecDepth 100000 in
set_option maxHeartbeats 1600000 in
theorem rdMeta_any (p : Nat) (r : Sp.Rdr) (w : World) (hr : RdAt w p r) : Calls Tryz.prog 26 #[.pointer (some ⟨p, 0, none⟩)] w fun e w' => e = .returned (.agg (mtV r.mt).toArray) ∧ Below w.heap.size w w' := by
  have h0 : Blk (w.alloc (.cells #[.int .u64 0, .int .i64 0, .int .i64 0, .int .i64 0, .int .i64 0, .int .i64 0] MetaT)) w.heap.size MetaT #[.int .u64 0, .int .i64 0, .int .i64 0, .int .i64 0, .int .i64 0, .int .i64 0] := Blk.new w _ _
  have HZ := Lib.hid h0
  have HC := Lib.hid (rd_mt (hr.go ((Below.refl _ _).alloc (Nat.le_refl _) (.cells #[.int .u64 0, .int .i64 0, .int .i64 0, .int .i64 0, .int .i64 0, .int .i64 0] MetaT))))
  clear hr h0
  go_enter Tryz.func26, Tryz.ntmps26
  go_wp2_with (first
    | (refine wpList_at MetaT _ rfl p 4 rfl rfl (mtV r.mt).toArray _ HC.out Tryz.underlying49 rfl rfl ?_)
    | (refine wpList_store_row rfl MetaT _ _ rfl w.heap.size _ rfl rfl MetaT _ HZ.out (by kernel_rfl) rfl (by kernel_rfl) ?_))
  obtain ⟨z0, z1, z2, z3, z4, z5⟩ := (HZ.out.row (ds := #[.int .u64 r.mt.txn, .int .i64 r.mt.main.page, .int .i64 r.mt.main.count, .int .i64 r.mt.main.flags, .int .i64 r.mt.free, .int .i64 r.mt.last])).at6
  refine bodyPost_ret (v := .agg (mtV r.mt).toArray) (by simp [results, Tryz.results26, go_sem, mtV, z0, z1, z2, z3, z4, z5]) rfl ⟨rfl, below_setRow ((Below.refl _ _).alloc (Nat.le_refl _) _) (Nat.le_refl _) _⟩
set_option maxRecDepth 100000 in
set_option maxHeartbeats 1600000 in
theorem rdEnds_any (p : Nat) (r : Sp.Rdr) (e0 : Option Int) (w : World) (hr : RdAt w p r) : Calls Tryz.prog 85 #[.pointer (some ⟨p, 0, none⟩), erV e0] w fun e w' => e = .returned (.tuple #[]) ∧ RdAt w' p { r with phase := 0, err := e0 } ∧ Chg (OneM p) w w' := by
  have c2 : w.cell? ⟨p, 2, none⟩ = some (.int .i64 r.phase) := Blk.cell hr 2
  have c10 : w.cell? ⟨p, 10, none⟩ = some (erV r.err) := Blk.cell hr 10
  have f2 := Blk.frozen hr 2
  have f10 := Blk.frozen hr 10
  have HR := Lib.hid hr
  clear hr
  rcases e0 with _ | k
  all_goals
    simp only [erV]
    go_enter Tryz.func85, Tryz.ntmps85
    go_wp2_with fail
    go_end0
    refine ⟨rfl, ?_, (Chg.set1 _ _ _ _).trans (Chg.set1 _ _ _ _)⟩
    exact (Blk.set_ HR.out 2 (.int .i64 0)).set_ 10 _
end Go.Proofs.YtmcpkhknjdiocaaGreatDoor
namespace Go.Proofs.YtmcpkhknjdiocaaGreatDoor
open Go.RowKit
attribute [local go_sem low] mk_extract
attribute [local go_sem] After.cell After.frozen mk_extract_end ByteArray.mk_append_mk
theorem atV_len {V : List Txt} (h : ∀ s ∈ V, s.length ≤ 4611686018427387904) (i : Int) : (Sp.atV V i).length ≤ 4611686018427387904 := by
  unfold Sp.atV
  split
  · simp
  · rcases Nat.lt_or_ge i.toNat V.length with hl | hl
    · rw [List.getD_eq_getElem?_getD, List.getElem?_eq_getElem hl]
      exact h _ (List.getElem_mem hl)
    · rw [List.getD_eq_getElem?_getD, List.getElem?_eq_none hl]
      simp
def Sp.errOf (o : Option Sp.Mt) : Option Int := match o with | none => some 12 | some _ => none
/-- The result's block, the meta that counts in a block of its own, the reader. -/
structure CsS (w : World) (p : Nat) (r : Sp.Rdr) (k : Nat) (m : Sp.Mt) (W : World) : Prop where
  hb : Below w.heap.size w W
  br : Blk W w.heap.size MetaT #[.int .u64 0, .int .i64 0, .int .i64 0, .int .i64 0, .int .i64 0, .int .i64 0]
  bo : Blk W k MetaT (mtV m).toArray
  rd : RdAt W p r
theorem CsS.go {w W W' : World} {p k : Nat} {r : Sp.Rdr} {m : Sp.Mt} (h : CsS w p r k m W) (hb : Below W.heap.size W W') : CsS w p r k m W' :=
  ⟨h.hb.trans (hb.mono h.hb.size), h.br.below hb h.br.lt, h.bo.below hb h.bo.lt, h.rd.go hb⟩
set_option maxRecDepth 100000 in
set_option maxHeartbeats 6400000 in
theorem rdChoose_any (p f m : Nat) (r : Sp.Rdr) (v : Value) (V : List Txt) (w : World) (hr : RdAt w p r) (hf : FileAt w f v m V) (hn : V.length ≤ 400) :
    Calls Tryz.prog 116 #[.pointer (some ⟨p, 0, none⟩), .pointer (some ⟨f, 0, none⟩)] w fun e w' => e = .returned (.tuple #[.agg (mtV (Sp.see r.most (Sp.atV V 0) (Sp.atV V 1)).1).toArray, erV (Sp.see r.most (Sp.atV V 0) (Sp.atV V 1)).2]) ∧ Below w.heap.size w w' := by
  have hal : Below w.heap.size w (w.alloc (.cells #[.int .u64 0, .int .i64 0, .int .i64 0, .int .i64 0, .int .i64 0, .int .i64 0] MetaT)) := (Below.refl _ _).alloc (Nat.le_refl _) _
  have HB0 := Lib.hid hal
  have HR0 := Lib.hid (hr.go hal)
  have HF0 := Lib.hid (hf.go hal)
  have HZ0 := Lib.hid (show Blk (w.alloc (.cells #[.int .u64 0, .int .i64 0, .int .i64 0, .int .i64 0, .int .i64 0, .int .i64 0] MetaT)) w.heap.size MetaT #[.int .u64 0, .int .i64 0, .int .i64 0, .int .i64 0, .int .i64 0, .int .i64 0] from Blk.new w _ _)
  have la := atV_len hf.sz 0
  have lb := atV_len hf.sz 1
  have HSE := Lib.hid (show Sp.see r.most (Sp.atV V 0) (Sp.atV V 1) = match Sp.choose (Sp.atV V 0) (Sp.atV V 1) with | none => (Sp.mt0, some 12) | some m => (m, if r.most < m.last then some 19 else none) from rfl)
  clear hr hf hal
  generalize Sp.see r.most (Sp.atV V 0) (Sp.atV V 1) = sw at *
  have HA := Lib.hid (fun W h => fileRead_any f m v V 0 W h (by omega))
  have HBB := Lib.hid (fun W h => fileRead_any f m v V 1 W h (by omega))
  generalize Sp.atV V 0 = a at *
  generalize Sp.atV V 1 = b at *
  have HC := Lib.hid (fun W => choose_any a b W la lb)
  generalize Sp.choose a b = o at *
  go_enter Tryz.func116, Tryz.ntmps116
  go_upto_region 1 with fail
  go_cut [6, 7] (fun s6 s7 W => ∃ k, s6 = .pointer (some ⟨k, 0, none⟩) ∧ s7 = erV (Sp.errOf o) ∧ CsS w p r k (o.getD Sp.mt0) W)
  case first =>
    go_wp2_with (first
      | (go_at_call_of 146 (0 : Int); refine (HA.out _ HF0.out).mono ?_; rintro e w2 ⟨rfl, rfl⟩)
      | (go_at_call 146; refine (HBB.out _ HF0.out).mono ?_; rintro e w2 ⟨rfl, rfl⟩)
      | (go_at_call 145; refine (HC.out _).mono ?_; rintro e w2 ⟨rfl, hb2⟩; rw [show chooseV o = .tuple #[.agg (mtV (o.getD Sp.mt0)).toArray, erV (Sp.errOf o)] by cases o <;> rfl]; have HB2 := Lib.hid hb2; clear hb2)
      | (refine wpList_new MetaT _ _ rfl rfl rfl rfl rfl rfl _ rfl (of_decide_eq_true (by kernel_rfl)) (by kernel_rfl) (by kernel_rfl) (by kernel_rfl) ?_))
    go_meet
    case rel =>
      have hal : Below (w.alloc (.cells #[.int .u64 0, .int .i64 0, .int .i64 0, .int .i64 0, .int .i64 0, .int .i64 0] MetaT)).heap.size (w.alloc (.cells #[.int .u64 0, .int .i64 0, .int .i64 0, .int .i64 0, .int .i64 0, .int .i64 0] MetaT)) (w2.alloc (.cells (mtV (o.getD Sp.mt0)).toArray MetaT)) := HB2.out.alloc HB2.out.size _
      exact ⟨w2.heap.size, rfl, rfl, HB0.out.trans (hal.mono HB0.out.size), HZ0.out.below hal HZ0.out.lt, Blk.new w2 _ _, HR0.out.go hal⟩
  case rest =>
    obtain ⟨k, rfl, rfl, hs⟩ := hcut
    obtain ⟨W1, rfl⟩ : ∃ W, W = wc := ⟨_, rfl⟩
    have S := Lib.hid hs
    clear hs HB0 HR0 HF0 HZ0 HA HBB HC
    rcases o with _ | mm
    · simp only [Option.getD_none, Sp.errOf, erV] at *
      have HS2 := Lib.hid (show sw = (Sp.mt0, some 12) from HSE.out)
      clear HSE
      go_upto_region 2 with fail
      refine wp_region_row (by kernel_rfl) (by kernel_rfl) ?_
      repeat (first | go_big_quiet_skip | go_big_quiet_step (fail))
      refine wpQuiet_nil ?_
      intro w2 hb2
      replace S := Lib.hid (S.out.go hb2)
      clear hb2
      go_wp2_with (first
        | (refine wpList_row MetaT _ rfl k rfl rfl MetaT _ (0, 0) _ S.out.bo Tryz.underlying49 rfl rfl ?_)
        | (refine wpList_store_row rfl MetaT _ _ rfl w.heap.size _ rfl rfl MetaT _ S.out.br (by kernel_rfl) rfl (by kernel_rfl) ?_))
      obtain ⟨z0, z1, z2, z3, z4, z5⟩ := (S.out.br.row (ds := #[.int .u64 0, .int .i64 0, .int .i64 0, .int .i64 0, .int .i64 0, .int .i64 0])).at6
      refine bodyPost_ret (v := .tuple #[.agg (mtV Sp.mt0).toArray, .iface ErrT (.int .i64 12)]) (by simp [results, Tryz.results116, go_sem, mtV, Sp.mt0, Sp.root0, z0, z1, z2, z3, z4, z5]) rfl ⟨by rw [HS2.out]; rfl, below_setRow S.out.hb (Nat.le_refl _) _⟩
    · simp only [Option.getD_some, Sp.errOf, erV] at *
      have c5 : W1.cell? ⟨k, 5, none⟩ = some (.int .i64 mm.last) := S.out.bo.cell 5
      have c1 : W1.cell? ⟨p, 1, none⟩ = some (.int .i64 r.most) := Blk.cell S.out.rd 1
      have hk := S.out.bo.lt
      have hp := Blk.lt S.out.rd
      by_cases hlt : r.most < mm.last
      · have HS2 := Lib.hid (show sw = (mm, some 19) from HSE.out.trans (by simp [hlt]))
        clear HSE
        have hd : decide (r.most < mm.last) = true := decide_eq_true hlt
        go_upto_region 2 with fail
        refine wp_region_row (by kernel_rfl) (by kernel_rfl) ?_
        repeat (first | go_big_quiet_skip | go_big_quiet_step (fail))
        refine wpQuiet_nil ?_
        intro w2 hb2
        replace S := Lib.hid (S.out.go hb2)
        clear hb2 c5 c1
        go_wp2_with (first
          | (refine wpList_row MetaT _ rfl k rfl rfl MetaT _ (0, 0) _ S.out.bo Tryz.underlying49 rfl rfl ?_)
          | (refine wpList_store_row rfl MetaT _ _ rfl w.heap.size _ rfl rfl MetaT _ S.out.br (by kernel_rfl) rfl (by kernel_rfl) ?_))
        obtain ⟨z0, z1, z2, z3, z4, z5⟩ := (S.out.br.row (ds := #[.int .u64 mm.txn, .int .i64 mm.main.page, .int .i64 mm.main.count, .int .i64 mm.main.flags, .int .i64 mm.free, .int .i64 mm.last])).at6
        refine bodyPost_ret (v := .tuple #[.agg (mtV mm).toArray, .iface ErrT (.int .i64 19)]) (by simp [results, Tryz.results116, go_sem, mtV, z0, z1, z2, z3, z4, z5]) rfl ⟨by rw [HS2.out]; rfl, below_setRow S.out.hb (Nat.le_refl _) _⟩
      · have HS2 := Lib.hid (show sw = (mm, none) from HSE.out.trans (by simp [hlt]))
        clear HSE
        have hd : decide (r.most < mm.last) = false := decide_eq_false hlt
        go_upto_region 2 with fail
        refine wp_region_row (by kernel_rfl) (by kernel_rfl) ?_
        repeat (first | go_big_quiet_skip | go_big_quiet_step (fail))
        refine wpQuiet_nil ?_
        intro w2 hb2
        replace S := Lib.hid (S.out.go hb2)
        clear hb2 c5 c1
        go_wp2_with (first
          | (refine wpList_row MetaT _ rfl k rfl rfl MetaT _ (0, 0) _ S.out.bo Tryz.underlying49 rfl rfl ?_)
          | (refine wpList_store_row rfl MetaT _ _ rfl w.heap.size _ rfl rfl MetaT _ S.out.br (by kernel_rfl) rfl (by kernel_rfl) ?_))
        obtain ⟨z0, z1, z2, z3, z4, z5⟩ := (S.out.br.row (ds := #[.int .u64 mm.txn, .int .i64 mm.main.page, .int .i64 mm.main.count, .int .i64 mm.main.flags, .int .i64 mm.free, .int .i64 mm.last])).at6
        refine bodyPost_ret (v := .tuple #[.agg (mtV mm).toArray, .nilIface]) (by simp [results, Tryz.results116, go_sem, mtV, z0, z1, z2, z3, z4, z5]) rfl ⟨by rw [HS2.out]; rfl, below_setRow S.out.hb (Nat.le_refl _) _⟩
end Go.Proofs.YtmcpkhknjdiocaaGreatDoor
namespace Go.Proofs.YtmcpkhknjdiocaaGreatDoor
open Go.RowKit
attribute [local go_sem low] mk_extract
attribute [local go_sem] After.cell After.frozen mk_extract_end ByteArray.mk_append_mk
open Go.Conc
/-- The reader, and the meta that it saw. -/
structure LoS (w : World) (p k : Nat) (r : Sp.Rdr) (m : Sp.Mt) (W : World) : Prop where
  ck : Chg (OneM p) w W
  rd : RdAt W p r
  bm : Blk W k MetaT (mtV m).toArray
  hk : w.heap.size ≤ k
  hp : p < w.heap.size
theorem LoS.go {w W W' : World} {p k : Nat} {r : Sp.Rdr} {m : Sp.Mt} (h : LoS w p k r m W) (hb : Below W.heap.size W W') : LoS w p k r m W' :=
  ⟨h.ck.trans (Chg.of_below hb), h.rd.go hb, h.bm.below hb h.bm.lt, h.hk, h.hp⟩
/-- The same, and a channel of one place. -/
structure LoT (w : World) (p k c : Nat) (r : Sp.Rdr) (m : Sp.Mt) (L : List Int) (W : World) : Prop where
  s : LoS w p k r m W
  hc : w.heap.size ≤ c
  hck : c ≠ k
  ch : ∃ s q, W.heap[c]? = some (.chan 1 (L.map iv).toArray false s q false)
theorem LoT.lt {w W : World} {p k c : Nat} {r : Sp.Rdr} {m : Sp.Mt} {L : List Int} (h : LoT w p k c r m L W) : c < W.heap.size := by
  obtain ⟨s, q, hc⟩ := h.ch
  exact (Array.getElem?_eq_some_iff.1 hc).1
theorem LoT.chan {w W : World} {p k c : Nat} {r : Sp.Rdr} {m : Sp.Mt} {L L' : List Int} (h : LoT w p k c r m L W) {buf : Array Value} (hb : buf = (L'.map iv).toArray) (s q : Nat) : LoT w p k c r m L' (W.setChan c 1 buf false s q false) := by
  subst hb
  have hne : ∀ g t cs, g ≠ c → Blk W g t cs → Blk (W.setChan c 1 (L'.map iv).toArray false s q false) g t cs := fun g t cs hg hb => by
    unfold Blk at hb ⊢
    simp only [World.setChan]
    rw [Array.getElem?_setIfInBounds_ne (Ne.symm hg)]
    exact hb
  have hpc : p ≠ c := by have := h.hc; have := h.s.hp; omega
  refine ⟨⟨?_, hne _ _ _ hpc h.s.rd, hne _ _ _ (Ne.symm h.hck) h.s.bm, h.s.hk, h.s.hp⟩, h.hc, h.hck, ⟨s, q, heap_setChan _ _ _ _ _ _ _ _ h.lt⟩⟩
  refine ⟨h.s.ck.os, h.s.ck.tape, h.s.ck.output, by rw [size_setChan]; exact h.s.ck.size, fun i hi hs => ?_⟩
  have hic : i ≠ c := by have := h.hc; omega
  refine Eq.trans ?_ (h.s.ck.block i hi hs)
  simp only [World.setChan]
  rw [Array.getElem?_setIfInBounds_ne (Ne.symm hic)]
theorem LoT.set1 {w W : World} {p k c : Nat} {r r' : Sp.Rdr} {m : Sp.Mt} {L : List Int} (h : LoT w p k c r m L W) (i : Nat) (u : Value) (hr : (rdrV r').toArray = (rdrV r).toArray.setIfInBounds i u) : LoT w p k c r' m L (W.setCell ⟨p, i, none⟩ u) := by
  obtain ⟨s, q, hc⟩ := h.ch
  have hpc : c ≠ p := by have := h.hc; have := h.s.hp; omega
  have hpk : p ≠ k := by have := h.s.hk; have := h.s.hp; omega
  refine ⟨⟨h.s.ck.setCell (p := ⟨p, i, none⟩) (.inl rfl) _, ?_, Blk.far h.s.bm (p := ⟨p, i, none⟩) (fun e => hpk e.symm) _, h.s.hk, h.s.hp⟩, h.hc, h.hck, ⟨s, q, ((Chg.set1 W p i u).block c h.lt hpc).trans hc⟩⟩
  unfold RdAt
  rw [hr]
  exact Blk.set_ h.s.rd i u
theorem mkChan1 (w : World) : (Instr.makeChan 122 (.int .i64 1)).run Tryz.prog w = .ok (.chan (some w.heap.size)) (w.alloc (.chan 1 #[] false 0 0 false)) := by kernel_rfl
set_option maxRecDepth 100000 in
set_option maxHeartbeats 6400000 in
theorem rdLooks_any (p f m : Nat) (r : Sp.Rdr) (v : Value) (V : List Txt) (w : World) (hr : RdAt w p r) (hf : FileAt w f v m V) (hn : V.length ≤ 400) :
    Calls Tryz.prog 86 #[.pointer (some ⟨p, 0, none⟩), .pointer (some ⟨f, 0, none⟩)] w fun e w' => e = .returned (.tuple #[]) ∧ RdAt w' p (r.looks (Sp.atV V 0) (Sp.atV V 1)) ∧ Chg (OneM p) w w' := by
  have hmk := mkChan1
  have hpw := Blk.lt hr
  have HC := Lib.hid (rdChoose_any p f m r v V w hr hf hn)
  have HR := Lib.hid hr
  have HLO := Lib.hid (show r.looks (Sp.atV V 0) (Sp.atV V 1) = match (Sp.see r.most (Sp.atV V 0) (Sp.atV V 1)).2 with
    | some k => { r with err := some k, phase := 5 }
    | none => if r.phase = 4 ∧ (Sp.see r.most (Sp.atV V 0) (Sp.atV V 1)).1.txn = r.mt.txn then { r with phase := 0, err := none } else { r with mt := (Sp.see r.most (Sp.atV V 0) (Sp.atV V 1)).1, phase := 3 } from rfl)
  clear hr hf hn
  generalize r.looks (Sp.atV V 0) (Sp.atV V 1) = rr at *
  generalize Sp.see r.most (Sp.atV V 0) (Sp.atV V 1) = sw at *
  obtain ⟨mm, er⟩ := sw
  dsimp only at HC HLO
  go_enter Tryz.func86, Tryz.ntmps86
  go_upto_region 0 with fail
  go_cut [4, 5] (fun s4 s5 W => ∃ k, s4 = .pointer (some ⟨k, 0, none⟩) ∧ s5 = erV er ∧ LoS w p k r mm W)
  case first =>
    go_wp2_with (first
      | (go_at_call 116; refine HC.out.mono ?_; rintro e w2 ⟨rfl, hb2⟩; have HB2 := Lib.hid hb2; clear hb2)
      | (refine wpList_new MetaT _ _ rfl rfl rfl rfl rfl rfl _ rfl (of_decide_eq_true (by kernel_rfl)) (by kernel_rfl) (by kernel_rfl) (by kernel_rfl) ?_))
    go_meet
    case rel =>
      have hz := HB2.out.size
      have hal : Below w.heap.size w (w2.alloc (.cells (mtV mm).toArray MetaT)) := HB2.out.alloc hz _
      exact ⟨w2.heap.size, rfl, rfl, Chg.of_below hal, HR.out.go hal, Blk.new w2 _ _, hz, hpw⟩
  case rest =>
    obtain ⟨k, rfl, rfl, hs⟩ := hcut
    obtain ⟨W1, rfl⟩ : ∃ W, W = wc := ⟨_, rfl⟩
    have S := Lib.hid hs
    clear hs HC HR
    go_upto_region 1 with fail
    go_cut [6] (fun s6 W => s6 = .bool (decide (r.phase = 4 ∧ mm.txn = r.mt.txn)) ∧ LoS w p k r mm W)
    case first =>
      have c2 : W1.cell? ⟨p, 2, none⟩ = some (.int .i64 r.phase) := Blk.cell S.out.rd 2
      have c4 : W1.cell? ⟨p, 4, none⟩ = some (.int .u64 r.mt.txn) := Blk.cell S.out.rd 4
      have k0 : W1.cell? ⟨k, 0, none⟩ = some (.int .u64 mm.txn) := S.out.bm.cell 0
      have hk := S.out.bm.lt
      have hp := Blk.lt S.out.rd
      by_cases h4 : r.phase = 4
      · have e4 : (r.phase == 4) = true := beq_iff_eq.2 h4
        have HE := Lib.hid (show decide (r.phase = 4 ∧ mm.txn = r.mt.txn) = (mm.txn == r.mt.txn) by simp [h4]; rfl)
        clear h4
        refine wp_region_row (by kernel_rfl) (by kernel_rfl) ?_
        repeat (first | go_big_quiet_skip | go_big_quiet_step (fail))
        refine wpQuiet_nil ?_
        intro w2 hb2
        go_wp2_with fail
        go_meet
        case rel => exact ⟨by rw [HE.out], S.out.go hb2⟩
      · have e4 : (r.phase == 4) = false := beq_eq_false_iff_ne.2 h4
        have HE := Lib.hid (show decide (r.phase = 4 ∧ mm.txn = r.mt.txn) = false by simp [h4])
        clear h4
        refine wp_region_row (by kernel_rfl) (by kernel_rfl) ?_
        repeat (first | go_big_quiet_skip | go_big_quiet_step (fail))
        refine wpQuiet_nil ?_
        intro w2 hb2
        go_wp2_with fail
        go_meet
        case rel => exact ⟨by rw [HE.out], S.out.go hb2⟩
    case rest =>
      obtain ⟨rfl, hs⟩ := hcut
      obtain ⟨W2, rfl⟩ : ∃ W, W = wc := ⟨_, rfl⟩
      replace S := Lib.hid hs
      clear hs
      have HSA := Lib.hid (rfl : decide (r.phase = 4 ∧ mm.txn = r.mt.txn) = decide (r.phase = 4 ∧ mm.txn = r.mt.txn))
      have T0 := Lib.hid (show LoT w p k W2.heap.size r mm [] (W2.alloc (.chan 1 #[] false 0 0 false)) from ⟨S.out.go ((Below.refl _ _).alloc (Nat.le_refl _) _), S.out.ck.size, by have := S.out.bm.lt; omega, ⟨0, 0, heap_alloc_new W2 _⟩⟩)
      have HCN := Lib.hid S.out.ck
      rcases er with _ | n
      · dsimp only at HLO
        have HL2 := Lib.hid HLO.out
        clear HLO
        rcases hsm : decide (r.phase = 4 ∧ mm.txn = r.mt.txn) with _ | _
        · have HL3 := Lib.hid (show rr = { r with mt := mm, phase := 3 } from HL2.out.trans (if_neg (of_decide_eq_false hsm)))
          clear HL2 hsm
          simp only [erV]
          go_upto_region 7 with fail
          clear hmk
          generalize W2.alloc (.chan 1 #[] false 0 0 false) = W3 at *
          generalize W2.heap.size = c at *
          have T := Lib.hid T0.out
          clear T0
          have c4 : W3.cell? ⟨p, 4, none⟩ = some (.int .u64 r.mt.txn) := Blk.cell T.out.s.rd 4
          have c5 : W3.cell? ⟨p, 5, none⟩ = some (.int .i64 r.mt.main.page) := Blk.cell T.out.s.rd 5
          have c6 : W3.cell? ⟨p, 6, none⟩ = some (.int .i64 r.mt.main.count) := Blk.cell T.out.s.rd 6
          have c7 : W3.cell? ⟨p, 7, none⟩ = some (.int .i64 r.mt.main.flags) := Blk.cell T.out.s.rd 7
          have c8 : W3.cell? ⟨p, 8, none⟩ = some (.int .i64 r.mt.free) := Blk.cell T.out.s.rd 8
          have c9 : W3.cell? ⟨p, 9, none⟩ = some (.int .i64 r.mt.last) := Blk.cell T.out.s.rd 9
          have f4 := Blk.frozen T.out.s.rd 4
          have f5 := Blk.frozen T.out.s.rd 5
          have f6 := Blk.frozen T.out.s.rd 6
          have f7 := Blk.frozen T.out.s.rd 7
          have f8 := Blk.frozen T.out.s.rd 8
          have f9 := Blk.frozen T.out.s.rd 9
          have hbm : Blk W3 k MetaT #[.int .u64 mm.txn, .int .i64 mm.main.page, .int .i64 mm.main.count, .int .i64 mm.main.flags, .int .i64 mm.free, .int .i64 mm.last] := T.out.s.bm
          go_upto_region 8 with (refine wpList_row MetaT _ rfl k rfl rfl MetaT _ (0, 0) _ hbm Tryz.underlying49 rfl rfl ?_)
          have T1 := Lib.hid ((((((T.out.set1 (r' := { r with mt := { r.mt with txn := mm.txn } }) 4 (.int .u64 mm.txn) rfl).set1 (r' := { r with mt := { r.mt with txn := mm.txn, main := { r.mt.main with page := mm.main.page } } }) 5 (.int .i64 mm.main.page) rfl).set1 (r' := { r with mt := { r.mt with txn := mm.txn, main := { r.mt.main with page := mm.main.page, count := mm.main.count } } }) 6 (.int .i64 mm.main.count) rfl).set1 (r' := { r with mt := { r.mt with txn := mm.txn, main := mm.main } }) 7 (.int .i64 mm.main.flags) rfl).set1 (r' := { r with mt := { r.mt with txn := mm.txn, main := mm.main, free := mm.free } }) 8 (.int .i64 mm.free) rfl).set1 (r' := { r with mt := mm }) 9 (.int .i64 mm.last) rfl)
          clear c4 c5 c6 c7 c8 c9 f4 f5 f6 f7 f8 f9 hbm T
          generalize (((((W3.setCell ⟨p, 4, none⟩ (.int .u64 mm.txn)).setCell ⟨p, 5, none⟩ (.int .i64 mm.main.page)).setCell ⟨p, 6, none⟩ (.int .i64 mm.main.count)).setCell ⟨p, 7, none⟩ (.int .i64 mm.main.flags)).setCell ⟨p, 8, none⟩ (.int .i64 mm.free)).setCell ⟨p, 9, none⟩ (.int .i64 mm.last) = W4 at *
          obtain ⟨s, q, hc⟩ := T1.out.ch
          refine InReg.region ?_
          show InReg _ _ _ [0, 1] _ _
          refine InReg.val (w' := W4) (v := .chan (some c)) rfl rfl (by simp [go_sem, execOp, Act.eval]) ?_
          refine InReg.send (w' := W4) (c := c) (v := .int .i64 3) (z := .tuple #[]) rfl rfl (by simp [go_sem, execOp, scase, Act.eval, Act.put]) hc (by simp) ?_
          refine InReg.nil ?_
          have T5 := Lib.hid (T1.out.chan (L' := [3]) (buf := (([] : List Int).map iv).toArray.push (.int .i64 3)) rfl (s + 1) q)
          clear hc T1
          generalize W4.setChan c 1 ((([] : List Int).map iv).toArray.push (.int .i64 3)) false (s + 1) q false = W5 at *
          go_upto_region 10 with fail
          obtain ⟨s2, q2, hc⟩ := T5.out.ch
          refine InReg.region ?_
          show InReg _ _ _ [0, 1, 2] _ _
          refine InReg.recv (w' := W5) (c := c) (z := .int .i64 0) rfl rfl (by simp [go_sem, execOp, rcase, Act.eval]) hc (by simp) ?_
          have T7 := Lib.hid (T5.out.chan (L' := []) (buf := (([3] : List Int).map iv).toArray.extract 1 (([3] : List Int).map iv).toArray.size) rfl s2 (q2 + 1))
          clear hc T5
          generalize W5.setChan c 1 ((([3] : List Int).map iv).toArray.extract 1 (([3] : List Int).map iv).toArray.size) false s2 (q2 + 1) false = W6 at *
          refine InReg.val (w' := W6) (v := goInt 0) rfl rfl (by simp [go_sem, execOp, Act.eval, Act.put]) ?_
          refine InReg.val (w' := W6) (v := .bool true) rfl rfl (by simp [go_sem, execOp, Act.eval, Act.put, goInt]) ?_
          refine InReg.nil ?_
          rw [show ((([3] : List Int).map iv).toArray.getD 0 undef) = .int .i64 3 from rfl]
          have c2 : W6.cell? ⟨p, 2, none⟩ = some (.int .i64 r.phase) := Blk.cell T7.out.s.rd 2
          have f2 := Blk.frozen T7.out.s.rd 2
          have T6 := Lib.hid (T7.out.set1 (r' := { ({ r with mt := mm } : Sp.Rdr) with phase := 3 }) 2 (.int .i64 3) rfl)
          clear T7
          go_wp2_with fail
          go_end0
          exact ⟨rfl, by rw [HL3.out]; exact T6.out.s.rd, T6.out.s.ck⟩
        · have HL3 := Lib.hid (show rr = { r with phase := 0, err := none } from HL2.out.trans (if_pos (of_decide_eq_true hsm)))
          clear HL2 hsm
          simp only [erV]
          go_upto_region 10 with fail
          clear hmk
          generalize W2.alloc (.chan 1 #[] false 0 0 false) = W4 at *
          generalize W2.heap.size = c at *
          have T1 := Lib.hid T0.out
          clear T0
          obtain ⟨s, q, hc⟩ := T1.out.ch
          refine InReg.region ?_
          show InReg _ _ _ [0, 1, 2] _ _
          refine InReg.default (w' := W4) (c := c) (z := .int .i64 0) rfl rfl (by simp [go_sem, execOp, rcase, Act.eval]) hc ?_
          refine InReg.val (w' := W4) (v := goInt (-1)) rfl rfl (by simp [go_sem, execOp, Act.eval, Act.put]) ?_
          refine InReg.val (w' := W4) (v := .bool false) rfl rfl (by simp [go_sem, execOp, Act.eval, Act.put, goInt]) ?_
          refine InReg.nil ?_
          clear hc
          go_wp2_with (go_at_call 85; refine (rdEnds_any p r none _ T1.out.s.rd).mono ?_; rintro e w2 ⟨rfl, hr2, hk2⟩; have HR2 := Lib.hid hr2; have HK2 := Lib.hid hk2; clear hr2 hk2)
          go_end0
          exact ⟨rfl, by rw [HL3.out]; exact HR2.out, T1.out.s.ck.trans HK2.out⟩
      · dsimp only at HLO
        have HL3 := Lib.hid HLO.out
        clear HLO
        simp only [erV]
        go_upto_region 4 with fail
        clear hmk
        generalize W2.alloc (.chan 1 #[] false 0 0 false) = W3 at *
        generalize W2.heap.size = c at *
        have c10 : W3.cell? ⟨p, 10, none⟩ = some (erV r.err) := Blk.cell T0.out.s.rd 10
        have f10 := Blk.frozen T0.out.s.rd 10
        go_upto_region 5 with fail
        have T1 := Lib.hid (T0.out.set1 (r' := { r with err := some n }) 10 (.iface ErrT (.int .i64 n)) rfl)
        clear c10 f10 T0
        generalize W3.setCell ⟨p, 10, none⟩ (.iface ErrT (.int .i64 n)) = W4 at *
        obtain ⟨s, q, hc⟩ := T1.out.ch
        refine InReg.region ?_
        show InReg _ _ _ [0, 1] _ _
        refine InReg.val (w' := W4) (v := .chan (some c)) rfl rfl (by simp [go_sem, execOp, Act.eval]) ?_
        refine InReg.send (w' := W4) (c := c) (v := .int .i64 5) (z := .tuple #[]) rfl rfl (by simp [go_sem, execOp, scase, Act.eval, Act.put]) hc (by simp) ?_
        refine InReg.nil ?_
        have T5 := Lib.hid (T1.out.chan (L' := [5]) (buf := (([] : List Int).map iv).toArray.push (.int .i64 5)) rfl (s + 1) q)
        clear hc T1
        generalize W4.setChan c 1 ((([] : List Int).map iv).toArray.push (.int .i64 5)) false (s + 1) q false = W5 at *
        go_upto_region 10 with fail
        obtain ⟨s2, q2, hc⟩ := T5.out.ch
        refine InReg.region ?_
        show InReg _ _ _ [0, 1, 2] _ _
        refine InReg.recv (w' := W5) (c := c) (z := .int .i64 0) rfl rfl (by simp [go_sem, execOp, rcase, Act.eval]) hc (by simp) ?_
        have T7 := Lib.hid (T5.out.chan (L' := []) (buf := (([5] : List Int).map iv).toArray.extract 1 (([5] : List Int).map iv).toArray.size) rfl s2 (q2 + 1))
        clear hc T5
        generalize W5.setChan c 1 ((([5] : List Int).map iv).toArray.extract 1 (([5] : List Int).map iv).toArray.size) false s2 (q2 + 1) false = W6 at *
        refine InReg.val (w' := W6) (v := goInt 0) rfl rfl (by simp [go_sem, execOp, Act.eval, Act.put]) ?_
        refine InReg.val (w' := W6) (v := .bool true) rfl rfl (by simp [go_sem, execOp, Act.eval, Act.put, goInt]) ?_
        refine InReg.nil ?_
        rw [show ((([5] : List Int).map iv).toArray.getD 0 undef) = .int .i64 5 from rfl]
        have c2 : W6.cell? ⟨p, 2, none⟩ = some (.int .i64 r.phase) := Blk.cell T7.out.s.rd 2
        have f2 := Blk.frozen T7.out.s.rd 2
        have T6 := Lib.hid (T7.out.set1 (r' := { ({ r with err := some n } : Sp.Rdr) with phase := 5 }) 2 (.int .i64 5) rfl)
        clear T7
        go_wp2_with fail
        go_end0
        exact ⟨rfl, by rw [HL3.out]; exact T6.out.s.rd, T6.out.s.ck⟩
end Go.Proofs.YtmcpkhknjdiocaaGreatDoor
