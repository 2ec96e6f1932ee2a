/- The document's reader: a step that claims; a step behind the end. The document's reader: what a step keeps; a step that finds no slot. The document's cuts: what their methods do. The document's readers: roots. The document's readers: texts. -/
import Derived.Test.YtmcpkhknjdiocaaGreatDoorQB00
import Derived.Test.YtmcpkhknjdiocaaGreatDoorQB01
import Derived.Test.YtmcpkhknjdiocaaGreatDoorQB03
import Derived.Test.YtmcpkhknjdiocaaGreatDoorQB04
import Derived.Test.YtmcpkhknjdiocaaGreatDoorQB11
import Derived.Test.YtmcpkhknjdiocaaGreatDoorQB12
import Derived.Test.YtmcpkhknjdiocaaGreatDoorQB19
import Derived.BigQuiet
import Derived.RegionTactic
import Derived.BigRegion
import Derived.Deep.DeepCutAuto
set_option linter.unusedSimpArgs false
set_option linter.unusedVariables false
namespace Go.Proofs.YtmcpkhknjdiocaaGreatDoor
open Go.RowKit
attribute [local go_sem low] mk_extract
attribute [local go_sem] After.cell After.frozen mk_extract_end ByteArray.mk_append_mk
theorem DRdAt.put {w : World} {p : Nat} {r : Sp.Rdr} (h : DRdAt w p r) (j : Nat) (v : Value) : Blk (w.setCell ⟨p, j, none⟩ v) p DReaderT ((drdV r).toArray.setIfInBounds j v) := Blk.set_ h j v
set_option maxRecDepth 100000 in
set_option maxHeartbeats 1600000 in
theorem dStep0_any (p l f : Nat) (r : Sp.Rdr) (w : World) (hr : DRdAt w p r) (h0 : r.phase = 0) :
    Calls Tryz.prog 22 #[.pointer (some ⟨p, 0, none⟩), .pointer (some ⟨f, 0, none⟩), .pointer (some ⟨l, 0, none⟩)] w fun e w' => e = .returned (.tuple #[.bool true, .int .i64 (erN r.err)]) ∧ DRdAt w' p r ∧ Below w.heap.size w w' := by
  have c2 : w.cell? ⟨p, 2, none⟩ = some (.int .i64 0) := by rw [← h0]; exact Blk.cell hr 2
  have c10 : w.cell? ⟨p, 10, none⟩ = some (.int .i64 (erN r.err)) := Blk.cell hr 10
  have hp := Blk.lt hr
  have HR := Lib.hid hr
  clear hr
  generalize erN r.err = en at *
  go_enter Tryz.func22, Tryz.ntmps22
  go_upto_region 31 with fail
  refine wp_region_row (by kernel_rfl) (by kernel_rfl) ?_
  repeat (first | go_big_quiet_skip | go_big_quiet_step (fail))
  refine wpQuiet_nil ?_
  intro w2 hb2
  have HR2 := Lib.hid (HR.out.go hb2)
  have HB2 := Lib.hid hb2
  clear hb2
  go_wp2_with fail
  refine bodyPost_ret (v := .tuple #[.bool true, .int .i64 en]) (by simp [results, Tryz.results22, go_sem]) rfl ⟨rfl, HR2.out, HB2.out⟩
set_option maxRecDepth 100000 in
set_option maxHeartbeats 1600000 in
theorem dStep1_any (p l f : Nat) (r : Sp.Rdr) (wn : Int) (sl : List Sp.Sl) (i : Nat) (w : World) (hr : DRdAt w p r) (hl : DLockAt w l wn sl) (hne : p ≠ l) (h1 : r.phase = 1) (hc : Sp.claim sl r.pid = some i) :
    Calls Tryz.prog 22 #[.pointer (some ⟨p, 0, none⟩), .pointer (some ⟨f, 0, none⟩), .pointer (some ⟨l, 0, none⟩)] w fun e w' => e = .returned (.tuple #[.bool false, .int .i64 0]) ∧ DRdAt w' p { r with slot := (i : Int), phase := 2, err := none } ∧ DLockAt w' l wn (Sp.claimed sl r.pid) ∧ Chg (fun k => k = p ∨ k = l) w w' := by
  have c2 : w.cell? ⟨p, 2, none⟩ = some (.int .i64 1) := by rw [← h1]; exact Blk.cell hr 2
  have c0 : w.cell? ⟨p, 0, none⟩ = some (.int .i64 r.pid) := Blk.cell hr 0
  have HR := Lib.hid hr
  have HL := Lib.hid (dClaim_any l wn sl r.pid w hl)
  rw [hc] at HL
  clear hr hl hc
  go_enter Tryz.func22, Tryz.ntmps22
  go_upto_region 4 with (go_at_call 18; refine HL.out.mono ?_; rintro e w2 ⟨rfl, hl2, hk2⟩; have HR2 := Lib.hid (HR.out.chg hk2 hne); have HL2 := Lib.hid hl2; have HK2 := Lib.hid hk2; clear hl2 hk2; simp only [dClV])
  have d2 : w2.cell? ⟨p, 2, none⟩ = some (.int .i64 1) := by rw [← h1]; exact Blk.cell HR2.out 2
  have d3 : w2.cell? ⟨p, 3, none⟩ = some (.int .i64 r.slot) := Blk.cell HR2.out 3
  have d10 : w2.cell? ⟨p, 10, none⟩ = some (.int .i64 (erN r.err)) := Blk.cell HR2.out 10
  have f2 := Blk.frozen HR2.out 2
  have f3 := Blk.frozen HR2.out 3
  have f10 := Blk.frozen HR2.out 10
  go_wp2_with fail
  refine bodyPost_ret (v := .tuple #[.bool false, .int .i64 0]) (by simp [results, Tryz.results22, go_sem]) rfl ⟨rfl, ?_, ?_, ?_⟩
  · have := ((HR2.out.put 3 (.int .i64 (i : Int))).set_ 2 (.int .i64 2)).set_ 10 (.int .i64 0)
    exact this
  · exact HL2.out.chg (Chg.set1 w2 p 3 _ |>.trans (Chg.set1 _ p 2 _) |>.trans (Chg.set1 _ p 10 _)) (fun e => hne e.symm)
  · exact (HK2.out.mono fun _ _ h => .inr h).trans (((Chg.set1 w2 p 3 _).trans (Chg.set1 _ p 2 _) |>.trans (Chg.set1 _ p 10 _)).mono fun _ _ h => .inl h)
end Go.Proofs.YtmcpkhknjdiocaaGreatDoor
namespace Go.Proofs.YtmcpkhknjdiocaaGreatDoor
open Go.RowKit
attribute [local go_sem low] mk_extract
attribute [local go_sem] After.cell After.frozen mk_extract_end ByteArray.mk_append_mk
/-- The reader and the lock, in whatever world. -/
structure DsS (w : World) (p l : Nat) (wn : Int) (r : Sp.Rdr) (sl : List Sp.Sl) (W : World) : Prop where
  rd : DRdAt W p r
  lk : DLockAt W l wn sl
  ck : Chg (fun k => k = p ∨ k = l) w W
theorem DsS.go {w W W' : World} {p l : Nat} {wn : Int} {r : Sp.Rdr} {sl : List Sp.Sl} (h : DsS w p l wn r sl W) (hb : Below W.heap.size W W') : DsS w p l wn r sl W' :=
  ⟨h.rd.go hb, h.lk.go hb, h.ck.trans (Chg.of_below hb)⟩
theorem DsS.start {w : World} {p l : Nat} {wn : Int} {r : Sp.Rdr} {sl : List Sp.Sl} (hr : DRdAt w p r) (hl : DLockAt w l wn sl) : DsS w p l wn r sl w := ⟨hr, hl, Chg.refl _ _⟩
theorem DsS.lock {w W W' : World} {p l : Nat} {wn : Int} {r : Sp.Rdr} {sl sl' : List Sp.Sl} (h : DsS w p l wn r sl W) (hne : p ≠ l) (hl : DLockAt W' l wn sl') (hk : Chg (OneM l) W W') : DsS w p l wn r sl' W' :=
  ⟨h.rd.chg hk hne, hl, h.ck.trans (hk.mono fun _ _ e => .inr e)⟩
theorem DsS.put {w W : World} {p l : Nat} {wn : Int} {r r' : Sp.Rdr} {sl : List Sp.Sl} (h : DsS w p l wn r sl W) (hne : p ≠ l) (j : Nat) (v : Value) (e : (drdV r).toArray.setIfInBounds j v = (drdV r').toArray) : DsS w p l wn r' sl (W.setCell ⟨p, j, none⟩ v) :=
  ⟨by have := h.rd.put j v; rw [e] at this; exact this, h.lk.chg (Chg.set1 W p j v) (fun e => hne e.symm), h.ck.trans ((Chg.set1 W p j v).mono fun _ _ e => .inl e)⟩
theorem DsS.drew {w W : World} {p l : Nat} {wn : Int} {r : Sp.Rdr} {sl : List Sp.Sl} (h : DsS w p l wn r sl W) : DsS w p l wn r sl W.drew :=
  ⟨Blk.drew h.rd, ⟨Blk.drew h.lk.bl, h.lk.len⟩, h.ck.drew⟩
set_option maxRecDepth 100000 in
set_option maxHeartbeats 1600000 in
theorem dStep1n_any (p l f : Nat) (r : Sp.Rdr) (wn : Int) (sl : List Sp.Sl) (w : World) (hr : DRdAt w p r) (hl : DLockAt w l wn sl) (hne : p ≠ l) (h1 : r.phase = 1) (hc : Sp.claim sl r.pid = none) :
    Calls Tryz.prog 22 #[.pointer (some ⟨p, 0, none⟩), .pointer (some ⟨f, 0, none⟩), .pointer (some ⟨l, 0, none⟩)] w fun e w' => e = .returned (.tuple #[.bool true, .int .i64 15]) ∧ DRdAt w' p { r with slot := -1, phase := 0, err := some 15 } ∧ DLockAt w' l wn (Sp.claimed sl r.pid) ∧ Chg (fun k => k = p ∨ k = l) w w' := by
  have c2 : w.cell? ⟨p, 2, none⟩ = some (.int .i64 1) := by rw [← h1]; exact Blk.cell hr 2
  have c0 : w.cell? ⟨p, 0, none⟩ = some (.int .i64 r.pid) := Blk.cell hr 0
  have S := Lib.hid (DsS.start hr hl)
  have HL := Lib.hid (dClaim_any l wn sl r.pid w hl)
  rw [hc] at HL
  clear hr hl hc
  go_enter Tryz.func22, Tryz.ntmps22
  go_upto_region 4 with (go_at_call 18; refine HL.out.mono ?_; rintro e w2 ⟨rfl, hl2, hk2⟩; replace S := Lib.hid (S.out.lock hne hl2 hk2); clear hl2 hk2; simp only [dClV])
  clear c0 c2 HL
  have d2 : w2.cell? ⟨p, 2, none⟩ = some (.int .i64 1) := by rw [← h1]; exact Blk.cell S.out.rd 2
  have d3 : w2.cell? ⟨p, 3, none⟩ = some (.int .i64 r.slot) := Blk.cell S.out.rd 3
  have d10 : w2.cell? ⟨p, 10, none⟩ = some (.int .i64 (erN r.err)) := Blk.cell S.out.rd 10
  have f2 := Blk.frozen S.out.rd 2
  have f3 := Blk.frozen S.out.rd 3
  have f10 := Blk.frozen S.out.rd 10
  go_upto_region 6 with fail
  refine wp_gen (fun W => DsS w p l wn { r with slot := -1, phase := 2, err := some 15 } (Sp.claimed sl r.pid) W) (((S.out.put (r' := { r with slot := -1 }) hne 3 (.int .i64 (-1)) rfl).put (r' := { r with slot := -1, phase := 2 }) hne 2 (.int .i64 2) rfl).put (r' := { r with slot := -1, phase := 2, err := some 15 }) hne 10 (.int .i64 15) rfl) ?_
  clear S d2 d3 d10 f2 f3 f10
  intro w3 hs8
  have S := Lib.hid hs8
  have d2 : w3.cell? ⟨p, 2, none⟩ = some (.int .i64 ({ r with slot := -1, phase := 2, err := some 15 } : Sp.Rdr).phase) := Blk.cell hs8.rd 2
  have f2 := Blk.frozen hs8.rd 2
  clear hs8
  dsimp only at d2
  go_upto_region 31 with fail
  refine wp_gen (fun W => DsS w p l wn { r with slot := -1, phase := 0, err := some 15 } (Sp.claimed sl r.pid) W) (S.out.put hne 2 (.int .i64 0) rfl) ?_
  clear S d2 f2
  intro w8 hs8
  have S8 := Lib.hid hs8
  have z10 : w8.cell? ⟨p, 10, none⟩ = some (.int .i64 15) := by first | exact Blk.cell hs8.rd 10 | (rw [← hen]; exact Blk.cell hs8.rd 10)
  have hp := Blk.lt hs8.rd
  clear hs8
  refine wp_region_row (by kernel_rfl) (by kernel_rfl) ?_
  repeat (first | go_big_quiet_skip | go_big_quiet_step (fail))
  refine wpQuiet_nil ?_
  intro w9 hb9
  replace S8 := Lib.hid (S8.out.go hb9)
  clear hb9 z10
  go_wp2_with fail
  all_goals refine bodyPost_ret (v := .tuple #[.bool true, .int .i64 15]) (by simp [results, Tryz.results22, go_sem]) rfl ⟨rfl, S8.out.rd, S8.out.lk, S8.out.ck⟩
end Go.Proofs.YtmcpkhknjdiocaaGreatDoor
namespace Go.Proofs.YtmcpkhknjdiocaaGreatDoor
open Go.RowKit
attribute [local go_sem low] mk_extract
attribute [local go_sem] After.cell After.frozen mk_extract_end ByteArray.mk_append_mk
/-- A cut of the document's in memory. -/
def DCut (w : World) (g : Nat) (s : Txt) (bad : Bool) : Prop := Blk w g 248 #[.string ⟨s.toArray⟩, .bool bad]
namespace Sp
/-- A number at the front, at most so much; else it is bad. -/
def Cut.int (most : Int) (c : Cut) : Int × Cut := if most < c.u64.1 then (0, ⟨c.u64.2.s, true⟩) else c.u64
theorem Cut.int_rng (most : Int) (hm : 0 ≤ most) (c : Cut) : 0 ≤ (Cut.int most c).1 ∧ (Cut.int most c).1 ≤ most := by
  unfold Cut.int
  have := c.u64_rng
  split
  · exact ⟨Int.le_refl _, hm⟩
  · omega
theorem Cut.int_len (most : Int) (c : Cut) : (Cut.int most c).2.s.length ≤ c.s.length := by
  unfold Cut.int
  have := c.u64_len
  split <;> exact this
end Sp
theorem or_len (x y : UInt8) : bits .or .i64 (wrap64 (x.toNat : Int)) (wrap64 (wrap64 (y.toNat : Int) * 256)) = Sp.Cut.lenOf [x, y] := by
  have hx := x.toNat_lt
  have hy := y.toNat_lt
  have e1 : wrap64 (x.toNat : Int) = ((x.toNat : Nat) : Int) := by simp [wrap64, IntKind.wrap_i64]; omega
  have e2 : wrap64 (wrap64 (y.toNat : Int) * 256) = ((2 ^ 8 * y.toNat : Nat) : Int) := by simp [wrap64, IntKind.wrap_i64]; omega
  rw [e1, e2]
  show IntKind.i64.wrap ((BitVec.ofInt 64 ((x.toNat : Nat) : Int) ||| BitVec.ofInt 64 ((2 ^ 8 * y.toNat : Nat) : Int)).toNat : Int) = _
  rw [BitVec.toNat_or, ofInt_u64 _ (by omega), ofInt_u64 _ (by omega), Nat.or_comm, ← Nat.two_pow_add_eq_or_of_lt (by omega : x.toNat < 2 ^ 8)]
  simp only [Sp.Cut.lenOf, List.getD_cons_zero, List.getD_cons_succ, IntKind.wrap_i64]
  omega
theorem str_at (s : Txt) (j : Nat) (hj : j < s.length) (W : World) : (Instr.index 9 (.string ⟨s.toArray⟩) (.int .i64 (j : Int))).run Tryz.prog W = .ok (.int .u8 (s[j].toNat : Int)) W := by
  rw [run_index_string W 9 _ .i64 (j : Int) Tryz.underlying9]
  have hz : (ByteArray.mk s.toArray).size = s.length := by show s.toArray.size = _; exact List.size_toArray
  rw [dif_pos ⟨Int.natCast_nonneg _, by rw [hz]; omega⟩]
  rfl
set_option maxRecDepth 100000 in
set_option maxHeartbeats 400000 in
theorem dTake_any (n : Int) (hn : 0 ≤ n) (hn2 : n ≤ 4611686018427387904) (g : Nat) (s : Txt) (bad : Bool) (w : World) (hs : s.length ≤ 4611686018427387904) (hc : DCut w g s bad) :
    Calls Tryz.prog 167 #[.pointer (some ⟨g, 0, none⟩), .int .i64 n] w fun e w' => e = .returned (.string ⟨(Sp.Cut.take ⟨s, bad⟩ n.toNat).toArray⟩) ∧
      DCut w' g (Sp.Cut.rest ⟨s, bad⟩ n.toNat).s (Sp.Cut.rest ⟨s, bad⟩ n.toNat).bad ∧ Chg (OneM g) w w' := by
  have h0 := hc.cell 0
  have h1 := hc.cell 1
  have f0 := hc.frozen 0
  have f1 := hc.frozen 1
  simp at h0 h1
  have Hc := Lib.hid hc
  clear hc
  cases bad
  · by_cases hl : (s.length : Int) < n
    · go_enter Tryz.func167, Tryz.ntmps167
      go_wp2
      go_ret
      have hn' : s.length < n.toNat := by omega
      refine ⟨?_, ?_, Chg.set1 _ _ _ _⟩
      · simp [Sp.Cut.take, hn']
      · simpa [Sp.Cut.rest, hn', DCut] using Hc.out.set_ 1 (.bool true)
    · go_enter Tryz.func167, Tryz.ntmps167
      go_wp2
      go_ret
      have hn' : ¬ s.length < n.toNat := by omega
      refine ⟨?_, ?_, Chg.set1 _ _ _ _⟩
      · simp [Sp.Cut.take, hn']
      · simpa [Sp.Cut.rest, hn', DCut] using Hc.out.set_ 0 (.string ⟨(s.drop n.toNat).toArray⟩)
  · go_enter Tryz.func167, Tryz.ntmps167
    go_wp2
    go_ret
    refine ⟨?_, ?_, Chg.set1 _ _ _ _⟩
    · simp [Sp.Cut.take]
    · simpa [Sp.Cut.rest, DCut] using Hc.out.set_ 1 (.bool true)
set_option maxRecDepth 100000 in
set_option maxHeartbeats 400000 in
theorem dCutNum_any (g : Nat) (s : Txt) (bad : Bool) (w : World) (hs : s.length ≤ 4611686018427387904) (hc : DCut w g s bad) :
    Calls Tryz.prog 147 #[.pointer (some ⟨g, 0, none⟩)] w fun e w' => e = .returned (.int .u64 (Sp.unle (Sp.Cut.take ⟨s, bad⟩ 8))) ∧
      DCut w' g (Sp.Cut.rest ⟨s, bad⟩ 8).s (Sp.Cut.rest ⟨s, bad⟩ 8).bad ∧ Chg (OneM g) w w' := by
  have Hc := Lib.hid hc
  clear hc
  have hl8 : (Sp.Cut.take ⟨s, bad⟩ 8).length ≤ 8 := by
    unfold Sp.Cut.take
    split
    · simp
    · simp; omega
  go_enter Tryz.func147, Tryz.ntmps147
  go_wp2_with fail
  refine (dTake_any 8 (by omega) (by omega) g s bad w hs Hc.out).mono ?_
  rintro e w1 ⟨rfl, hc1, hk1⟩
  have Hc1 := Lib.hid hc1
  clear hc1
  simp only [show Int.toNat 8 = 8 from rfl] at *
  generalize hb : Sp.Cut.take ⟨s, bad⟩ 8 = b at *
  have HB := Lib.hid hb
  clear hb
  have hl8' : (b.length : Int) ≤ 8 := by omega
  go_wp2
  go_loop [4, 5] (fun n i => ∃ k : Nat, k ≤ b.length ∧ i = .int .i64 ((k : Int) - 1) ∧ n = .int .u64 (Sp.unle (b.drop k))) (fun _ i => (intOf i + 1).toNat)
  case atStart => exact ⟨b.length, Nat.le_refl _, rfl, by simp [Sp.unle]⟩
  case round =>
    obtain ⟨k, hk, rfl, rfl⟩ := hrel
    by_cases hlt : 0 < k
    · obtain ⟨j, rfl⟩ : ∃ j, k = j + 1 := ⟨k - 1, by omega⟩
      have hr := Sp.unle_lt7 (b.drop (j + 1)) (by simp; omega)
      have HD := Lib.hid (Sp.unle_drop b j (by omega))
      have e1 : ((j + 1 : Nat) : Int) - 1 = (j : Int) := by omega
      rw [e1]
      clear e1
      have HO := Lib.hid (Sp.or_byte (Sp.unle (b.drop (j + 1))) b[j] hr.1 hr.2)
      generalize Sp.unle (b.drop (j + 1)) = m at *
      go_wp2
      refine ⟨⟨j, by omega, by go_num, ?_⟩, by simp [intOf]⟩
      rw [HD.out, ← HO.out]
      rfl
    · have hk0 : k = 0 := by omega
      subst hk0
      go_wp2
      go_ret
      rw [HB.out]
      exact ⟨rfl, Hc1.out, hk1⟩
set_option maxRecDepth 100000 in
set_option maxHeartbeats 400000 in
theorem dInt_any (most : Int) (hm : 0 ≤ most) (hm2 : most ≤ 1073741824) (g : Nat) (s : Txt) (bad : Bool) (w : World) (hs : s.length ≤ 4611686018427387904) (hc : DCut w g s bad) :
    Calls Tryz.prog 168 #[.pointer (some ⟨g, 0, none⟩), .int .i64 most] w fun e w' => e = .returned (.int .i64 (Sp.Cut.int most ⟨s, bad⟩).1) ∧
      DCut w' g (Sp.Cut.int most ⟨s, bad⟩).2.s (Sp.Cut.int most ⟨s, bad⟩).2.bad ∧ Chg (OneM g) w w' := by
  have Hc := Lib.hid hc
  clear hc
  have hr := Sp.Cut.u64_rng ⟨s, bad⟩
  have HN := Lib.hid (show Calls Tryz.prog 147 #[.pointer (some ⟨g, 0, none⟩)] w (fun e w' => e = .returned (.int .u64 (Sp.Cut.u64 ⟨s, bad⟩).1) ∧ DCut w' g (Sp.Cut.u64 ⟨s, bad⟩).2.s (Sp.Cut.u64 ⟨s, bad⟩).2.bad ∧ Chg (OneM g) w w') from dCutNum_any g s bad w hs Hc.out)
  unfold Sp.Cut.int
  generalize Sp.Cut.u64 ⟨s, bad⟩ = ud at *
  obtain ⟨u, d⟩ := ud
  simp only at *
  obtain ⟨hr0, hr1⟩ := hr
  by_cases hlt : most < u
  · rw [if_pos hlt]
    go_enter Tryz.func168, Tryz.ntmps168
    go_wp2_with (go_at_call 147; refine HN.out.mono ?_; rintro e w1 ⟨rfl, hc1, hk1⟩; have h1 := hc1.cell 1; have f1 := hc1.frozen 1; simp at h1; have Hc1 := Lib.hid hc1; clear hc1)
    go_ret
    refine ⟨rfl, ?_, hk1.trans (Chg.set1 _ _ _ _)⟩
    simpa [DCut] using Hc1.out.set_ 1 (.bool true)
  · rw [if_neg hlt]
    go_enter Tryz.func168, Tryz.ntmps168
    go_wp2_with (go_at_call 147; refine HN.out.mono ?_; rintro e w1 ⟨rfl, hc1, hk1⟩; have Hc1 := Lib.hid hc1; clear hc1)
    go_ret
    exact ⟨rfl, Hc1.out, hk1⟩
set_option maxRecDepth 100000 in
set_option maxHeartbeats 400000 in
theorem dCutText_any (g : Nat) (s : Txt) (bad : Bool) (w : World) (hs : s.length ≤ 4611686018427387904) (hc : DCut w g s bad) :
    Calls Tryz.prog 170 #[.pointer (some ⟨g, 0, none⟩)] w fun e w' => e = .returned (.string ⟨(Sp.Cut.text ⟨s, bad⟩).1.toArray⟩) ∧
      DCut w' g (Sp.Cut.text ⟨s, bad⟩).2.s (Sp.Cut.text ⟨s, bad⟩).2.bad ∧ Chg (OneM g) w w' := by
  have h0 := hc.cell 0
  have h1 := hc.cell 1
  have f0 := hc.frozen 0
  have f1 := hc.frozen 1
  simp at h0 h1
  have hgw := hc.lt
  have Hc := Lib.hid hc
  clear hc
  cases bad
  · by_cases hl : s.length < 2
    · go_enter Tryz.func170, Tryz.ntmps170
      go_wp2
      go_ret
      have ht : Sp.Cut.take ⟨s, false⟩ 2 = [] := by unfold Sp.Cut.take; rw [if_pos (.inr hl)]
      have hr : Sp.Cut.rest ⟨s, false⟩ 2 = ⟨s, true⟩ := by unfold Sp.Cut.rest; rw [if_pos (.inr hl)]
      refine ⟨?_, ?_, Chg.set1 _ _ _ _⟩
      · simp [Sp.Cut.text, ht]
      · simpa [Sp.Cut.text, ht, hr, DCut] using Hc.out.set_ 1 (.bool true)
    · have hl2 : 2 ≤ s.length := by omega
      have ht : Sp.Cut.take ⟨s, false⟩ 2 = [s[0], s[1]] := by
        unfold Sp.Cut.take
        rw [if_neg (by simp; omega)]
        match s, hl2 with
        | x :: y :: r, _ => rfl
      have hr : Sp.Cut.rest ⟨s, false⟩ 2 = ⟨s.drop 2, false⟩ := by unfold Sp.Cut.rest; rw [if_neg (by simp; omega)]
      have HT : Hid (Sp.Cut.text ⟨s, false⟩ = (Sp.Cut.take ⟨s.drop 2, false⟩ (Sp.Cut.lenOf [s[0], s[1]]).toNat, if (Sp.Cut.rest ⟨s.drop 2, false⟩ (Sp.Cut.lenOf [s[0], s[1]]).toNat).bad then ⟨s, true⟩ else Sp.Cut.rest ⟨s.drop 2, false⟩ (Sp.Cut.lenOf [s[0], s[1]]).toNat)) := by
        show _ = _
        unfold Sp.Cut.text
        simp only [ht, hr]
        rw [if_neg (by simp)]
      clear ht hr
      have hn0 : 0 ≤ Sp.Cut.lenOf [s[0], s[1]] ∧ Sp.Cut.lenOf [s[0], s[1]] ≤ 65535 := by
        have h1 := s[0].toNat_lt
        have h2 := s[1].toNat_lt
        simp [Sp.Cut.lenOf]
        omega
      have HN0 := Lib.hid hn0
      clear hn0
      have hix0 : ∀ W, (Instr.index 9 (.string ⟨s.toArray⟩) (.int .i64 0)).run Tryz.prog W = .ok (.int .u8 (s[0].toNat : Int)) W := fun W => str_at s 0 (by omega) W
      have hix1 : ∀ W, (Instr.index 9 (.string ⟨s.toArray⟩) (.int .i64 1)).run Tryz.prog W = .ok (.int .u8 (s[1].toNat : Int)) W := fun W => str_at s 1 (by omega) W
      go_enter Tryz.func170, Tryz.ntmps170
      go_upto_region 4 with fail
      refine wp_region_after (by kernel_rfl) (by kernel_rfl) (w.heap.size) ?_
      repeat (go_big_quiet_step (fail))
      refine wpQuiet_nil ?_
      intro w2 hb2
      have Hc2 := Lib.hid (Hc.out.below hb2 hgw)
      have hk2 : Chg (OneM g) w w2 := .of_below hb2
      have h0 := Hc2.out.cell 0
      have h1 := Hc2.out.cell 1
      have f0 := Hc2.out.frozen 0
      have f1 := Hc2.out.frozen 1
      simp at h0 h1
      rw [or_len]
      clear hix0 hix1 hb2
      have HT2 := HT.out
      generalize Sp.Cut.lenOf [s[0], s[1]] = n at *
      clear HT
      have HT := Lib.hid HT2
      clear HT2
      obtain ⟨hn0, hn1⟩ := HN0.out
      by_cases hsh : (s.length : Int) < 2 + n
      · go_wp2
        go_ret
        have hr : (Sp.Cut.rest ⟨s.drop 2, false⟩ n.toNat) = ⟨s.drop 2, true⟩ := by unfold Sp.Cut.rest; rw [if_pos (.inr (by simp; omega))]
        have ht : (Sp.Cut.take ⟨s.drop 2, false⟩ n.toNat) = [] := by unfold Sp.Cut.take; rw [if_pos (.inr (by simp; omega))]
        rw [HT.out, hr, ht]
        refine ⟨rfl, ?_, hk2.trans (Chg.set1 _ _ _ _)⟩
        simpa [DCut] using Hc2.out.set_ 1 (.bool true)
      · go_wp2_with (go_at_call 167; refine (dTake_any n hn0 (by omega) g (s.drop 2) false _ (by simp; omega) (by simpa [DCut] using Hc2.out.set_ 0 (.string ⟨(s.drop 2).toArray⟩))).mono ?_; rintro e w3 ⟨rfl, hc3, hk3⟩; have Hc3 := Lib.hid hc3; clear hc3)
        go_ret
        have hr : (Sp.Cut.rest ⟨s.drop 2, false⟩ n.toNat).bad = false := by unfold Sp.Cut.rest; rw [if_neg (by simp; omega)]
        rw [HT.out, hr]
        have hc3 := Hc3.out
        rw [hr] at hc3
        refine ⟨rfl, ?_, (hk2.trans (Chg.set1 _ _ _ _)).trans hk3⟩
        simpa [hr] using hc3
  · go_enter Tryz.func170, Tryz.ntmps170
    go_wp2
    go_ret
    refine ⟨?_, ?_, Chg.set1 _ _ _ _⟩
    · simp [Sp.Cut.text, Sp.Cut.take]
    · simpa [Sp.Cut.text, Sp.Cut.take, Sp.Cut.rest, DCut] using Hc.out.set_ 1 (.bool true)
end Go.Proofs.YtmcpkhknjdiocaaGreatDoor
namespace Go.Proofs.YtmcpkhknjdiocaaGreatDoor
open Go.RowKit
attribute [local go_sem low] mk_extract
attribute [local go_sem] After.cell After.frozen mk_extract_end ByteArray.mk_append_mk
abbrev RootT : TypeId := 47
namespace Sp
def Cut.droot (c : Cut) : Root × Cut := (⟨(Cut.int 400 c).1, (Cut.int 1000000 (Cut.int 400 c).2).1, (Cut.int 1 (Cut.int 1000000 (Cut.int 400 c).2).2).1⟩, (Cut.int 1 (Cut.int 1000000 (Cut.int 400 c).2).2).2)
theorem Cut.droot_len (c : Cut) : c.droot.2.s.length ≤ c.s.length := Nat.le_trans (Cut.int_len _ _) (Nat.le_trans (Cut.int_len _ _) (Cut.int_len _ _))
end Sp
theorem DCut.chg {S : Nat → Prop} {w w' : World} {g : Nat} {s : Txt} {bad : Bool} (h : DCut w g s bad) (hk : Chg S w w') (hS : ¬ S g) : DCut w' g s bad := Blk.chg h hk hS
/-- The result's block b2, a cut g. -/
structure PreS (w : World) (g : Nat) (c : Sp.Cut) (T : TypeId) (b2 : Nat) (zs : Array Value) (W : World) : Prop where
  dc : DCut W g c.s c.bad
  ck : Chg (OneM g) w W
  z2 : Blk W b2 T zs
  h2 : w.heap.size ≤ b2
  hg : g < w.heap.size
  hl : c.s.length ≤ 4611686018427387904
/-- A value in the making in block b3. -/
structure MkS (w : World) (g : Nat) (c : Sp.Cut) (T : TypeId) (b2 : Nat) (zs : Array Value) (b3 : Nat) (cs : Array Value) (W : World) : Prop where
  p : PreS w g c T b2 zs W
  z3 : Blk W b3 T cs
  h3 : w.heap.size ≤ b3
  hne : b2 ≠ b3
section
variable {w W W' : World} {g : Nat} {c c' : Sp.Cut} {T : TypeId} {b2 b3 : Nat} {zs cs : Array Value}
theorem PreS.call (h : PreS w g c T b2 zs W) (hc : DCut W' g c'.s c'.bad) (hk : Chg (OneM g) W W') (hl : c'.s.length ≤ c.s.length) : PreS w g c' T b2 zs W' :=
  ⟨hc, h.ck.trans hk, h.z2.chg hk (by unfold OneM; have := h.h2; have := h.hg; omega), h.h2, h.hg, Nat.le_trans hl h.hl⟩
theorem PreS.new (h : PreS w g c T b2 zs W) (cs : Array Value) : MkS w g c T b2 zs W.heap.size cs (W.alloc (.cells cs T)) :=
  ⟨⟨Blk.alloc h.dc _, h.ck.alloc _, h.z2.alloc _, h.h2, h.hg, h.hl⟩, Blk.new _ _ _, h.ck.size, by have := h.z2.lt; omega⟩
theorem MkS.call (h : MkS w g c T b2 zs b3 cs W) (hc : DCut W' g c'.s c'.bad) (hk : Chg (OneM g) W W') (hl : c'.s.length ≤ c.s.length) : MkS w g c' T b2 zs b3 cs W' :=
  ⟨h.p.call hc hk hl, h.z3.chg hk (by unfold OneM; have := h.h3; have := h.p.hg; omega), h.h3, h.hne⟩
theorem MkS.set (h : MkS w g c T b2 zs b3 cs W) (i : Nat) (u : Value) : MkS w g c T b2 zs b3 (cs.setIfInBounds i u) (W.setCell ⟨b3, i, none⟩ u) := by
  have h3 := h.h3
  have hg := h.p.hg
  exact ⟨⟨Blk.far h.p.dc (p := ⟨b3, i, none⟩) (by show g ≠ b3; omega) _, h.p.ck.setCell (p := ⟨b3, i, none⟩) (.inr h3) _, h.p.z2.far (p := ⟨b3, i, none⟩) h.hne _, h.p.h2, h.p.hg, h.p.hl⟩, h.z3.set_ i u, h.h3, h.hne⟩
theorem chg_setRow {S : Nat → Prop} {a b : World} (h : Chg S a b) {k : Nat} (hk : a.heap.size ≤ k) (cs : Array Value) : Chg S a (b.setRow k cs) :=
  ⟨h.os, h.tape, h.output, by simpa using h.size, fun i hi hs => (setRow_other b k i cs (by omega)).trans (h.block i hi hs)⟩
theorem MkS.done (h : MkS w g c T b2 zs b3 cs W) : DCut (W.setRow b2 cs) g c.s c.bad ∧ Chg (OneM g) w (W.setRow b2 cs) ∧ Blk (W.setRow b2 cs) b2 T cs := by
  have h2 := h.p.h2
  have hg := h.p.hg
  have hd := h.p.dc
  unfold DCut Blk at hd
  refine ⟨?_, chg_setRow h.p.ck h2 _, h.p.z2.row⟩
  exact (setRow_other W b2 g _ (by omega)).trans hd
end
set_option maxRecDepth 100000 in
set_option maxHeartbeats 1600000 in
theorem dRoot_any (g : Nat) (c : Sp.Cut) (w : World) (hs : c.s.length ≤ 4611686018427387904) (hc : DCut w g c.s c.bad) :
    Calls Tryz.prog 173 #[.pointer (some ⟨g, 0, none⟩)] w fun e w' => e = .returned (.agg (rootV c.droot.1).toArray) ∧ DCut w' g c.droot.2.s c.droot.2.bad ∧ Chg (OneM g) w w' := by
  have hgw := hc.lt
  have P := Lib.hid (show PreS w g c RootT w.heap.size #[.int .i64 0, .int .i64 0, .int .i64 0] (w.alloc (.cells #[.int .i64 0, .int .i64 0, .int .i64 0] RootT)) from ⟨Blk.alloc hc _, (Chg.refl _ _).alloc _, Blk.new _ _ _, Nat.le_refl _, hgw, hs⟩)
  have HV := Lib.hid (rfl : c.droot = (⟨(Sp.Cut.int 400 c).1, (Sp.Cut.int 1000000 (Sp.Cut.int 400 c).2).1, (Sp.Cut.int 1 (Sp.Cut.int 1000000 (Sp.Cut.int 400 c).2).2).1⟩, (Sp.Cut.int 1 (Sp.Cut.int 1000000 (Sp.Cut.int 400 c).2).2).2))
  clear hc hs
  go_enter Tryz.func173, Tryz.ntmps173
  go_upto_region 1 with fail
  go_cut [3] (fun s3 W => ∃ b3, s3 = .pointer (some ⟨b3, 0, none⟩) ∧ MkS w g (Sp.Cut.int 400 c).2 RootT w.heap.size #[.int .i64 0, .int .i64 0, .int .i64 0] b3 #[.int .i64 (Sp.Cut.int 400 c).1, .int .i64 0, .int .i64 0] W)
  case first =>
    go_wp2_with (first
      | (go_at_call 168; refine (dInt_any 400 (by omega) (by omega) g c.s c.bad _ P.out.hl P.out.dc).mono ?_; rintro e w1 ⟨rfl, hc1, hk1⟩; replace P := Lib.hid (P.out.call (c' := (Sp.Cut.int 400 c).2) hc1 hk1 (Sp.Cut.int_len _ _)); clear hc1 hk1)
      | (refine wpList_new RootT _ _ rfl rfl rfl rfl rfl rfl _ rfl (of_decide_eq_true (by kernel_rfl)) (by kernel_rfl) (by kernel_rfl) (by kernel_rfl) ?_))
    go_meet
    case rel => exact ⟨_, rfl, P.out.new _⟩
  case rest =>
    obtain ⟨b3, rfl, hm⟩ := hcut
    have S := Lib.hid hm
    clear hm P
    obtain ⟨W1, rfl⟩ : ∃ W, W = wc := ⟨_, rfl⟩
    go_upto_region 2 with fail
    go_cut [3] (fun s3 W => s3 = .pointer (some ⟨b3, 0, none⟩) ∧ MkS w g (Sp.Cut.int 1000000 (Sp.Cut.int 400 c).2).2 RootT w.heap.size #[.int .i64 0, .int .i64 0, .int .i64 0] b3 #[.int .i64 (Sp.Cut.int 400 c).1, .int .i64 (Sp.Cut.int 1000000 (Sp.Cut.int 400 c).2).1, .int .i64 0] W)
    case first =>
      go_wp2_with (go_at_call 168; refine (dInt_any 1000000 (by omega) (by omega) g _ _ _ S.out.p.hl S.out.p.dc).mono ?_; rintro e w1 ⟨rfl, hc1, hk1⟩; replace S := Lib.hid (S.out.call (c' := (Sp.Cut.int 1000000 (Sp.Cut.int 400 c).2).2) hc1 hk1 (Sp.Cut.int_len _ _)); have q1 := S.out.z3.cell 1; have f1 := S.out.z3.frozen 1; simp at q1; clear hc1 hk1)
      go_meet
      case rel => exact ⟨rfl, S.out.set 1 _⟩
    case rest =>
      obtain ⟨rfl, hm⟩ := hcut
      replace S := Lib.hid hm
      clear hm
      obtain ⟨W2, rfl⟩ : ∃ W, W = wc := ⟨_, rfl⟩
      go_upto_region 3 with fail
      go_cut [3] (fun s3 W => s3 = .pointer (some ⟨b3, 0, none⟩) ∧ MkS w g c.droot.2 RootT w.heap.size #[.int .i64 0, .int .i64 0, .int .i64 0] b3 (rootV c.droot.1).toArray W)
      case first =>
        go_wp2_with (go_at_call 168; refine (dInt_any 1 (by omega) (by omega) g _ _ _ S.out.p.hl S.out.p.dc).mono ?_; rintro e w1 ⟨rfl, hc1, hk1⟩; replace S := Lib.hid (S.out.call (c' := (Sp.Cut.int 1 (Sp.Cut.int 1000000 (Sp.Cut.int 400 c).2).2).2) hc1 hk1 (Sp.Cut.int_len _ _)); have q1 := S.out.z3.cell 2; have f1 := S.out.z3.frozen 2; simp at q1; clear hc1 hk1)
        go_meet
        case rel => exact ⟨rfl, S.out.set 2 _⟩
      case rest =>
        obtain ⟨rfl, hm⟩ := hcut
        replace S := Lib.hid hm
        clear hm HV
        obtain ⟨W3, rfl⟩ : ∃ W, W = wc := ⟨_, rfl⟩
        rcases hrd : c.droot with ⟨⟨x1, x2, x3⟩, d⟩
        rw [hrd] at S
        have HRD := Lib.hid hrd
        clear hrd
        simp only [rootV] at S
        go_wp2_with (first
          | (refine wpList_row RootT _ rfl b3 rfl rfl RootT _ (0, 0) _ S.out.z3 Tryz.underlying47 rfl rfl ?_)
          | (refine wpList_store_row rfl RootT _ _ rfl w.heap.size _ rfl rfl RootT _ S.out.p.z2 (by kernel_rfl) rfl (by kernel_rfl) ?_))
        have hD := S.out.done
        have hz := hD.2.2.at3.1
        obtain ⟨z0, z1, z2⟩ := hz
        refine bodyPost_ret (v := .agg #[.int .i64 x1, .int .i64 x2, .int .i64 x3]) (by simp [results, Tryz.results173, go_sem, z0, z1, z2]) rfl ⟨by rw [HRD.out]; rfl, by rw [HRD.out]; exact hD.1, hD.2.1⟩
end Go.Proofs.YtmcpkhknjdiocaaGreatDoor
namespace Go.Proofs.YtmcpkhknjdiocaaGreatDoor
open Go.RowKit
attribute [local go_sem low] mk_extract
attribute [local go_sem] After.cell After.frozen mk_extract_end ByteArray.mk_append_mk
namespace Sp
def Cut.dtexts (most : Int) (c : Cut) : List Txt × Cut := eachN textStep (Cut.int most c).1.toNat ([], (Cut.int most c).2)
theorem textStep_len (a : List Txt) (c : Cut) : (textStep a c).2.s.length ≤ c.s.length := c.text_len
theorem Cut.dtexts_len (most : Int) (c : Cut) : (Cut.dtexts most c).2.s.length ≤ c.s.length := Nat.le_trans (eachN_len textStep_len _ _) (Cut.int_len _ _)
end Sp
/-- Values that were read. -/
structure TxI (w : World) (g : Nat) (l : List Txt) (c : Sp.Cut) (v : Value) (W : World) : Prop where
  dc : DCut W g c.s c.bad
  ck : Chg (OneM g) w W
  own : W.ownsRow w.heap.size StrT 1 v l.length (l.map tv)
  hg : g < w.heap.size
  hl : c.s.length ≤ 4611686018427387904
theorem TxI.call {w W W' : World} {g : Nat} {l : List Txt} {c c' : Sp.Cut} {v : Value} (h : TxI w g l c v W) (hc : DCut W' g c'.s c'.bad) (hk : Chg (OneM g) W W') (hl : c'.s.length ≤ c.s.length) : TxI w g l c' v W' :=
  ⟨hc, h.ck.trans hk, own_chg h.own hk (fun k hk e => by unfold OneM at e; have := h.hg; omega), h.hg, Nat.le_trans hl h.hl⟩
theorem TxI.al {w W : World} {g : Nat} {l : List Txt} {c : Sp.Cut} {v : Value} (h : TxI w g l c v W) (o : Obj) : TxI w g l c v (W.alloc o) :=
  ⟨Blk.alloc h.dc _, h.ck.alloc _, h.own.alloc _, h.hg, h.hl⟩
theorem TxI.app {w W W' : World} {g : Nat} {l : List Txt} {c : Sp.Cut} {v v' : Value} {s : Txt} (h : TxI w g l c v W) (ho : W'.ownsRow w.heap.size StrT 1 v' (l.length + 1) (l.map tv ++ [tv s])) (hg : W.grownBy W' v.ownBlock) : TxI w g (l ++ [s]) c v' W' := by
  have hk : Chg (fun k => v.ownBlock = some k) W W' := Chg.of_grown hg (fun k hk => .inl hk)
  exact ⟨DCut.chg h.dc hk (fun e => by have := (h.own.lt _ e).1; have := h.hg; omega), Chg.step hk (fun i hi => .inr (h.own.lt i hi).1) h.ck, by simpa using ho, h.hg, h.hl⟩
set_option maxRecDepth 100000 in
set_option maxHeartbeats 1600000 in
theorem dTexts_any (most : Int) (hm : 0 ≤ most) (hm2 : most ≤ 1000) (g : Nat) (c : Sp.Cut) (w : World) (hs : c.s.length ≤ 4611686018427387904) (hc : DCut w g c.s c.bad) :
    Calls Tryz.prog 171 #[.pointer (some ⟨g, 0, none⟩), .int .i64 most] w fun e w' => ∃ A cp, e = .returned (.slice A (Sp.Cut.dtexts most c).1.length cp) ∧ TRow w' w.heap.size StrT A ((Sp.Cut.dtexts most c).1.map tv) ∧ DCut w' g (Sp.Cut.dtexts most c).2.s (Sp.Cut.dtexts most c).2.bad ∧ Chg (OneM g) w w' := by
  obtain ⟨i0, hi0, hz0, hz1, hz2⟩ := info_parts info_str
  have hgw := hc.lt
  have hr := Sp.Cut.int_rng most hm c
  have HD := Lib.hid (fun l d' (h : Sp.eachN Sp.textStep (Sp.Cut.int most c).1.toNat ([], (Sp.Cut.int most c).2) = (l, d')) => (show Sp.Cut.dtexts most c = (l, d') from h))
  have Hc := Lib.hid hc
  have HS := Lib.hid hs
  have HIL := Lib.hid (Sp.Cut.int_len most c)
  have HIN := Lib.hid (fun w h => dInt_any most hm (by omega) g c.s c.bad w hs h)
  clear hc hs
  rw [show (⟨c.s, c.bad⟩ : Sp.Cut) = c from rfl] at HIN
  generalize Sp.Cut.int most c = nd at *
  obtain ⟨n, d⟩ := nd
  dsimp only at hr HIL HIN HD
  obtain ⟨hn0, hn1⟩ := hr
  go_enter Tryz.func171, Tryz.ntmps171
  go_wp2_with (go_at_call 168; refine (HIN.out _ Hc.out).mono ?_; rintro e w1 ⟨rfl, hc1, hk1⟩; have T0 := Lib.hid (show TxI w g [] d (.slice none 0 0) w1 from ⟨hc1, hk1, World.ownsRow_nil _ _ _ _, hgw, Nat.le_trans HIL.out HS.out⟩); clear hc1 hk1)
  go_loopw [5, 7] (fun v i wr => ∃ (k : Nat) (l : List Txt) (c' : Sp.Cut), (k : Int) ≤ n ∧ i = .int .i64 k ∧ Hid (Sp.eachN Sp.textStep k ([], d) = (l, c') ∧ l.length ≤ k) ∧ TxI w g l c' v wr) (fun _ i _ => (n - intOf i).toNat)
  case atStart => exact ⟨0, [], d, hn0, rfl, ⟨rfl, Nat.le_refl _⟩, T0.out⟩
  case round =>
    obtain ⟨k, l, c', hk, rfl, he, ht⟩ := hrel
    have T := Lib.hid ht
    have q1 := ht.dc.cell 1
    simp at q1
    clear ht T0
    by_cases hlt : (k : Int) < n
    · rcases hb : c'.bad with _ | _
      · rw [hb] at q1
        have HB := Lib.hid hb
        clear hb
        go_wp2_with (first
          | (go_at_call 170; refine (dCutText_any g c'.s c'.bad _ T.out.hl T.out.dc).mono ?_; rintro e w3 ⟨rfl, hc3, hk3⟩; rw [show (⟨c'.s, c'.bad⟩ : Sp.Cut) = c' from rfl] at *; replace T := Lib.hid (T.out.call (c' := c'.text.2) hc3 hk3 c'.text_len); clear hc3 hk3)
          | (at_builtin; refine wpList_append_own _ rfl _ _ 26 rfl w.heap.size StrT i0 _ 1 16 Tryz.underlying26 hi0 hz0 hz1 hz2 rfl (by decide) _ l.length (l.map tv) rfl ?c0 ⟨w3.heap.size, 0, none⟩ 1 1 [tv c'.text.1] rfl rfl ?c1 ?c2 ?c3 ?c4 ?c5 ?_))
        case c0 => exact (T.out.al _).own
        case c1 => exact news_of w3 [tv c'.text.1].toArray StrT
        case c2 => exact fun u hu => by rw [List.mem_singleton.1 hu]; rfl
        case c3 => have := he.out.2; simp only [maxLen]; omega
        case c4 => have := he.out.2; omega
        case c5 => have := T.out.ck.size; simp; omega
        intro v' w' hown' hgr' _
        obtain ⟨A', cc', hv'⟩ := own_form hown'
        subst hv'
        have hnx := (T.out.al _).app hown' hgr'
        have HNX := Lib.hid hnx
        clear hnx hown' hgr'
        go_wp2_with fail
        go_roundw
        case rel =>
          refine ⟨k + 1, l ++ [c'.text.1], c'.text.2, by omega, by go_num, ⟨?_, ?_⟩, HNX.out⟩
          · rw [Sp.eachN_succ _ _ _ (by rw [he.out.1]; exact HB.out), he.out.1]
            rfl
          · have := he.out.2; simp; omega
        case measure => simp [intOf]; omega
      · rw [hb] at q1
        have HB := Lib.hid hb
        clear hb
        go_wp2_with fail
        obtain ⟨A, cp, hv⟩ := own_form T.out.own
        subst hv
        go_ret
        have hdt := HD.out l c' ((Sp.eachN_end (f := Sp.textStep) (s := ([], d)) (k := k) (n := n.toNat) (by omega) (.inr (by rw [he.out.1]; exact HB.out))).trans he.out.1)
        have hT : TRow wr w.heap.size StrT A ((Sp.Cut.dtexts most c).1.map tv) := by rw [hdt]; exact TRow.of_own T.out.own (by have := he.out.2; simp; omega)
        have hC : DCut wr g (Sp.Cut.dtexts most c).2.s (Sp.Cut.dtexts most c).2.bad := by rw [hdt]; exact T.out.dc
        first
          | exact ⟨A, cp, by rw [hdt]; rfl, hT, hC, T.out.ck⟩
          | exact ⟨A, ⟨cp, by rw [hdt]; rfl⟩, hT, hC, T.out.ck⟩
    · go_wp2_with fail
      obtain ⟨A, cp, hv⟩ := own_form T.out.own
      subst hv
      go_ret
      have hdt := HD.out l c' ((Sp.eachN_end (f := Sp.textStep) (s := ([], d)) (k := k) (n := n.toNat) (by omega) (.inl (by omega))).trans he.out.1)
      have hT : TRow wr w.heap.size StrT A ((Sp.Cut.dtexts most c).1.map tv) := by rw [hdt]; exact TRow.of_own T.out.own (by have := he.out.2; simp; omega)
      have hC : DCut wr g (Sp.Cut.dtexts most c).2.s (Sp.Cut.dtexts most c).2.bad := by rw [hdt]; exact T.out.dc
      first
        | exact ⟨A, cp, by rw [hdt]; rfl, hT, hC, T.out.ck⟩
        | exact ⟨A, ⟨cp, by rw [hdt]; rfl⟩, hT, hC, T.out.ck⟩
end Go.Proofs.YtmcpkhknjdiocaaGreatDoor
