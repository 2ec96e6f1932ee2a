/- Pages that may be lost: a copy of a row of texts, a page of it, a new file. The lock file: its slots, in memory; who owns one, a version published, a slot freed, all slots. The lock file: a version published, a slot freed, all slots. Channels within one goroutine, in the walk's own form: a region that sends, or selects one receive with a default. Reading: page.Read, case 1. Reading: page.Read, case 2. -/
import Derived.Test.YtmcpkhknjdiocaaGreatDoorQB00
import Derived.Test.YtmcpkhknjdiocaaGreatDoorQB03
import Derived.Test.YtmcpkhknjdiocaaGreatDoorQB04
import Derived.Test.YtmcpkhknjdiocaaGreatDoorQB09
import Derived.Conc.LoneCalls
import Derived.Conc.LoneSelectN
set_option linter.unusedSimpArgs false
set_option linter.unusedVariables false
namespace Go.Proofs.YtmcpkhknjdiocaaGreatDoor
open Go.RowKit
attribute [local go_sem low] mk_extract
attribute [local go_sem] After.cell After.frozen mk_extract_end ByteArray.mk_append_mk
theorem run_eql_slice_nl (b off n c : Nat) (W : World) : (binOp .eql 26 (.slice (some ⟨b, off, none⟩) n c) (.slice none 0 0)).run Tryz.prog W = .ok (.bool false) W := by
  unfold binOp
  simp [run_equal_slice_nil W 26 9 _ n c Tryz.underlying26]
set_option maxRecDepth 100000 in
set_option maxHeartbeats 1600000 in
theorem clone_any (l : List Txt) (b off c : Nat) {M : Nat → Prop} (w : World) (hl : Txts w M (some ⟨b, off, none⟩) l) (hn : l.length ≤ 1000) :
    Calls Tryz.prog 51 #[.slice (some ⟨b, off, none⟩) l.length c] w fun e w' => ∃ g cap, e = .returned (.slice (some ⟨g, 0, none⟩) l.length cap) ∧ w'.ownsRow w.heap.size StrT 1 (.slice (some ⟨g, 0, none⟩) l.length cap) l.length (l.map tv) ∧ Below w.heap.size w w' := by
  obtain ⟨i0, hi0, hz0, hz1, hz2⟩ := info_parts info_str
  have HL := Lib.hid hl
  have HN := Lib.hid hn
  clear hl hn
  have hnl := fun W => run_eql_slice_nl (b := b) (off := off) l.length c W
  go_enter Tryz.func51, Tryz.ntmps51
  go_wp2_with (at_builtin; refine wpList_append_own _ rfl _ _ 26 rfl w.heap.size StrT i0 _ 1 16 Tryz.underlying26 hi0 hz0 hz1 hz2 rfl (by decide) _ 0 [] rfl ?c0 ⟨b, off, none⟩ l.length c (l.map tv) rfl ?c6 ?c1 ?c2 ?c3 ?c4 ?c5 ?_)
  case c0 => exact ⟨rfl, .inr ⟨w.heap.size, 0, #[], rfl, Nat.le_refl _, heap_alloc_new _ _, Nat.le_refl _, by simp [maxLen], rfl, rfl⟩⟩
  case c6 => simp
  case c1 =>
    intro j u hu
    have hj : j < l.length := by
      have := (List.getElem?_eq_some_iff.1 hu).1
      rwa [List.length_map] at this
    obtain ⟨b', off', e, hb, hc⟩ := HL.out.at_ hj
    obtain ⟨rfl, rfl⟩ : b = b' ∧ off = off' := by simpa using e
    have h := hc j hj
    have hal : Below w.heap.size w (w.alloc (.cells #[] StrT)) := (Below.refl _ _).alloc (Nat.le_refl _) _
    rw [Go.WideShapes.add_plain]
    refine (hal.cell (p := ⟨b, off + j, none⟩) hb).trans (h.trans ?_)
    rw [List.getElem?_map, List.getElem?_eq_getElem hj] at hu
    simp only [Option.map_some, Option.some.injEq] at hu
    rw [← hu]
    simp [List.getD, hj, tv]
  case c2 =>
    intro u hu
    obtain ⟨s, _, rfl⟩ := List.mem_map.1 hu
    rfl
  case c3 => have := HN.out; simp only [maxLen]; omega
  case c4 => have := HN.out; omega
  case c5 => simp
  intro v' w' hown' hgr' hnil
  obtain ⟨g, cap, rfl⟩ : ∃ g cap, v' = .slice (some ⟨g, 0, none⟩) l.length cap := by
    rcases hown'.2 with ⟨h, _⟩ | ⟨g, cap, cur, h, _⟩
    · exact absurd h (fun e => (hnil e).elim)
    · exact ⟨g, cap, h⟩
  clear hnil
  have hb2 : Below w.heap.size w w' := by
    have h1 : Below w.heap.size w (w.alloc (.cells #[] StrT)) := (Below.refl _ _).alloc (Nat.le_refl _) _
    exact h1.trans (Chg.below (S := fun k => some w.heap.size = some k) (Chg.of_grown hgr' (fun k hk => .inl (by simpa [Value.ownBlock] using hk))) (by simp) (fun k hk e => by simp at e; omega))
  have HB := Lib.hid hb2
  have HO := Lib.hid hown'
  clear hown' hgr' hb2
  go_wp2_with fail
  go_ret
  exact ⟨g, cap, rfl, HO.out, HB.out⟩
namespace Sp
/-- A page of some; none: no bytes. -/
def atV (V : List Txt) (i : Int) : Txt := if i < 0 then [] else V.getD i.toNat []
end Sp
set_option maxRecDepth 100000 in
set_option maxHeartbeats 1600000 in
theorem at_any (V : List Txt) (A : Option Addr) (c : Nat) {M : Nat → Prop} (i : Int) (w : World) (hV : Txts w M A V) :
    Calls Tryz.prog 166 #[.slice A V.length c, .int .i64 i] w fun e w' => e = .returned (.string ⟨(Sp.atV V i).toArray⟩) ∧ w = w' := by
  by_cases h0 : i < 0
  · have HV := Lib.hid (show Sp.atV V i = [] by unfold Sp.atV; rw [if_pos h0])
    rw [HV.out]
    clear hV
    go_enter Tryz.func166, Tryz.ntmps166
    go_wp2_with fail
    go_ret
    exact ⟨rfl, rfl⟩
  · obtain ⟨j, rfl⟩ := Int.eq_ofNat_of_zero_le (by omega : 0 ≤ i)
    by_cases h1 : j < V.length
    · obtain ⟨b, off, rfl, hb, hc⟩ := hV.at_ h1
      have hcj := hc j h1
      have HV := Lib.hid (show Sp.atV V j = V.getD j [] by unfold Sp.atV; rw [if_neg h0]; rfl)
      rw [HV.out]
      clear hV hc
      generalize V.getD j [] = s at *
      go_enter Tryz.func166, Tryz.ntmps166
      go_wp2_with fail
      go_ret
      exact ⟨rfl, rfl⟩
    · have HV := Lib.hid (show Sp.atV V j = [] by unfold Sp.atV; rw [if_neg h0]; exact (List.getD_eq_getElem?_getD ..).trans (by rw [List.getElem?_eq_none (by simpa using h1)]; rfl))
      rw [HV.out]
      clear hV
      have h2 : (V.length : Int) ≤ (j : Int) := by omega
      go_enter Tryz.func166, Tryz.ntmps166
      go_wp2_with fail
      go_ret
      exact ⟨rfl, rfl⟩
theorem FileAt.txts {w : World} {f m n c : Nat} {A : Option Addr} {V : List Txt} (h : FileAt w f (.slice A n c) m V) (hn : V.length ≤ 4611686018427387904) : n = V.length ∧ Txts w NoM A V := by
  obtain ⟨A', c', e⟩ := own_form h.own
  simp only [Value.slice.injEq] at e
  obtain ⟨rfl, rfl, rfl⟩ := e
  refine ⟨rfl, ?_⟩
  have := TRow.of_own h.own (by rw [List.length_map]; exact hn)
  exact this.row (fun _ _ h => h)
set_option maxRecDepth 100000 in
set_option maxHeartbeats 1600000 in
theorem fileRead_any (f m : Nat) (v : Value) (V : List Txt) (i : Int) (w : World) (hf : FileAt w f v m V) (hn : V.length ≤ 4611686018427387904) :
    Calls Tryz.prog 146 #[.pointer (some ⟨f, 0, none⟩), .int .i64 i] w fun e w' => e = .returned (.string ⟨(Sp.atV V i).toArray⟩) ∧ w = w' := by
  obtain ⟨A, c, rfl⟩ := own_form hf.own
  have HT := Lib.hid (hf.txts hn).2
  obtain ⟨sv, hb⟩ := hf.bf
  have c0 : w.cell? ⟨f, 0, none⟩ = some (.slice A V.length c) := hb.cell 0
  clear hf hb
  go_enter Tryz.func146, Tryz.ntmps146
  go_wp2_with (go_at_call 166; refine (at_any V A c i _ HT.out).mono ?_; rintro e w2 ⟨rfl, rfl⟩)
  go_ret
  exact ⟨rfl, rfl⟩
end Go.Proofs.YtmcpkhknjdiocaaGreatDoor
namespace Go.Proofs.YtmcpkhknjdiocaaGreatDoor
open Go.RowKit
attribute [local go_sem low] mk_extract
attribute [local go_sem] After.cell After.frozen mk_extract_end ByteArray.mk_append_mk
namespace Sp
/-- A slot: a process, the version it reads. -/
structure Sl where
  pid : Int
  txn : Int
deriving DecidableEq
def sl0 : Sl := ⟨0, 0⟩
def owns (sl : List Sl) (slot pid : Int) : Bool := decide (0 ≤ slot ∧ slot < 8 ∧ 0 < pid ∧ (sl.getD slot.toNat sl0).pid = pid)
end Sp
abbrev LockT : TypeId := 112
abbrev SlotT : TypeId := 35
def slV (s : Sp.Sl) : List Value := [.int .i64 s.pid, .int .u64 s.txn]
def lkV (wr : Int) (sl : List Sp.Sl) : List Value := .int .i64 wr :: sl.flatMap slV
theorem slV_at : ∀ (sl : List Sp.Sl) (i : Nat), i < sl.length → (sl.flatMap slV)[i * 2]? = some (.int .i64 (sl.getD i Sp.sl0).pid) ∧ (sl.flatMap slV)[i * 2 + 1]? = some (.int .u64 (sl.getD i Sp.sl0).txn)
  | [], _, h => absurd h (by simp)
  | s :: sl, 0, _ => ⟨rfl, rfl⟩
  | s :: sl, i + 1, h => by
    have := slV_at sl i (by simpa using h)
    rw [List.flatMap_cons, show (i + 1) * 2 = i * 2 + 2 by omega, show i * 2 + 2 + 1 = i * 2 + 1 + 2 by omega]
    exact this
theorem slV_set : ∀ (sl : List Sp.Sl) (i : Nat) (s : Sp.Sl), ((sl.flatMap slV).set (i * 2) (.int .i64 s.pid)).set (i * 2 + 1) (.int .u64 s.txn) = (sl.set i s).flatMap slV
  | [], _, _ => rfl
  | x :: sl, 0, s => rfl
  | x :: sl, i + 1, s => by
    have := slV_set sl i s
    rw [List.flatMap_cons, List.set_cons_succ, List.flatMap_cons, show (i + 1) * 2 = i * 2 + 2 by omega, show i * 2 + 2 + 1 = i * 2 + 1 + 2 by omega]
    show _ :: _ :: ((sl.flatMap slV).set (i * 2) _).set (i * 2 + 1) _ = _
    rw [this]
    rfl
theorem slV_len (sl : List Sp.Sl) : (sl.flatMap slV).length = sl.length * 2 := by
  induction sl with
  | nil => rfl
  | cons s sl ih => rw [List.flatMap_cons, List.length_append, ih]; simp [slV]; omega
/-- A lock in memory. -/
structure LockAt (w : World) (l : Nat) (wr : Int) (sl : List Sp.Sl) : Prop where
  bl : Blk w l LockT (lkV wr sl).toArray
  len : sl.length = 8
theorem LockAt.chg {S : Nat → Prop} {w w' : World} {l : Nat} {wr : Int} {sl : List Sp.Sl} (h : LockAt w l wr sl) (hk : Chg S w w') (hS : ¬ S l) : LockAt w' l wr sl := ⟨h.bl.chg hk hS, h.len⟩
theorem LockAt.go {w w' : World} {l : Nat} {wr : Int} {sl : List Sp.Sl} (h : LockAt w l wr sl) (hb : Below w.heap.size w w') : LockAt w' l wr sl := ⟨h.bl.below hb h.bl.lt, h.len⟩
theorem LockAt.pid {w : World} {l : Nat} {wr : Int} {sl : List Sp.Sl} (h : LockAt w l wr sl) {i : Nat} (hi : i < 8) : w.cell? ⟨l, 1 + i * 2, none⟩ = some (.int .i64 (sl.getD i Sp.sl0).pid) := by
  refine (h.bl.cell (1 + i * 2)).trans ?_
  rw [List.getElem?_toArray, lkV, Nat.add_comm 1, List.getElem?_cons_succ]
  exact (slV_at sl i (by have := h.len; omega)).1
theorem LockAt.txn {w : World} {l : Nat} {wr : Int} {sl : List Sp.Sl} (h : LockAt w l wr sl) {i : Nat} (hi : i < 8) : w.cell? ⟨l, 1 + i * 2 + 1, none⟩ = some (.int .u64 (sl.getD i Sp.sl0).txn) := by
  refine (h.bl.cell (1 + i * 2 + 1)).trans ?_
  rw [List.getElem?_toArray, lkV, show 1 + i * 2 + 1 = i * 2 + 1 + 1 by omega, List.getElem?_cons_succ]
  exact (slV_at sl i (by have := h.len; omega)).2
theorem LockAt.put {w : World} {l : Nat} {wr : Int} {sl : List Sp.Sl} (h : LockAt w l wr sl) (i : Nat) (s : Sp.Sl) : LockAt ((w.setCell ⟨l, 1 + i * 2, none⟩ (.int .i64 s.pid)).setCell ⟨l, 1 + i * 2 + 1, none⟩ (.int .u64 s.txn)) l wr (sl.set i s) := by
  refine ⟨?_, by rw [List.length_set]; exact h.len⟩
  have := (h.bl.set_ (1 + i * 2) (.int .i64 s.pid)).set_ (1 + i * 2 + 1) (.int .u64 s.txn)
  rw [List.setIfInBounds_toArray, List.setIfInBounds_toArray, lkV, show 1 + i * 2 = i * 2 + 1 by omega, List.set_cons_succ, List.set_cons_succ, slV_set] at this
  rw [show 1 + i * 2 = i * 2 + 1 by omega]
  exact this
theorem LockAt.put1 {w : World} {l : Nat} {wr : Int} {sl : List Sp.Sl} (h : LockAt w l wr sl) (i : Nat) (t : Int) (hi : i < 8) : LockAt (w.setCell ⟨l, 1 + i * 2 + 1, none⟩ (.int .u64 t)) l wr (sl.set i ⟨(sl.getD i Sp.sl0).pid, t⟩) := by
  have h2 := h.put i ⟨(sl.getD i Sp.sl0).pid, t⟩
  have hp := h.pid hi
  refine ⟨?_, h2.len⟩
  have e := h.bl.set_ (1 + i * 2 + 1) (.int .u64 t)
  have hs := slV_set sl i ⟨(sl.getD i Sp.sl0).pid, t⟩
  have ha := (slV_at sl i (by have := h.len; omega)).1
  have hself : (sl.flatMap slV).set (i * 2) (.int .i64 (sl.getD i Sp.sl0).pid) = sl.flatMap slV := by
    apply List.ext_getElem?
    intro k
    rw [List.getElem?_set]
    split
    · rename_i hk
      subst hk
      rw [ha, if_pos (List.getElem?_eq_some_iff.1 ha).1]
    · rfl
  rw [hself] at hs
  rw [List.setIfInBounds_toArray, lkV, show 1 + i * 2 + 1 = i * 2 + 1 + 1 by omega, List.set_cons_succ, hs] at e
  rw [show 1 + i * 2 + 1 = i * 2 + 1 + 1 by omega]
  exact e
set_option maxRecDepth 100000 in
set_option maxHeartbeats 1600000 in
theorem lockNew_any (w : World) : Calls Tryz.prog 10 #[] w fun e w' => e = .returned (.pointer (some ⟨w.heap.size, 0, none⟩)) ∧ LockAt w' w.heap.size 0 (List.replicate 8 Sp.sl0) ∧ Below w.heap.size w w' := by
  go_enter Tryz.func10, Tryz.ntmps10
  go_wp2_with fail
  go_ret
  exact ⟨rfl, ⟨Blk.new w _ _, rfl⟩, (Below.refl _ _).alloc (Nat.le_refl _) _⟩
set_option maxRecDepth 100000 in
set_option maxHeartbeats 1600000 in
theorem lkOwn_any (l : Nat) (wr : Int) (sl : List Sp.Sl) (slot pid : Int) (w : World) (hl : LockAt w l wr sl) :
    Calls Tryz.prog 55 #[.pointer (some ⟨l, 0, none⟩), .int .i64 slot, .int .i64 pid] w fun e w' => e = .returned (.bool (Sp.owns sl slot pid)) ∧ w = w' := by
  by_cases h0 : 0 ≤ slot
  · obtain ⟨i, rfl⟩ := Int.eq_ofNat_of_zero_le h0
    by_cases h8 : i < 8
    · have h8' : (i : Int) < 8 := by omega
      by_cases hp : 0 < pid
      · have c0 := hl.pid h8
        have HV := Lib.hid (show Sp.owns sl i pid = ((sl.getD i Sp.sl0).pid == pid) by unfold Sp.owns; simp [h8', hp]; rfl)
        rw [HV.out]
        clear hl HV
        go_enter Tryz.func55, Tryz.ntmps55
        go_wp2_with fail
        go_ret
        exact ⟨rfl, rfl⟩
      · have HV := Lib.hid (show Sp.owns sl i pid = false by unfold Sp.owns; simp [hp])
        rw [HV.out]
        clear hl
        go_enter Tryz.func55, Tryz.ntmps55
        go_wp2_with fail
        go_ret
        exact ⟨rfl, rfl⟩
    · have h8' : ¬ (i : Int) < 8 := by omega
      have HV := Lib.hid (show Sp.owns sl i pid = false by unfold Sp.owns; simp [h8'])
      rw [HV.out]
      clear hl
      go_enter Tryz.func55, Tryz.ntmps55
      go_wp2_with fail
      go_ret
      exact ⟨rfl, rfl⟩
  · have HV := Lib.hid (show Sp.owns sl slot pid = false by unfold Sp.owns; simp [h0])
    rw [HV.out]
    clear hl
    go_enter Tryz.func55, Tryz.ntmps55
    go_wp2_with fail
    go_ret
    exact ⟨rfl, rfl⟩
end Go.Proofs.YtmcpkhknjdiocaaGreatDoor
namespace Go.Proofs.YtmcpkhknjdiocaaGreatDoor
open Go.RowKit
attribute [local go_sem low] mk_extract
attribute [local go_sem] After.cell After.frozen mk_extract_end ByteArray.mk_append_mk
namespace Sp
/-- What publishing leaves, what freeing leaves. -/
def publish (sl : List Sl) (slot pid txn : Int) : List Sl := if owns sl slot pid then sl.set slot.toNat ⟨(sl.getD slot.toNat sl0).pid, txn⟩ else sl
def freeSl (sl : List Sl) (slot pid : Int) : List Sl := if owns sl slot pid then sl.set slot.toNat sl0 else sl
theorem owns_lt {sl : List Sl} {slot pid : Int} (h : owns sl slot pid = true) : ∃ i : Nat, slot = (i : Int) ∧ i < 8 ∧ 0 < pid ∧ (sl.getD i sl0).pid = pid := by
  unfold owns at h
  obtain ⟨h0, h8, hp, he⟩ := of_decide_eq_true h
  exact ⟨slot.toNat, by omega, by omega, hp, he⟩
end Sp
/-- nil, or an error. -/
def erV (n : Option Int) : Value := match n with | none => .nilIface | some k => .iface ErrT (.int .i64 k)
set_option maxRecDepth 100000 in
set_option maxHeartbeats 1600000 in
theorem publish_any (l : Nat) (wr : Int) (sl : List Sp.Sl) (slot pid txn : Int) (w : World) (hl : LockAt w l wr sl) :
    Calls Tryz.prog 87 #[.pointer (some ⟨l, 0, none⟩), .int .i64 slot, .int .i64 pid, .int .u64 txn] w fun e w' => e = .returned (erV (if Sp.owns sl slot pid then none else some 18)) ∧ LockAt w' l wr (Sp.publish sl slot pid txn) ∧ Chg (OneM l) w w' := by
  rcases hb : Sp.owns sl slot pid with _ | _
  · have HV := Lib.hid (show Sp.publish sl slot pid txn = sl by unfold Sp.publish; rw [hb]; rfl)
    have HB := Lib.hid hb
    have HL := Lib.hid hl
    clear hb hl
    go_enter Tryz.func87, Tryz.ntmps87
    go_wp2_with (go_at_call 55; refine (lkOwn_any l wr sl slot pid _ HL.out).mono ?_; rintro e w2 ⟨rfl, rfl⟩; rw [HB.out])
    go_ret
    exact ⟨rfl, by rw [HV.out]; exact HL.out, Chg.refl _ _⟩
  · obtain ⟨i, rfl, hi, hp, he⟩ := Sp.owns_lt hb
    have HV := Lib.hid (show Sp.publish sl i pid txn = sl.set i ⟨(sl.getD i Sp.sl0).pid, txn⟩ by unfold Sp.publish; rw [hb]; rfl)
    have HB := Lib.hid hb
    have HL := Lib.hid hl
    have c1 := hl.txn hi
    have f1 := hl.bl.frozen (1 + i * 2 + 1)
    have hi' : (i : Int) < 8 := by omega
    clear hb hl
    go_enter Tryz.func87, Tryz.ntmps87
    go_wp2_with (go_at_call 55; refine (lkOwn_any l wr sl i pid _ HL.out).mono ?_; rintro e w2 ⟨rfl, rfl⟩; rw [HB.out])
    go_ret
    exact ⟨rfl, by rw [HV.out]; exact HL.out.put1 i txn hi, Chg.set1 _ _ _ _⟩
set_option maxRecDepth 100000 in
set_option maxHeartbeats 1600000 in
theorem freeSl_any (l : Nat) (wr : Int) (sl : List Sp.Sl) (slot pid : Int) (w : World) (hl : LockAt w l wr sl) :
    Calls Tryz.prog 19 #[.pointer (some ⟨l, 0, none⟩), .int .i64 slot, .int .i64 pid] w fun e w' => e = .returned (erV (if Sp.owns sl slot pid then none else some 18)) ∧ LockAt w' l wr (Sp.freeSl sl slot pid) ∧ Chg (OneM l) w w' := by
  rcases hb : Sp.owns sl slot pid with _ | _
  · have HV := Lib.hid (show Sp.freeSl sl slot pid = sl by unfold Sp.freeSl; rw [hb]; rfl)
    have HB := Lib.hid hb
    have HL := Lib.hid hl
    clear hb hl
    go_enter Tryz.func19, Tryz.ntmps19
    go_wp2_with (go_at_call 55; refine (lkOwn_any l wr sl slot pid _ HL.out).mono ?_; rintro e w2 ⟨rfl, rfl⟩; rw [HB.out])
    go_ret
    exact ⟨rfl, by rw [HV.out]; exact HL.out, Chg.refl _ _⟩
  · obtain ⟨i, rfl, hi, hp, he⟩ := Sp.owns_lt hb
    have HV := Lib.hid (show Sp.freeSl sl i pid = sl.set i Sp.sl0 by unfold Sp.freeSl; rw [hb]; rfl)
    have HB := Lib.hid hb
    have HL := Lib.hid hl
    have c0 := hl.pid hi
    have f0 := hl.bl.frozen (1 + i * 2)
    have c1 := hl.txn hi
    have f1 := hl.bl.frozen (1 + i * 2 + 1)
    have hi' : (i : Int) < 8 := by omega
    clear hb hl
    go_enter Tryz.func19, Tryz.ntmps19
    go_wp2_with (go_at_call 55; refine (lkOwn_any l wr sl i pid _ HL.out).mono ?_; rintro e w2 ⟨rfl, rfl⟩; rw [HB.out])
    go_ret
    exact ⟨rfl, by rw [HV.out]; exact HL.out.put i Sp.sl0, (Chg.set1 _ _ _ _).trans (Chg.set1 _ _ _ _)⟩
theorem info_slot : (Tryz.prog.info? 35).map (fun i => (i.zero, i.size, i.bytes)) = some (some (.agg #[.int .i64 0, .int .u64 0]), 2, 16) := by kernel_rfl
set_option maxRecDepth 100000 in
set_option maxHeartbeats 1600000 in
theorem slots_any (l : Nat) (wr : Int) (sl : List Sp.Sl) (w : World) (hl : LockAt w l wr sl) :
    Calls Tryz.prog 50 #[.pointer (some ⟨l, 0, none⟩)] w fun e w' => ∃ g cap, e = .returned (.slice (some ⟨g, 0, none⟩) 8 cap) ∧ w'.ownsRow w.heap.size SlotT 2 (.slice (some ⟨g, 0, none⟩) 8 cap) 8 (sl.flatMap slV) ∧ Below w.heap.size w w' := by
  obtain ⟨i0, hi0, hz0, hz1, hz2⟩ := info_parts info_slot
  have HL := Lib.hid hl
  clear hl
  go_enter Tryz.func50, Tryz.ntmps50
  go_wp2_with (at_builtin; refine wpList_append_own _ rfl _ _ 104 rfl w.heap.size SlotT i0 _ 2 16 Tryz.underlying104 hi0 hz0 hz1 hz2 rfl (by decide) _ 0 [] rfl (World.ownsRow_nil _ _ _ _) ⟨l, 1, none⟩ 8 8 (sl.flatMap slV) rfl ?c6 ?c1 ?c2 ?c3 ?c4 ?c5 ?_)
  case c6 => rw [slV_len, HL.out.len]
  case c1 =>
    intro j u hu
    have := HL.out.bl.cell (1 + j)
    rw [Go.WideShapes.add_plain]
    refine this.trans ?_
    rw [List.getElem?_toArray, lkV, Nat.add_comm 1, List.getElem?_cons_succ]
    exact hu
  case c2 =>
    intro u hu
    obtain ⟨s, _, hs⟩ := List.mem_flatMap.1 hu
    simp only [slV, List.mem_cons, List.not_mem_nil, or_false] at hs
    rcases hs with rfl | rfl <;> rfl
  case c3 => simp [maxLen]
  case c4 => simp
  case c5 => exact Nat.le_refl _
  intro v' w' hown' hgr' hnil
  obtain ⟨g, cap, rfl⟩ : ∃ g cap, v' = .slice (some ⟨g, 0, none⟩) 8 cap := by
    rcases hown'.2 with ⟨h, _⟩ | ⟨g, cap, cur, h, _⟩
    · simp [h] at hnil
    · exact ⟨g, cap, h⟩
  have hb2 : Below w.heap.size w w' := Chg.to_below (Chg.of_grown hgr' (fun k hk => by simp [Value.ownBlock] at hk))
  have HB := Lib.hid hb2
  have HO := Lib.hid hown'
  clear hown' hgr' hb2 hnil
  go_wp2_with fail
  go_ret
  exact ⟨g, cap, rfl, HO.out, HB.out⟩
end Go.Proofs.YtmcpkhknjdiocaaGreatDoor
namespace Go.Proofs.YtmcpkhknjdiocaaGreatDoor
open Go.RowKit Go.Conc
section
variable {P : Program} {ops : Array Oper} {Q : Exit → Act → World → Prop} {a : Act} {w w' : World} {i : Nat} {rest : List Nat} {o : Oper}
/-- From these operations of a region on the statement comes to an end of which Q holds. -/
def InReg (P : Program) (ops : Array Oper) (Q : Exit → Act → World → Prop) (l : List Nat) (a : Act) (w : World) : Prop :=
  ∀ (b : Frame) (k : List Item) (cs : List Frame), ∃ e a' w', Q e a' w' ∧ Arrives P (lone (b.at a (.inRegion ops l :: k)) cs w) b k cs e a' w'
theorem InReg.region {id : Nat} (h : InReg P ops Q (List.range ops.size) a w) : (Code.region id ops false).wp P Q a w :=
  fun b k cs => let ⟨e, a', w', q, r⟩ := h b k cs; ⟨e, a', w', q, .of_steps (.one step_region) r⟩
theorem InReg.nil (h : Q .normal a w) : InReg P ops Q [] a w := fun _ _ _ => ⟨.normal, a, w, h, .one step_region_end⟩
theorem finish_put (ho : ops[i]? = some o) (b : Frame) (k : List Item) (v : Value) : (b.at a (.inRegion ops (i :: rest) :: k)).finish v = b.at (a.put o.dst v) (.inRegion ops rest :: k) := by
  rw [Frame.finish_at, ho]
  rfl
theorem InReg.val {v : Value} (ho : ops[i]? = some o) (hw : Region.wanted o (yielded ops a.tmps) = true) (hr : (execOp a.eval o).run P w = .ok (.value v) w') (h : InReg P ops Q rest (a.put o.dst v) w') : InReg P ops Q (i :: rest) a w := fun b k cs => by
  obtain ⟨e, a', w'', hq, harr⟩ := h b k cs
  refine ⟨e, a', w'', hq, .of_steps (.one (step_lone_go ?_)) harr⟩
  rw [stepG_op (b := b) (k := k) (cs := cs) (w := w) (rest := rest) ho hw, ← finish_put ho]
  simp [stepG.apply, hr]
theorem stepG_comm' {b : Frame} {k : List Item} {cs : List Frame} {cases : Array CommCase} {blocking : Bool} {shape : CommShape} (ho : ops[i]? = some o) (hw : Region.wanted o (yielded ops a.tmps) = true)
    (hr : (execOp a.eval o).run P w = .ok (.comm cases blocking shape) w') :
    ∃ es, stepG P true (G (b.at a (.inRegion ops (i :: rest) :: k)) cs) w = .comm (G (b.at a (.inRegion ops (i :: rest) :: k)) cs) cases blocking shape w' es := by
  rw [Go.Conc.stepG_oper ho hw]
  by_cases hk : b.kind = .early
  · have hk' : (b.kind == CallKind.early) = true := by simpa using hk
    exact ⟨_, by simp [stepG.apply, hr, G, Frame.at, hk', GStep.after]; rfl⟩
  · have hk' : (b.kind == CallKind.early) = false := by simpa using hk
    exact ⟨_, by simp [stepG.apply, hr, G, Frame.at, hk', GStep.after]; rfl⟩
/-- A send into a buffer with room. -/
theorem InReg.send {c cap s r : Nat} {buf : Array Value} {v z : Value} {tm : Bool} (ho : ops[i]? = some o) (hw : Region.wanted o (yielded ops a.tmps) = true) (hr : (execOp a.eval o).run P w = .ok (.comm #[scase c v z] true .send) w')
    (hc : w'.heap[c]? = some (.chan cap buf false s r tm)) (hroom : buf.size < cap) (h : InReg P ops Q rest (a.put o.dst undef) (w'.setChan c cap (buf.push v) false (s + 1) r tm)) : InReg P ops Q (i :: rest) a w := fun b k cs => by
  obtain ⟨e, a', w'', hq, harr⟩ := h b k cs
  obtain ⟨es, hs⟩ := stepG_comm' (b := b) (k := k) (cs := cs) (rest := rest) ho hw hr
  have hst := step_lone_send_room hs hc hroom
  rw [finish_put ho] at hst
  exact ⟨e, a', w'', hq, .of_steps (.one hst) harr⟩
/-- A select of one receive with a default: the buffer holds something. -/
theorem InReg.recv {c cap s r : Nat} {buf : Array Value} {z : Value} {tm closed : Bool} (ho : ops[i]? = some o) (hw : Region.wanted o (yielded ops a.tmps) = true) (hr : (execOp a.eval o).run P w = .ok (.comm #[rcase c z] false .select) w')
    (hc : w'.heap[c]? = some (.chan cap buf closed s r tm)) (hsome : 0 < buf.size) (h : InReg P ops Q rest (a.put o.dst (.tuple #[goInt 0, .bool true, buf.getD 0 undef])) (w'.setChan c cap (buf.extract 1 buf.size) closed s (r + 1) tm)) : InReg P ops Q (i :: rest) a w := fun b k cs => by
  obtain ⟨e, a', w'', hq, harr⟩ := h b k cs
  obtain ⟨es, hs⟩ := stepG_comm' (b := b) (k := k) (cs := cs) (rest := rest) ho hw hr
  have hst := step_lone_sel_recv_buf (k := 0) (z := z) hs rfl (fun m c' hm hc' => by
    rcases m with _ | m
    · exact absurd rfl hm
    · simp at hc') hc hsome
  have hcr : commResult #[rcase c z] .select ((0 : Nat) : Int) (buf.getD 0 undef) true = .tuple #[goInt 0, .bool true, buf.getD 0 undef] := by
    simp [commResult, rcase, List.zipIdx_cons]
  rw [hcr, finish_put ho] at hst
  exact ⟨e, a', w'', hq, .of_steps (.one hst) harr⟩
/-- A select of one receive with a default: the buffer is empty. -/
theorem InReg.default {c cap s r : Nat} {z : Value} {tm : Bool} (ho : ops[i]? = some o) (hw : Region.wanted o (yielded ops a.tmps) = true) (hr : (execOp a.eval o).run P w = .ok (.comm #[rcase c z] false .select) w')
    (hc : w'.heap[c]? = some (.chan cap #[] false s r tm)) (h : InReg P ops Q rest (a.put o.dst (.tuple #[goInt (-1), .bool false, z])) w') : InReg P ops Q (i :: rest) a w := fun b k cs => by
  obtain ⟨e, a', w'', hq, harr⟩ := h b k cs
  obtain ⟨es, hs⟩ := stepG_comm' (b := b) (k := k) (cs := cs) (rest := rest) ho hw hr
  have hst := step_lone_select_default hs hc
  rw [finish_put ho] at hst
  exact ⟨e, a', w'', hq, .of_steps (.one hst) harr⟩
end
end Go.Proofs.YtmcpkhknjdiocaaGreatDoor
namespace Go.Proofs.YtmcpkhknjdiocaaGreatDoor
open Go.RowKit
attribute [local go_sem low] mk_extract
attribute [local go_sem] After.cell After.frozen mk_extract_end ByteArray.mk_append_mk
set_option maxRecDepth 100000 in
set_option maxHeartbeats 1600000 in
theorem read1 (s : Txt) (w : World) (hs : s.length ≤ 4611686018427387904) (HS0 : Hid (s = [])) :
    Calls Tryz.prog 152 #[.string ⟨s.toArray⟩] w fun e w' => ∃ r, e = .returned (readV s r) ∧ (∀ M : Nat → Prop, (∀ k, w.heap.size ≤ k → ¬ M k) → PageRd w' M (readPg s) r) ∧ Below w.heap.size w w' := by
  have H0 := Lib.hid (Sp.Cut.u64_len ⟨s, false⟩)
  go_enter Tryz.func152, Tryz.ntmps152
  go_wp2_with (go_at_call 175; refine (cutNew_any s _).mono ?_; rintro e w1 ⟨rfl, hw1⟩)
  have B0 := Lib.hid (((Blk.new w PageT (zPage 0)).alloc (.cells #[.string ⟨s.toArray⟩, badV false] 274)).alloc (.cells #[.pointer (some ⟨w.heap.size + 1, 0, none⟩)] 270))
  have C0 := Lib.hid ((blk_second w (.cells (zPage 0) PageT) 274 #[.string ⟨s.toArray⟩, badV false]).alloc (.cells #[.pointer (some ⟨w.heap.size + 1, 0, none⟩)] 270))
  have R0 := Lib.hid (Blk.new ((w.alloc (.cells (zPage 0) PageT)).alloc (.cells #[.string ⟨s.toArray⟩, badV false] 274)) 270 #[.pointer (some ⟨w.heap.size + 1, 0, none⟩)])
  have K0 := Lib.hid ((((Chg.refl (OneM (w.heap.size + 1)) w).alloc (.cells (zPage 0) PageT)).alloc (.cells #[.string ⟨s.toArray⟩, badV false] 274)).alloc (.cells #[.pointer (some ⟨w.heap.size + 1, 0, none⟩)] 270))
  refine (cutNum_any (w.heap.size + 1) s false _ hs C0.out).mono ?_
  rintro e w1 ⟨rfl, hc1, hk1⟩
  have hz1 := hk1.size
  simp only [World.size_alloc] at hz1
  have B1 := Lib.hid (B0.out.chg hk1 (by unfold OneM; omega))
  have R1 := Lib.hid (R0.out.chg hk1 (by unfold OneM; simp))
  have r1 := R1.out.at1
  simp only [World.size_alloc] at r1
  have K1 := Lib.hid (K0.out.trans hk1)
  have C1 := Lib.hid (show CutAt w1 (w.heap.size + 1) (Sp.Cut.u64 ⟨s, false⟩).2.s (Sp.Cut.u64 ⟨s, false⟩).2.bad from hc1)
  clear hc1 hk1
  go_wp2_with fail
  refine (rdPage_any (w.heap.size + 1) (Sp.Cut.u64 ⟨s, false⟩).2 _ (Nat.le_trans H0.out hs) C1.out).mono ?_
  rintro e w2 ⟨r, rfl, hp, hc2, hk2⟩
  rw [show (Sp.Cut.u64 ⟨s, false⟩).2.page.1 = Sp.parse s from rfl] at *
  have hz2 := hk2.size
  have K2 := Lib.hid (K1.out.trans hk2)
  have B2 := Lib.hid (B1.out.chg hk2 (by unfold OneM; omega))
  have HP := Lib.hid (fun M h => (hp M h).chg ((Chg.refl M w2).alloc (.cells (pageV (Sp.parse s) r).toArray PageT)))
  have HO := Lib.hid (show Sp.readOk s = (decide (s ≠ []) && decide (Sp.bytes (Sp.parse s) = s)) from rfl)
  have HRV := Lib.hid (show readV s = fun r => if Sp.readOk s then .tuple #[.agg (pageV (Sp.parse s) r).toArray, .nilIface] else .tuple #[.agg (pageV Sp.pg0 r).toArray, .iface 120 (.int .i64 12)] from rfl)
  have HRP := Lib.hid (show readPg s = if Sp.readOk s then Sp.parse s else Sp.pg0 from rfl)
  have hs0 := HS0.out
  have hok : Sp.readOk s = false := by unfold Sp.readOk; simp [hs0]
  have HOK := Lib.hid hok
  clear hok
  clear HS0
  subst hs0
  have hsz2 : w.heap.size < w2.heap.size := by omega
  have hq0 := hp
  generalize Sp.parse [] = p at *
  have B3 := Lib.hid (B2.out.alloc (.cells #[.int .i64 p.kind, .slice r.I p.items.length r.i, .slice r.K p.keys.length r.k, .slice r.D p.kids.length r.d, .string ⟨p.text.toArray⟩, .slice r.V p.vals.length r.v, .slice r.F p.free.length r.f, .int .i64 p.next, .int .u64 p.mt.txn, .int .i64 p.mt.main.page, .int .i64 p.mt.main.count, .int .i64 p.mt.main.flags, .int .i64 p.mt.free, .int .i64 p.mt.last] PageT))
  have P3 := Lib.hid (Blk.new w2 PageT #[.int .i64 p.kind, .slice r.I p.items.length r.i, .slice r.K p.keys.length r.k, .slice r.D p.kids.length r.d, .string ⟨p.text.toArray⟩, .slice r.V p.vals.length r.v, .slice r.F p.free.length r.f, .int .i64 p.next, .int .u64 p.mt.txn, .int .i64 p.mt.main.page, .int .i64 p.mt.main.count, .int .i64 p.mt.main.flags, .int .i64 p.mt.free, .int .i64 p.mt.last])
  have K3 := Lib.hid (K2.out.alloc (.cells #[.int .i64 p.kind, .slice r.I p.items.length r.i, .slice r.K p.keys.length r.k, .slice r.D p.kids.length r.d, .string ⟨p.text.toArray⟩, .slice r.V p.vals.length r.v, .slice r.F p.free.length r.f, .int .i64 p.next, .int .u64 p.mt.txn, .int .i64 p.mt.main.page, .int .i64 p.mt.main.count, .int .i64 p.mt.main.flags, .int .i64 p.mt.free, .int .i64 p.mt.last] PageT))
  have HP := Lib.hid (fun M h => (hp M h).chg ((Chg.refl M w2).alloc (.cells #[.int .i64 p.kind, .slice r.I p.items.length r.i, .slice r.K p.keys.length r.k, .slice r.D p.kids.length r.d, .string ⟨p.text.toArray⟩, .slice r.V p.vals.length r.v, .slice r.F p.free.length r.f, .int .i64 p.next, .int .u64 p.mt.txn, .int .i64 p.mt.main.page, .int .i64 p.mt.main.count, .int .i64 p.mt.main.flags, .int .i64 p.mt.free, .int .i64 p.mt.last] PageT)))
  have hsz3 : w2.heap.size < (w2.alloc (.cells #[.int .i64 p.kind, .slice r.I p.items.length r.i, .slice r.K p.keys.length r.k, .slice r.D p.kids.length r.d, .string ⟨p.text.toArray⟩, .slice r.V p.vals.length r.v, .slice r.F p.free.length r.f, .int .i64 p.next, .int .u64 p.mt.txn, .int .i64 p.mt.main.page, .int .i64 p.mt.main.count, .int .i64 p.mt.main.flags, .int .i64 p.mt.free, .int .i64 p.mt.last] PageT)).heap.size := by simp
  clear hp hq0 hc2 hk2 B2 K2
  simp only [pageV, mtV]
  go_upto_region 4 with fail
  generalize w2.alloc (.cells #[.int .i64 p.kind, .slice r.I p.items.length r.i, .slice r.K p.keys.length r.k, .slice r.D p.kids.length r.d, .string ⟨p.text.toArray⟩, .slice r.V p.vals.length r.v, .slice r.F p.free.length r.f, .int .i64 p.next, .int .u64 p.mt.txn, .int .i64 p.mt.main.page, .int .i64 p.mt.main.count, .int .i64 p.mt.main.flags, .int .i64 p.mt.free, .int .i64 p.mt.last] PageT) = w3 at *
  obtain ⟨⟨za, zb, zc, zd, ze, zf, zg, zh, zi, zj, zk, zl, zm, zn⟩, qa, qb, qc, qd, qe, qf, qg, qh, qi, qj, qk, ql, qm, qn⟩ := B3.out.at14
  clear B3 P3
  go_wp2
  refine bodyPost_ret (v := .tuple #[.agg (pageV Sp.pg0 refs0).toArray, .iface 120 (.int .i64 12)]) (by simp [results, Tryz.results152, go_sem, za, zb, zc, zd, ze, zf, zg, zh, zi, zj, zk, zl, zm, zn, qa, qb, qc, qd, qe, qf, qg, qh, qi, qj, qk, ql, qm, qn, pageV, mtV, Sp.pg0, Sp.mt0, Sp.root0, refs0]) rfl ⟨refs0, by simp [readV, HOK.out], fun M hM => by unfold readPg; rw [HOK.out]; exact pageRd0 _ _ _, ?_⟩
  refine Chg.below (S := OneM (w.heap.size + 1)) ?_ (Nat.le_refl _) (fun k hk e => by unfold OneM at e; omega)
  iterate 14 (refine Chg.setCell ?_ (.inr (by simp only; omega)) _)
  exact K3.out
end Go.Proofs.YtmcpkhknjdiocaaGreatDoor
namespace Go.Proofs.YtmcpkhknjdiocaaGreatDoor
open Go.RowKit
attribute [local go_sem low] mk_extract
attribute [local go_sem] After.cell After.frozen mk_extract_end ByteArray.mk_append_mk
set_option maxRecDepth 100000 in
set_option maxHeartbeats 1600000 in
theorem read2 (b0 : UInt8) (s0 s : Txt) (w : World) (hs : s.length ≤ 4611686018427387904) (HS0 : Hid (s = b0 :: s0)) (HBB : Hid (Sp.bytes (Sp.parse s) ≠ s)) :
    Calls Tryz.prog 152 #[.string ⟨s.toArray⟩] w fun e w' => ∃ r, e = .returned (readV s r) ∧ (∀ M : Nat → Prop, (∀ k, w.heap.size ≤ k → ¬ M k) → PageRd w' M (readPg s) r) ∧ Below w.heap.size w w' := by
  have H0 := Lib.hid (Sp.Cut.u64_len ⟨s, false⟩)
  go_enter Tryz.func152, Tryz.ntmps152
  go_wp2_with (go_at_call 175; refine (cutNew_any s _).mono ?_; rintro e w1 ⟨rfl, hw1⟩)
  have B0 := Lib.hid (((Blk.new w PageT (zPage 0)).alloc (.cells #[.string ⟨s.toArray⟩, badV false] 274)).alloc (.cells #[.pointer (some ⟨w.heap.size + 1, 0, none⟩)] 270))
  have C0 := Lib.hid ((blk_second w (.cells (zPage 0) PageT) 274 #[.string ⟨s.toArray⟩, badV false]).alloc (.cells #[.pointer (some ⟨w.heap.size + 1, 0, none⟩)] 270))
  have R0 := Lib.hid (Blk.new ((w.alloc (.cells (zPage 0) PageT)).alloc (.cells #[.string ⟨s.toArray⟩, badV false] 274)) 270 #[.pointer (some ⟨w.heap.size + 1, 0, none⟩)])
  have K0 := Lib.hid ((((Chg.refl (OneM (w.heap.size + 1)) w).alloc (.cells (zPage 0) PageT)).alloc (.cells #[.string ⟨s.toArray⟩, badV false] 274)).alloc (.cells #[.pointer (some ⟨w.heap.size + 1, 0, none⟩)] 270))
  refine (cutNum_any (w.heap.size + 1) s false _ hs C0.out).mono ?_
  rintro e w1 ⟨rfl, hc1, hk1⟩
  have hz1 := hk1.size
  simp only [World.size_alloc] at hz1
  have B1 := Lib.hid (B0.out.chg hk1 (by unfold OneM; omega))
  have R1 := Lib.hid (R0.out.chg hk1 (by unfold OneM; simp))
  have r1 := R1.out.at1
  simp only [World.size_alloc] at r1
  have K1 := Lib.hid (K0.out.trans hk1)
  have C1 := Lib.hid (show CutAt w1 (w.heap.size + 1) (Sp.Cut.u64 ⟨s, false⟩).2.s (Sp.Cut.u64 ⟨s, false⟩).2.bad from hc1)
  clear hc1 hk1
  go_wp2_with fail
  refine (rdPage_any (w.heap.size + 1) (Sp.Cut.u64 ⟨s, false⟩).2 _ (Nat.le_trans H0.out hs) C1.out).mono ?_
  rintro e w2 ⟨r, rfl, hp, hc2, hk2⟩
  rw [show (Sp.Cut.u64 ⟨s, false⟩).2.page.1 = Sp.parse s from rfl] at *
  have hz2 := hk2.size
  have K2 := Lib.hid (K1.out.trans hk2)
  have B2 := Lib.hid (B1.out.chg hk2 (by unfold OneM; omega))
  have HP := Lib.hid (fun M h => (hp M h).chg ((Chg.refl M w2).alloc (.cells (pageV (Sp.parse s) r).toArray PageT)))
  have HO := Lib.hid (show Sp.readOk s = (decide (s ≠ []) && decide (Sp.bytes (Sp.parse s) = s)) from rfl)
  have HRV := Lib.hid (show readV s = fun r => if Sp.readOk s then .tuple #[.agg (pageV (Sp.parse s) r).toArray, .nilIface] else .tuple #[.agg (pageV Sp.pg0 r).toArray, .iface 120 (.int .i64 12)] from rfl)
  have HRP := Lib.hid (show readPg s = if Sp.readOk s then Sp.parse s else Sp.pg0 from rfl)
  have hs0 := HS0.out
  have hok : Sp.readOk s = decide (Sp.bytes (Sp.parse s) = s) := by unfold Sp.readOk; simp [hs0]
  have HOK := Lib.hid hok
  clear hok
  clear HS0
  subst hs0
  have hsz2 : w.heap.size < w2.heap.size := by omega
  have hq0 := hp
  generalize Sp.parse (b0 :: s0) = p at *
  have B3 := Lib.hid (B2.out.alloc (.cells #[.int .i64 p.kind, .slice r.I p.items.length r.i, .slice r.K p.keys.length r.k, .slice r.D p.kids.length r.d, .string ⟨p.text.toArray⟩, .slice r.V p.vals.length r.v, .slice r.F p.free.length r.f, .int .i64 p.next, .int .u64 p.mt.txn, .int .i64 p.mt.main.page, .int .i64 p.mt.main.count, .int .i64 p.mt.main.flags, .int .i64 p.mt.free, .int .i64 p.mt.last] PageT))
  have P3 := Lib.hid (Blk.new w2 PageT #[.int .i64 p.kind, .slice r.I p.items.length r.i, .slice r.K p.keys.length r.k, .slice r.D p.kids.length r.d, .string ⟨p.text.toArray⟩, .slice r.V p.vals.length r.v, .slice r.F p.free.length r.f, .int .i64 p.next, .int .u64 p.mt.txn, .int .i64 p.mt.main.page, .int .i64 p.mt.main.count, .int .i64 p.mt.main.flags, .int .i64 p.mt.free, .int .i64 p.mt.last])
  have K3 := Lib.hid (K2.out.alloc (.cells #[.int .i64 p.kind, .slice r.I p.items.length r.i, .slice r.K p.keys.length r.k, .slice r.D p.kids.length r.d, .string ⟨p.text.toArray⟩, .slice r.V p.vals.length r.v, .slice r.F p.free.length r.f, .int .i64 p.next, .int .u64 p.mt.txn, .int .i64 p.mt.main.page, .int .i64 p.mt.main.count, .int .i64 p.mt.main.flags, .int .i64 p.mt.free, .int .i64 p.mt.last] PageT))
  have HP := Lib.hid (fun M h => (hp M h).chg ((Chg.refl M w2).alloc (.cells #[.int .i64 p.kind, .slice r.I p.items.length r.i, .slice r.K p.keys.length r.k, .slice r.D p.kids.length r.d, .string ⟨p.text.toArray⟩, .slice r.V p.vals.length r.v, .slice r.F p.free.length r.f, .int .i64 p.next, .int .u64 p.mt.txn, .int .i64 p.mt.main.page, .int .i64 p.mt.main.count, .int .i64 p.mt.main.flags, .int .i64 p.mt.free, .int .i64 p.mt.last] PageT)))
  have hsz3 : w2.heap.size < (w2.alloc (.cells #[.int .i64 p.kind, .slice r.I p.items.length r.i, .slice r.K p.keys.length r.k, .slice r.D p.kids.length r.d, .string ⟨p.text.toArray⟩, .slice r.V p.vals.length r.v, .slice r.F p.free.length r.f, .int .i64 p.next, .int .u64 p.mt.txn, .int .i64 p.mt.main.page, .int .i64 p.mt.main.count, .int .i64 p.mt.main.flags, .int .i64 p.mt.free, .int .i64 p.mt.last] PageT)).heap.size := by simp
  clear hp hq0 hc2 hk2 B2 K2
  have hb := HBB.out
  have hbq : (Sp.bytes p == b0 :: s0) = false := beq_eq_false_iff_ne.2 hb
  have HOK := Lib.hid (HOK.out.trans (decide_eq_false hb))
  simp only [pageV, mtV]
  go_upto_region 4 with fail
  generalize w2.alloc (.cells #[.int .i64 p.kind, .slice r.I p.items.length r.i, .slice r.K p.keys.length r.k, .slice r.D p.kids.length r.d, .string ⟨p.text.toArray⟩, .slice r.V p.vals.length r.v, .slice r.F p.free.length r.f, .int .i64 p.next, .int .u64 p.mt.txn, .int .i64 p.mt.main.page, .int .i64 p.mt.main.count, .int .i64 p.mt.main.flags, .int .i64 p.mt.free, .int .i64 p.mt.last] PageT) = w3 at *
  have hlw := P3.out.lt
  obtain ⟨⟨uua, uub, uuc, uud, uue, uuf, uug, uuh, uui, uuj, uuk, uul, uum, uun⟩, vva, vvb, vvc, vvd, vve, vvf, vvg, vvh, vvi, vvj, vvk, vvl, vvm, vvn⟩ := P3.out.at14
  go_wp2_with (go_at_call 178; refine (bytes_any (M := NoM) p r _ (HP.out _ (fun _ _ h => h))).mono ?_; rintro e w4 ⟨rfl, hb4⟩; have K4 := Lib.hid (Chg.trans K3.out (.of_below hb4)); have hz4 := hb4.size; have B4 := Lib.hid (B3.out.below hb4 B3.out.lt); have P4 := Lib.hid (P3.out.below hb4 P3.out.lt); have HP4 := Lib.hid (fun M h => (HP.out M h).chg (.of_below hb4)); obtain ⟨⟨za, zb, zc, zd, ze, zf, zg, zh, zi, zj, zk, zl, zm, zn⟩, qa, qb, qc, qd, qe, qf, qg, qh, qi, qj, qk, ql, qm, qn⟩ := B4.out.at14; obtain ⟨⟨xa, xb, xc, xd, xe, xf, xg, xh, xi, xj, xk, xl, xm, xn⟩, ya, yb, yc, yd, ye, yf, yg, yh, yi, yj, yk, yl, ym, yn⟩ := P4.out.at14; clear hb4 B3 P3 uua uub uuc uud uue uuf uug uuh uui uuj uuk uul uum uun vva vvb vvc vvd vve vvf vvg vvh vvi vvj vvk vvl vvm vvn)
  go_wp2
  refine bodyPost_ret (v := .tuple #[.agg (pageV Sp.pg0 refs0).toArray, .iface 120 (.int .i64 12)]) (by simp [results, Tryz.results152, go_sem, za, zb, zc, zd, ze, zf, zg, zh, zi, zj, zk, zl, zm, zn, qa, qb, qc, qd, qe, qf, qg, qh, qi, qj, qk, ql, qm, qn, pageV, mtV, Sp.pg0, Sp.mt0, Sp.root0, refs0]) rfl ⟨refs0, by simp [readV, HOK.out], fun M hM => by unfold readPg; rw [HOK.out]; exact pageRd0 _ _ _, ?_⟩
  refine Chg.below (S := OneM (w.heap.size + 1)) ?_ (Nat.le_refl _) (fun k hk e => by unfold OneM at e; omega)
  iterate 14 (refine Chg.setCell ?_ (.inr (by simp only; omega)) _)
  exact K4.out
end Go.Proofs.YtmcpkhknjdiocaaGreatDoor
