/- The document's reader: a step that looks again and is done. Printed by gen_lm.py. ReaderTells: a step of the document's reader; both readers, both files, both locks of the law. ReaderTells: both readers, both files, both locks of the law. -/
import Derived.Test.YtmcpkhknjdiocaaGreatDoorQB19
import Derived.Test.YtmcpkhknjdiocaaGreatDoorQB25
import Derived.Test.YtmcpkhknjdiocaaGreatDoorQB26
import Derived.Test.YtmcpkhknjdiocaaGreatDoorQB30
import Derived.Deep.MidRow
set_option linter.unusedSimpArgs false
set_option linter.unusedVariables false
namespace Go.Proofs.YtmcpkhknjdiocaaGreatDoor
open Go.RowKit
attribute [local go_sem low] mk_extract
attribute [local go_sem] After.cell After.frozen mk_extract_end ByteArray.mk_append_mk
set_option maxRecDepth 100000 in
set_option maxHeartbeats 1600000 in
theorem dStep4s_any (p l f : Nat) (r : Sp.Rdr) (wn : Int) (sl : List Sp.Sl) (V : List Txt) (w : World) (hr : DRdAt w p r) (hl : DLockAt w l wn sl) (hf : DfAt w f V) (hn4 : V.length ≤ 400) (hsz : ∀ s ∈ V, s.length ≤ 4611686018427387904) (hne : p ≠ l) (h1 : r.phase = 4) (he : (Sp.see r.most (Sp.atV V 0) (Sp.atV V 1)).2 = none) (hx : (Sp.see r.most (Sp.atV V 0) (Sp.atV V 1)).1.txn = r.mt.txn) :
    Calls Tryz.prog 22 #[.pointer (some ⟨p, 0, none⟩), .pointer (some ⟨f, 0, none⟩), .pointer (some ⟨l, 0, none⟩)] w fun e w' => e = .returned (.tuple #[.bool true, .int .i64 0]) ∧ DRdAt w' p { r with mt := (Sp.see r.most (Sp.atV V 0) (Sp.atV V 1)).1, phase := 0, err := none } ∧ DLockAt w' l wn sl ∧ Chg (fun k => k = p ∨ k = l) w w' := by
  have HC := Lib.hid (dSee_any f r.most V w hf hn4 hsz)
  generalize Sp.see r.most (Sp.atV V 0) (Sp.atV V 1) = sw at *
  obtain ⟨mm, er⟩ := sw
  dsimp only at *
  subst he
  have c2 : w.cell? ⟨p, 2, none⟩ = some (.int .i64 4) := by rw [← h1]; exact Blk.cell hr 2
  have c1 : w.cell? ⟨p, 1, none⟩ = some (.int .i64 r.most) := Blk.cell hr 1
  have hpw := Blk.lt hr
  have S := Lib.hid (DsS.start hr hl)
  clear hr hl hf
  have HX := Lib.hid hx
  clear hx
  go_enter Tryz.func22, Tryz.ntmps22
  go_upto_region 19 with (first
    | (go_at_call 58; refine HC.out.mono ?_; rintro e w2 ⟨rfl, hb2⟩; simp only [erN, Option.getD_none, Option.getD_some]; replace S := Lib.hid (S.out.go (hb2.mono (Nat.le_refl _))); clear hb2)
    | (refine wpList_new MetaT _ _ rfl rfl rfl rfl rfl rfl _ rfl (of_decide_eq_true (by kernel_rfl)) (by kernel_rfl) (by kernel_rfl) (by kernel_rfl) ?_))
  refine wp_gen (fun W => DmS w p l w2.heap.size wn r sl mm W) ⟨S.out.go ((Below.refl _ _).alloc (Nat.le_refl _) _), Blk.new w2 _ _⟩ ?_
  clear S HC c1 c2
  generalize w2.heap.size = k at *
  intro w3 hs3
  have S := Lib.hid hs3
  clear hs3
  have d2 : w3.cell? ⟨p, 2, none⟩ = some (.int .i64 r.phase) := Blk.cell S.out.s.rd 2
  have d4 : w3.cell? ⟨p, 4, none⟩ = some (.int .u64 mm.txn) := by rw [HX.out]; exact Blk.cell S.out.s.rd 4
  have d10 : w3.cell? ⟨p, 10, none⟩ = some (.int .i64 (erN r.err)) := Blk.cell S.out.s.rd 10
  have f2 := Blk.frozen S.out.s.rd 2
  have f10 := Blk.frozen S.out.s.rd 10
  go_upto_region 24 with fail
  refine wp_gen (fun W => DmS w p l k wn { r with phase := 3, err := none } sl mm W) ⟨(S.out.s.put (r' := { r with phase := 3 }) hne 2 (.int .i64 3) rfl).put (r' := { r with phase := 3, err := none }) hne 10 (.int .i64 0) rfl, (S.out.bo.far (p := ⟨p, 2, none⟩) (fun e => by have h8 := S.out.bo; subst e; exact Blk.not_ S.out.s.rd (by decide) _ h8) _).far (p := ⟨p, 10, none⟩) (fun e => by have h8 := S.out.bo; subst e; exact Blk.not_ S.out.s.rd (by decide) _ h8) _⟩ ?_
  have HKP := Lib.hid (show k ≠ p from fun e => by have h8 := S.out.bo; subst e; exact Blk.not_ S.out.s.rd (by decide) _ h8)
  clear S d2 d4 d10 f2 f10
  intro w4 hs4
  have S := Lib.hid hs4
  clear hs4
  have hbm : Blk w4 k MetaT #[.int .u64 mm.txn, .int .i64 mm.main.page, .int .i64 mm.main.count, .int .i64 mm.main.flags, .int .i64 mm.free, .int .i64 mm.last] := S.out.bo
  have k0 : w4.cell? ⟨k, 0, none⟩ = some (.int .u64 mm.txn) := hbm.cell 0
  have c4 : w4.cell? ⟨p, 4, none⟩ = some (.int .u64 mm.txn) := by rw [HX.out]; exact Blk.cell S.out.s.rd 4
  have f4 := Blk.frozen S.out.s.rd 4
  have c5 : w4.cell? ⟨p, 5, none⟩ = some (.int .i64 r.mt.main.page) := Blk.cell S.out.s.rd 5
  have f5 := Blk.frozen S.out.s.rd 5
  have c6 : w4.cell? ⟨p, 6, none⟩ = some (.int .i64 r.mt.main.count) := Blk.cell S.out.s.rd 6
  have f6 := Blk.frozen S.out.s.rd 6
  have c7 : w4.cell? ⟨p, 7, none⟩ = some (.int .i64 r.mt.main.flags) := Blk.cell S.out.s.rd 7
  have f7 := Blk.frozen S.out.s.rd 7
  have c8 : w4.cell? ⟨p, 8, none⟩ = some (.int .i64 r.mt.free) := Blk.cell S.out.s.rd 8
  have f8 := Blk.frozen S.out.s.rd 8
  have c9 : w4.cell? ⟨p, 9, none⟩ = some (.int .i64 r.mt.last) := Blk.cell S.out.s.rd 9
  have f9 := Blk.frozen S.out.s.rd 9
  have c2 : w4.cell? ⟨p, 2, none⟩ = some (.int .i64 3) := Blk.cell S.out.s.rd 2
  have f2 := Blk.frozen S.out.s.rd 2
  have HTH := Lib.hid (show w4.there p 4 6 from fun j hj => by
    refine ⟨?_, Blk.frozen S.out.s.rd (4 + j)⟩
    rw [Blk.cell S.out.s.rd (4 + j)]
    rcases (by omega : j = 0 ∨ j = 1 ∨ j = 2 ∨ j = 3 ∨ j = 4 ∨ j = 5) with rfl | rfl | rfl | rfl | rfl | rfl <;> rfl)
  go_upto_region 29 with (first
    | (refine wpList_row MetaT _ rfl k rfl rfl MetaT _ (0, 0) _ hbm Tryz.underlying49 rfl rfl ?_)
    | (refine wpList_store_mid rfl MetaT _ _ rfl p 4 (mtV mm).toArray rfl rfl HTH.out (by kernel_rfl) (by kernel_rfl) ?_
       refine wpList_gen (fun W => DsS w p l wn { r with mt := mm, phase := 3, err := none } sl W) (S.out.s.mt hne mm) ?_
       clear c2 c4 c5 c6 c7 c8 c9 f2 f4 f5 f6 f7 f8 f9 hbm k0 S
       intro w6 hs6
       have S := Lib.hid hs6
       have d2 : w6.cell? ⟨p, 2, none⟩ = some (.int .i64 3) := Blk.cell hs6.rd 2
       have f2 := Blk.frozen hs6.rd 2
       clear hs6))
  refine wp_gen (fun W => DsS w p l wn { r with mt := mm, phase := 0, err := none } sl W) (S.out.put (r' := { r with mt := mm, phase := 0, err := none }) hne 2 (.int .i64 0) rfl) ?_
  clear S d2 f2
  intro w5 hs8
  have S := Lib.hid hs8
  have d2 : w5.cell? ⟨p, 2, none⟩ = some (.int .i64 0) := Blk.cell hs8.rd 2
  clear hs8
  go_upto_region 31 with fail
  refine wp_gen (fun W => DsS w p l wn { r with mt := mm, phase := 0, err := none } sl W) (S.out) ?_
  clear S d2
  intro w8 hs8
  have S8 := Lib.hid hs8
  have z10 : w8.cell? ⟨p, 10, none⟩ = some (.int .i64 0) := by first | exact Blk.cell hs8.rd 10 | (rw [← hen]; exact Blk.cell hs8.rd 10)
  have hp := Blk.lt hs8.rd
  clear hs8
  refine wp_region_row (by kernel_rfl) (by kernel_rfl) ?_
  repeat (first | go_big_quiet_skip | go_big_quiet_step (fail))
  refine wpQuiet_nil ?_
  intro w9 hb9
  replace S8 := Lib.hid (S8.out.go hb9)
  clear hb9 z10
  go_wp2_with fail
  all_goals refine bodyPost_ret (v := .tuple #[.bool true, .int .i64 0]) (by simp [results, Tryz.results22, go_sem]) rfl ⟨rfl, S8.out.rd, S8.out.lk, S8.out.ck⟩
end Go.Proofs.YtmcpkhknjdiocaaGreatDoor
namespace Go.Proofs.YtmcpkhknjdiocaaGreatDoor
open Go.RowKit
attribute [local go_sem low] mk_extract
attribute [local go_sem] After.cell After.frozen mk_extract_end ByteArray.mk_append_mk
theorem Sp.see_err {most : Int} {a b : Txt} {n : Int} (h : (Sp.see most a b).2 = some n) : n ≠ 0 := by
  unfold Sp.see at h
  split at h
  · injection h with h; omega
  · dsimp only at h
    split at h
    · injection h with h; omega
    · cases h
theorem dStep_any (p l f : Nat) (r : Sp.Rdr) (wn : Int) (sl : List Sp.Sl) (V : List Txt) (w : World) (hr : DRdAt w p r) (hl : DLockAt w l wn sl) (hf : DfAt w f V) (hn4 : V.length ≤ 400) (hsz : ∀ s ∈ V, s.length ≤ 4611686018427387904) (hi : r.Inv)
    (hcs : r.phase = 4 → (Sp.see r.most (Sp.atV V 0) (Sp.atV V 1)).2 = none → (Sp.see r.most (Sp.atV V 0) (Sp.atV V 1)).1.txn = r.mt.txn → (Sp.see r.most (Sp.atV V 0) (Sp.atV V 1)).1 = r.mt) :
    Calls Tryz.prog 22 #[.pointer (some ⟨p, 0, none⟩), .pointer (some ⟨f, 0, none⟩), .pointer (some ⟨l, 0, none⟩)] w fun e w' => e = .returned (.tuple #[.bool (r.step (Sp.atV V 0) (Sp.atV V 1) sl).1.1, .int .i64 (erN (r.step (Sp.atV V 0) (Sp.atV V 1) sl).1.2)]) ∧ DRdAt w' p (r.step (Sp.atV V 0) (Sp.atV V 1) sl).2.1 ∧ DLockAt w' l wn (r.step (Sp.atV V 0) (Sp.atV V 1) sl).2.2 ∧ Chg (fun k => k = p ∨ k = l) w w' := by
  have hne : p ≠ l := fun e => by subst e; exact Blk.not_ hr (by decide) _ hl.bl
  obtain ⟨pid, most, ph, slot, mt, er⟩ := r
  have hph := hi.ph
  dsimp only at hph hcs
  rcases (by omega : ph = 0 ∨ ph = 1 ∨ ph = 2 ∨ ph = 3 ∨ ph = 4 ∨ ph = 5) with rfl | rfl | rfl | rfl | rfl | rfl
  · have e : (⟨pid, most, 0, slot, mt, er⟩ : Sp.Rdr).step (Sp.atV V 0) (Sp.atV V 1) sl = ((true, er), (⟨pid, most, 0, slot, mt, er⟩, sl)) := rfl
    rw [e]
    exact (dStep0_any p l f _ w hr rfl).mono fun _ _ ⟨h1, h2, h3⟩ => ⟨h1, h2, hl.go h3, Chg.of_below h3⟩
  · obtain rfl : er = none := hi.er (by simp) (by simp)
    obtain rfl : slot = -1 := hi.sl rfl
    rcases hc : Sp.claim sl pid with _ | i
    · have e : (⟨pid, most, 1, -1, mt, none⟩ : Sp.Rdr).step (Sp.atV V 0) (Sp.atV V 1) sl = ((true, some 15), (⟨pid, most, 0, -1, mt, some 15⟩, Sp.claimed sl pid)) := by
        unfold Sp.Rdr.step Sp.Rdr.goes
        simp [hc]
      rw [e]
      exact dStep1n_any p l f _ wn sl w hr hl hne rfl hc
    · have e : (⟨pid, most, 1, -1, mt, none⟩ : Sp.Rdr).step (Sp.atV V 0) (Sp.atV V 1) sl = ((false, none), (⟨pid, most, 2, (i : Int), mt, none⟩, Sp.claimed sl pid)) := by
        unfold Sp.Rdr.step Sp.Rdr.goes
        simp [hc]
      rw [e]
      exact dStep1_any p l f _ wn sl i w hr hl hne rfl hc
  · obtain rfl : er = none := hi.er (by simp) (by simp)
    rcases hs : Sp.see most (Sp.atV V 0) (Sp.atV V 1) with ⟨m, _ | n⟩
    · have e : (⟨pid, most, 2, slot, mt, none⟩ : Sp.Rdr).step (Sp.atV V 0) (Sp.atV V 1) sl = ((false, none), (⟨pid, most, 3, slot, m, none⟩, sl)) := by
        unfold Sp.Rdr.step Sp.Rdr.goes Sp.Rdr.looks
        simp [hs]
      rw [e]
      have h := dStep2o_any p l f _ wn sl V w hr hl hf hn4 hsz hne rfl (by rw [hs])
      dsimp only at h
      rw [hs] at h
      exact h
    · have e : (⟨pid, most, 2, slot, mt, none⟩ : Sp.Rdr).step (Sp.atV V 0) (Sp.atV V 1) sl = ((false, none), (⟨pid, most, 5, slot, mt, some n⟩, sl)) := by
        unfold Sp.Rdr.step Sp.Rdr.goes Sp.Rdr.looks
        simp [hs]
      rw [e]
      exact dStep2e_any p l f _ wn sl V w hr hl hf hn4 hsz hne rfl n (Sp.see_err (by rw [hs])) (by rw [hs])
  · obtain rfl : er = none := hi.er (by simp) (by simp)
    rcases hc : Sp.owns sl slot pid with _ | _
    · have e : (⟨pid, most, 3, slot, mt, none⟩ : Sp.Rdr).step (Sp.atV V 0) (Sp.atV V 1) sl = ((true, some 18), (⟨pid, most, 0, slot, mt, some 18⟩, Sp.publish sl slot pid mt.txn)) := by
        unfold Sp.Rdr.step Sp.Rdr.goes
        simp [hc]
      rw [e]
      exact dStep3n_any p l f _ wn sl w hr hl hne rfl hc
    · have e : (⟨pid, most, 3, slot, mt, none⟩ : Sp.Rdr).step (Sp.atV V 0) (Sp.atV V 1) sl = ((false, none), (⟨pid, most, 4, slot, mt, none⟩, Sp.publish sl slot pid mt.txn)) := by
        unfold Sp.Rdr.step Sp.Rdr.goes
        simp [hc]
      rw [e]
      exact dStep3y_any p l f _ wn sl w hr hl hne rfl hc
  · obtain rfl : er = none := hi.er (by simp) (by simp)
    rcases hs : Sp.see most (Sp.atV V 0) (Sp.atV V 1) with ⟨m, _ | n⟩
    · rw [hs] at hcs
      have hcs := hcs rfl rfl
      dsimp only at hcs
      by_cases hx : m.txn = mt.txn
      · have hmm := hcs hx
        subst hmm
        have e : (⟨pid, most, 4, slot, m, none⟩ : Sp.Rdr).step (Sp.atV V 0) (Sp.atV V 1) sl = ((true, none), (⟨pid, most, 0, slot, m, none⟩, sl)) := by
          unfold Sp.Rdr.step Sp.Rdr.goes Sp.Rdr.looks
          simp [hs]
        rw [e]
        have h := dStep4s_any p l f _ wn sl V w hr hl hf hn4 hsz hne rfl (by rw [hs]) (by rw [hs])
        dsimp only at h
        rw [hs] at h
        exact h
      · have e : (⟨pid, most, 4, slot, mt, none⟩ : Sp.Rdr).step (Sp.atV V 0) (Sp.atV V 1) sl = ((false, none), (⟨pid, most, 3, slot, m, none⟩, sl)) := by
          unfold Sp.Rdr.step Sp.Rdr.goes Sp.Rdr.looks
          simp [hs, hx]
        rw [e]
        have h := dStep4o_any p l f _ wn sl V w hr hl hf hn4 hsz hne rfl (by rw [hs]) (by rw [hs]; exact hx)
        dsimp only at h
        rw [hs] at h
        exact h
    · have e : (⟨pid, most, 4, slot, mt, none⟩ : Sp.Rdr).step (Sp.atV V 0) (Sp.atV V 1) sl = ((false, none), (⟨pid, most, 5, slot, mt, some n⟩, sl)) := by
        unfold Sp.Rdr.step Sp.Rdr.goes Sp.Rdr.looks
        simp [hs]
      rw [e]
      exact dStep4e_any p l f _ wn sl V w hr hl hf hn4 hsz hne rfl n (Sp.see_err (by rw [hs])) (by rw [hs])
  · have e : (⟨pid, most, 5, slot, mt, er⟩ : Sp.Rdr).step (Sp.atV V 0) (Sp.atV V 1) sl = ((true, er), (⟨pid, most, 0, -1, mt, er⟩, Sp.freeSl sl slot pid)) := by
      unfold Sp.Rdr.step Sp.Rdr.goes
      simp
    rw [e]
    exact dStep5_any p l f _ wn sl w hr hl hne rfl
end Go.Proofs.YtmcpkhknjdiocaaGreatDoor
namespace Go.Proofs.YtmcpkhknjdiocaaGreatDoor
open Go.RowKit
attribute [local go_sem low] mk_extract
attribute [local go_sem] After.cell After.frozen mk_extract_end ByteArray.mk_append_mk
set_option maxRecDepth 100000 in
set_option maxHeartbeats 400000 in
theorem mt_neqR (m n : Sp.Mt) (W : World) : (binOp .neq 49 (.agg #[.int .u64 m.txn, .int .i64 m.main.page, .int .i64 m.main.count, .int .i64 m.main.flags, .int .i64 m.free, .int .i64 m.last]) (.agg #[.int .u64 n.txn, .int .i64 n.main.page, .int .i64 n.main.count, .int .i64 n.main.flags, .int .i64 n.free, .int .i64 n.last])).run Tryz.prog W = .ok (.bool (!decide (m = n))) W := by
  obtain ⟨a, ⟨b, c, d⟩, e, f⟩ := m
  obtain ⟨a', ⟨b', c', d'⟩, e', f'⟩ := n
  go_simp
  try simp only [Sp.Mt.mk.injEq, Sp.Root.mk.injEq]
  by_cases h1 : a = a' <;> by_cases h2 : b = b' <;> by_cases h3 : c = c' <;> by_cases h4 : d = d' <;> by_cases h5 : e = e' <;> by_cases h6 : f = f' <;> simp [h1, h2, h3, h4, h5, h6]
theorem wpQuiet_at {P : Program} {ops : Array Oper} {C : World → Prop} {Q : Act → Prop} {rest : List Oper} {o : Oper} {a : Act} (ty : TypeId) (x : Operand) (ho : o.op = .load ty x)
    (g off : Nat) (hx : a.eval x = .pointer (some ⟨g, off, none⟩)) (hgd : Region.wanted o (yielded ops a.tmps) = true) (cs : Array Value) (d : TypeDesc) (hc : ∀ w, C w → ∀ j v, cs[j]? = some v → w.cell? ⟨g, off + j, none⟩ = some v)
    (hu : P.underlying ty = some d) (hd : (match d with | .struct _ | .array _ _ => true | _ => false) = true) (hi : (P.info? ty).map (·.size) = some cs.size)
    (h : wpQuiet P ops C Q rest (a.put o.dst (.agg cs))) : wpQuiet P ops C Q (o :: rest) a :=
  wpQuiet_step fun K hK => by
    rw [if_pos hgd]
    refine ⟨.agg cs, fun w hw => ?_, hK _ h⟩
    unfold Oper.quietAt execOp
    simp only [ho, hx, Instr.loadAt, Instr.sureAddr, Sem.run_bind, Sem.run_pure, Result.andThen_ok, run_loadVar_at w g off ty cs d (hc w hw) hu hd hi]
    exact ⟨rfl, rfl⟩
theorem wpQuiet_bin {P : Program} {ops : Array Oper} {C : World → Prop} {Q : Act → Prop} {rest : List Oper} {o : Oper} {a : Act} (k : BinOp) (t : TypeId) (x y : Operand) (rt : TypeId) (ho : o.op = .binOp k t x y rt)
    (hgd : Region.wanted o (yielded ops a.tmps) = true) (u v r : Value) (hx : a.eval x = u) (hy : a.eval y = v) (he : ∀ W, (eqGuard k t x y u v).run P W = .ok () W) (hr : ∀ W, (binOp k t u v).run P W = .ok r W)
    (h : wpQuiet P ops C Q rest (a.put o.dst r)) : wpQuiet P ops C Q (o :: rest) a :=
  wpQuiet_step fun K hK => by
    rw [if_pos hgd]
    refine ⟨r, fun w hw => ?_, hK _ h⟩
    unfold Oper.quietAt execOp
    simp [ho, hx, hy, he w, hr w]
    exact ⟨rfl, rfl⟩
theorem DfB.chg {S : Nat → Prop} {w w' : World} {B f : Nat} {V : List Txt} (h : DfB w B f V) (hk : Chg S w w') (hf : ¬ S f) (hv : ∀ k cs, Blk w k StrT cs → B ≤ k → ¬ S k) (hu : ∀ k cs, Blk w k IntT cs → ¬ S k) : DfB w' B f V := by
  obtain ⟨v, dA, dn, dc, u, h1, h2, L, h3, h4⟩ := h.bf
  refine ⟨v, dA, dn, dc, u, h1.chg hk hf, own_chg2 h2 hk (fun k hk' => ?_), L, h3, own_chg2 h4 hk (fun k hk' => ?_)⟩
  · obtain ⟨g, cur, e, hb, hge⟩ : ∃ (g : Nat) (cur : Array Value), k = g ∧ Blk w g StrT cur ∧ B ≤ g := by
      rcases h2.2 with ⟨h, _⟩ | ⟨g, cap, cur, h, hg, hh, _⟩
      · rw [h] at hk'; simp [Value.ownBlock] at hk'
      · rw [h] at hk'
        exact ⟨g, cur, by simpa [Value.ownBlock] using hk'.symm, hh, hg⟩
    subst e
    exact hv k cur hb hge
  · obtain ⟨g, cur, e, hb⟩ : ∃ (g : Nat) (cur : Array Value), k = g ∧ Blk w g IntT cur := by
      rcases h4.2 with ⟨h, _⟩ | ⟨g, cap, cur, h, _, hh, _⟩
      · rw [h] at hk'; simp [Value.ownBlock] at hk'
      · rw [h] at hk'
        exact ⟨g, cur, by simpa [Value.ownBlock] using hk'.symm, hh⟩
    subst e
    exact hu k cur hb
theorem DfB.go {w w' : World} {B f : Nat} {V : List Txt} (h : DfB w B f V) (hb : Below w.heap.size w w') : DfB w' B f V := by
  obtain ⟨v, dA, dn, dc, u, h1, h2, L, h3, h4⟩ := h.bf
  exact ⟨v, dA, dn, dc, u, h1.below hb h1.lt, own_chg2 (S := NoM) h2 (Chg.of_below hb) (fun _ _ h => h), L, h3, own_chg2 (S := NoM) h4 (Chg.of_below hb) (fun _ _ h => h)⟩
theorem DfB.blk {W : World} {B f : Nat} {V : List Txt} (h : DfB W B f V) : ∃ cs, Blk W f DFileT cs := by
  obtain ⟨v, dA, dn, dc, u, h1, _⟩ := h.bf
  exact ⟨_, h1⟩
theorem blk_ne {w : World} {a b : Nat} {s t : TypeId} {cs ds : Array Value} (h1 : Blk w a s cs) (h2 : Blk w b t ds) (hst : s ≠ t) : a ≠ b := fun e => by
  subst e
  unfold Blk at h1 h2
  rw [h1] at h2
  simp at h2
  exact hst h2.2
/-- What the law holds: the package's file, lock, reader; the document's. -/
structure RtS (W0 : World) (f m l p : Nat) (v : Value) (V : List Txt) (sl : List Sp.Sl) (r : Sp.Rdr) (g q b B : Nat) (V2 : List Txt) (sl2 : List Sp.Sl) (r2 : Sp.Rdr) (W : World) : Prop where
  s : LwS W0 f m l p v V sl r W
  df : DfB W B g V2
  dl : DLockAt W q 0 sl2
  dr : DRdAt W b r2
  hg : W0.heap.size ≤ g ∧ W0.heap.size ≤ q ∧ W0.heap.size ≤ b
  hB : W0.heap.size ≤ B ∧ ∀ k, v.ownBlock = some k → k < B
section
variable {W0 W W' : World} {f m l p : Nat} {v : Value} {V V' : List Txt} {sl sl' : List Sp.Sl} {r r' : Sp.Rdr} {g q b B : Nat} {V2 V2' : List Txt} {sl2 sl2' : List Sp.Sl} {r2 r2' : Sp.Rdr}
theorem RtS.go (h : RtS W0 f m l p v V sl r g q b B V2 sl2 r2 W) (hb : Below W.heap.size W W') : RtS W0 f m l p v V sl r g q b B V2 sl2 r2 W' :=
  ⟨h.s.go hb, h.df.go hb, h.dl.go hb, h.dr.go hb, h.hg, h.hB⟩
theorem RtS.step (h : RtS W0 f m l p v V sl r g q b B V2 sl2 r2 W) (hr : RdAt W' p r') (hl : LockAt W' l 0 sl') (hk : Chg (fun k => k = p ∨ k = l) W W') : RtS W0 f m l p v V sl' r' g q b B V2 sl2 r2 W' := by
  obtain ⟨es, hgb⟩ := h.df.blk
  have hrd : Blk W p ReaderT _ := h.s.rd
  have hlk := h.s.lk.bl
  refine ⟨h.s.step hr hl hk, h.df.chg hk ?_ ?_ ?_, h.dl.chg hk ?_, h.dr.chg hk ?_, h.hg, h.hB⟩
  · rintro (e | e)
    · exact blk_ne hgb hrd (by decide) e
    · exact blk_ne hgb hlk (by decide) e
  · rintro k cs hb _ (e | e)
    · exact blk_ne hb hrd (by decide) e
    · exact blk_ne hb hlk (by decide) e
  · rintro k cs hb (e | e)
    · exact blk_ne hb hrd (by decide) e
    · exact blk_ne hb hlk (by decide) e
  · rintro (e | e)
    · exact blk_ne h.dl.bl hrd (by decide) e
    · exact blk_ne h.dl.bl hlk (by decide) e
  · rintro (e | e)
    · exact blk_ne (show Blk W b DReaderT _ from h.dr) hrd (by decide) e
    · exact blk_ne (show Blk W b DReaderT _ from h.dr) hlk (by decide) e
theorem RtS.lock (h : RtS W0 f m l p v V sl r g q b B V2 sl2 r2 W) (hl : LockAt W' l 0 sl') (hk : Chg (OneM l) W W') : RtS W0 f m l p v V sl' r g q b B V2 sl2 r2 W' :=
  h.step (h.s.rd.chg hk (by unfold OneM; intro e; exact blk_ne (show Blk W p ReaderT _ from h.s.rd) h.s.lk.bl (by decide) e)) hl (hk.mono fun _ _ e => .inr e)
theorem RtS.write (h : RtS W0 f m l p v V sl r g q b B V2 sl2 r2 W) (hf : FileAt W' f v m V') (hk : Chg (fun k => k = m ∨ v.ownBlock = some k) W W') : RtS W0 f m l p v V' sl r g q b B V2 sl2 r2 W' := by
  obtain ⟨es, hgb⟩ := h.df.blk
  have hno : ∀ {t : TypeId} {k : Nat} {cs : Array Value}, Blk W k t cs → t ≠ StrT → ¬ (k = m ∨ v.ownBlock = some k) := by
    rintro t k cs hb ht (e | e)
    · subst e; exact h.s.ff.map.not_blk hb
    · exact own_not h.s.ff.own (t := t) (fun e => ht e.symm) k e _ hb
  refine ⟨h.s.write hf hk, h.df.chg hk (hno hgb (by decide)) ?_ (fun k cs hb => hno hb (by decide)), h.dl.chg hk (hno h.dl.bl (by decide)), h.dr.chg hk (hno (show Blk W b DReaderT _ from h.dr) (by decide)), h.hg, h.hB⟩
  rintro k cs hb hge (e | e)
  · subst e; exact h.s.ff.map.not_blk hb
  · have := h.hB.2 k e; omega
theorem RtS.dstep (h : RtS W0 f m l p v V sl r g q b B V2 sl2 r2 W) (hr : DRdAt W' b r2') (hl : DLockAt W' q 0 sl2') (hk : Chg (fun k => k = b ∨ k = q) W W') : RtS W0 f m l p v V sl r g q b B V2 sl2' r2' W' := by
  obtain ⟨es, hgb⟩ := h.df.blk
  obtain ⟨sv, hfb⟩ := h.s.ff.bf
  have hrd : Blk W b DReaderT _ := h.dr
  have hlk := h.dl.bl
  have hno : ∀ {t : TypeId} {k : Nat} {cs : Array Value}, Blk W k t cs → t ≠ DReaderT → t ≠ DLockT → ¬ (k = b ∨ k = q) := by
    rintro t k cs hb h1 h2 (e | e)
    · exact blk_ne hb hrd h1 e
    · exact blk_ne hb hlk h2 e
  refine ⟨⟨h.s.hb.trans (hk.below h.s.hb.size (fun k hk e => by have := h.hg; omega)), h.s.ff.chg hk (hno hfb (by decide) (by decide)) ?_ ?_, h.s.lk.chg hk (hno h.s.lk.bl (by decide) (by decide)), h.s.rd.chg hk (hno (show Blk W p ReaderT _ from h.s.rd) (by decide) (by decide)), h.s.hf, h.s.hv⟩, h.df.chg hk (hno hgb (by decide) (by decide)) (fun k cs hb _ => hno hb (by decide) (by decide)) (fun k cs hb => hno hb (by decide) (by decide)), hl, hr, h.hg, h.hB⟩
  · rintro (e | e)
    · subst e; exact h.s.ff.map.not_blk hrd
    · subst e; exact h.s.ff.map.not_blk hlk
  · rintro k hk' (e | e)
    · subst e; exact own_not h.s.ff.own (by decide) _ hk' _ hrd
    · subst e; exact own_not h.s.ff.own (by decide) _ hk' _ hlk
theorem RtS.dlock (h : RtS W0 f m l p v V sl r g q b B V2 sl2 r2 W) (hl : DLockAt W' q 0 sl2') (hk : Chg (OneM q) W W') : RtS W0 f m l p v V sl r g q b B V2 sl2' r2 W' :=
  h.dstep (h.dr.chg hk (by unfold OneM; intro e; exact blk_ne (show Blk W b DReaderT _ from h.dr) h.dl.bl (by decide) e)) hl (hk.mono fun _ _ e => .inr e)
theorem RtS.dwrite (h : RtS W0 f m l p v V sl r g q b B V2 sl2 r2 W) (hf : DfB W' W.heap.size g V2') (hk : Chg (OneM g) W W') : RtS W0 f m l p v V sl r g q b W.heap.size V2' sl2 r2 W' := by
  obtain ⟨es, hgb⟩ := h.df.blk
  obtain ⟨sv, hfb⟩ := h.s.ff.bf
  have hno : ∀ {t : TypeId} {k : Nat} {cs : Array Value}, Blk W k t cs → t ≠ DFileT → ¬ OneM g k := by
    intro t k cs hb h1 e
    exact blk_ne hb hgb h1 e
  refine ⟨⟨h.s.hb.trans (hk.below h.s.hb.size (fun k hk e => by unfold OneM at e; have := h.hg; omega)), h.s.ff.chg hk (hno hfb (by decide)) ?_ ?_, h.s.lk.chg hk (hno h.s.lk.bl (by decide)), h.s.rd.chg hk (hno (show Blk W p ReaderT _ from h.s.rd) (by decide)), h.s.hf, h.s.hv⟩, hf, h.dl.chg hk (hno h.dl.bl (by decide)), h.dr.chg hk (hno (show Blk W b DReaderT _ from h.dr) (by decide)), h.hg, ⟨h.s.hb.size, fun k e => own_lt h.s.ff.own k e⟩⟩
  · intro e; unfold OneM at e; subst e; exact h.s.ff.map.not_blk hgb
  · intro k hk' e; unfold OneM at e; subst e; exact own_not h.s.ff.own (by decide) _ hk' _ hgb
end
end Go.Proofs.YtmcpkhknjdiocaaGreatDoor
