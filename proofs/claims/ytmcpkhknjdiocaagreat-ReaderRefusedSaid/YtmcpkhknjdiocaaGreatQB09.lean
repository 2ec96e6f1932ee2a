/- Readers' steps: the meta that a reader sees. Readers' steps: a reader looks which meta counts. Readers' steps: the step of a phase; a step. Readers' steps: a step. The plain law of metas: which of two counts. Readers' steps: versions that are written by turns, what a reader sees of them: the plain side. -/
import Derived.Test.YtmcpkhknjdiocaaGreatQB08
import Derived.WalkMore
set_option linter.unusedSimpArgs false
set_option linter.unusedVariables false
namespace Go.Proofs.YtmcpkhknjdiocaaGreat
open Go.RowKit
attribute [local go_sem low] mk_extract
attribute [local go_sem] After.cell After.frozen mk_extract_end ByteArray.mk_append_mk
theorem atV_len {V : List Txt} (h : ∀ s ∈ V, s.length ≤ 4611686018427387904) (i : Int) : (Sp.atV V i).length ≤ 4611686018427387904 := by
  unfold Sp.atV
  split
  · simp
  · rcases Nat.lt_or_ge i.toNat V.length with hl | hl
    · rw [List.getD_eq_getElem?_getD, List.getElem?_eq_getElem hl]
      exact h _ (List.getElem_mem hl)
    · rw [List.getD_eq_getElem?_getD, List.getElem?_eq_none hl]
      simp
def Sp.errOf (o : Option Sp.Mt) : Option Int := match o with | none => some 12 | some _ => none
/-- The result's block, the meta that counts in a block of its own, the reader. -/
structure CsS (w : World) (p : Nat) (r : Sp.Rdr) (k : Nat) (m : Sp.Mt) (W : World) : Prop where
  hb : Below w.heap.size w W
  br : Blk W w.heap.size MetaT #[.int .u64 0, .int .i64 0, .int .i64 0, .int .i64 0, .int .i64 0, .int .i64 0]
  bo : Blk W k MetaT (mtV m).toArray
  rd : RdAt W p r
theorem CsS.go {w W W' : World} {p k : Nat} {r : Sp.Rdr} {m : Sp.Mt} (h : CsS w p r k m W) (hb : Below W.heap.size W W') : CsS w p r k m W' :=
  ⟨h.hb.trans (hb.mono h.hb.size), h.br.below hb h.br.lt, h.bo.below hb h.bo.lt, h.rd.go hb⟩
set_option maxRecDepth 100000 in
set_option maxHeartbeats 6400000 in
theorem rdChoose_any (p f m : Nat) (r : Sp.Rdr) (v : Value) (V : List Txt) (w : World) (hr : RdAt w p r) (hf : FileAt w f v m V) (hn : V.length ≤ 400) :
    Calls Tryz.prog 97 #[.pointer (some ⟨p, 0, none⟩), .pointer (some ⟨f, 0, none⟩)] w fun e w' => e = .returned (.tuple #[.agg (mtV (Sp.see r.most (Sp.atV V 0) (Sp.atV V 1)).1).toArray, erV (Sp.see r.most (Sp.atV V 0) (Sp.atV V 1)).2]) ∧ Below w.heap.size w w' := by
  have hal : Below w.heap.size w (w.alloc (.cells #[.int .u64 0, .int .i64 0, .int .i64 0, .int .i64 0, .int .i64 0, .int .i64 0] MetaT)) := (Below.refl _ _).alloc (Nat.le_refl _) _
  have HB0 := Lib.hid hal
  have HR0 := Lib.hid (hr.go hal)
  have HF0 := Lib.hid (hf.go hal)
  have HZ0 := Lib.hid (show Blk (w.alloc (.cells #[.int .u64 0, .int .i64 0, .int .i64 0, .int .i64 0, .int .i64 0, .int .i64 0] MetaT)) w.heap.size MetaT #[.int .u64 0, .int .i64 0, .int .i64 0, .int .i64 0, .int .i64 0, .int .i64 0] from Blk.new w _ _)
  have la := atV_len hf.sz 0
  have lb := atV_len hf.sz 1
  have HSE := Lib.hid (show Sp.see r.most (Sp.atV V 0) (Sp.atV V 1) = match Sp.choose (Sp.atV V 0) (Sp.atV V 1) with | none => (Sp.mt0, some 12) | some m => (m, if r.most < m.last then some 19 else none) from rfl)
  clear hr hf hal
  generalize Sp.see r.most (Sp.atV V 0) (Sp.atV V 1) = sw at *
  have HA := Lib.hid (fun W h => fileRead_any f m v V 0 W h (by omega))
  have HBB := Lib.hid (fun W h => fileRead_any f m v V 1 W h (by omega))
  generalize Sp.atV V 0 = a at *
  generalize Sp.atV V 1 = b at *
  have HC := Lib.hid (fun W => choose_any a b W la lb)
  generalize Sp.choose a b = o at *
  go_enter Tryz.func97, Tryz.ntmps97
  go_upto_region 1 with fail
  go_cut [6, 7] (fun s6 s7 W => ∃ k, s6 = .pointer (some ⟨k, 0, none⟩) ∧ s7 = erV (Sp.errOf o) ∧ CsS w p r k (o.getD Sp.mt0) W)
  case first =>
    go_wp2_with (first
      | (go_at_call_of 124 (0 : Int); refine (HA.out _ HF0.out).mono ?_; rintro e w2 ⟨rfl, rfl⟩)
      | (go_at_call 124; refine (HBB.out _ HF0.out).mono ?_; rintro e w2 ⟨rfl, rfl⟩)
      | (go_at_call 123; refine (HC.out _).mono ?_; rintro e w2 ⟨rfl, hb2⟩; rw [show chooseV o = .tuple #[.agg (mtV (o.getD Sp.mt0)).toArray, erV (Sp.errOf o)] by cases o <;> rfl]; have HB2 := Lib.hid hb2; clear hb2)
      | (refine wpList_new MetaT _ _ rfl rfl rfl rfl rfl rfl _ rfl (of_decide_eq_true (by kernel_rfl)) (by kernel_rfl) (by kernel_rfl) (by kernel_rfl) ?_))
    go_meet
    case rel =>
      have hal : Below (w.alloc (.cells #[.int .u64 0, .int .i64 0, .int .i64 0, .int .i64 0, .int .i64 0, .int .i64 0] MetaT)).heap.size (w.alloc (.cells #[.int .u64 0, .int .i64 0, .int .i64 0, .int .i64 0, .int .i64 0, .int .i64 0] MetaT)) (w2.alloc (.cells (mtV (o.getD Sp.mt0)).toArray MetaT)) := HB2.out.alloc HB2.out.size _
      exact ⟨w2.heap.size, rfl, rfl, HB0.out.trans (hal.mono HB0.out.size), HZ0.out.below hal HZ0.out.lt, Blk.new w2 _ _, HR0.out.go hal⟩
  case rest =>
    obtain ⟨k, rfl, rfl, hs⟩ := hcut
    obtain ⟨W1, rfl⟩ : ∃ W, W = wc := ⟨_, rfl⟩
    have S := Lib.hid hs
    clear hs HB0 HR0 HF0 HZ0 HA HBB HC
    rcases o with _ | mm
    · simp only [Option.getD_none, Sp.errOf, erV] at *
      have HS2 := Lib.hid (show sw = (Sp.mt0, some 12) from HSE.out)
      clear HSE
      go_upto_region 2 with fail
      refine wp_region_row (by kernel_rfl) (by kernel_rfl) ?_
      repeat (first | go_big_quiet_skip | go_big_quiet_step (fail))
      refine wpQuiet_nil ?_
      intro w2 hb2
      replace S := Lib.hid (S.out.go hb2)
      clear hb2
      go_wp2_with (first
        | (refine wpList_row MetaT _ rfl k rfl rfl MetaT _ (0, 0) _ S.out.bo Tryz.underlying45 rfl rfl ?_)
        | (refine wpList_store_row rfl MetaT _ _ rfl w.heap.size _ rfl rfl MetaT _ S.out.br (by kernel_rfl) rfl (by kernel_rfl) ?_))
      obtain ⟨z0, z1, z2, z3, z4, z5⟩ := (S.out.br.row (ds := #[.int .u64 0, .int .i64 0, .int .i64 0, .int .i64 0, .int .i64 0, .int .i64 0])).at6
      refine bodyPost_ret (v := .tuple #[.agg (mtV Sp.mt0).toArray, .iface ErrT (.int .i64 12)]) (by simp [results, Tryz.results97, go_sem, mtV, Sp.mt0, Sp.root0, z0, z1, z2, z3, z4, z5]) rfl ⟨by rw [HS2.out]; rfl, below_setRow S.out.hb (Nat.le_refl _) _⟩
    · simp only [Option.getD_some, Sp.errOf, erV] at *
      have c5 : W1.cell? ⟨k, 5, none⟩ = some (.int .i64 mm.last) := S.out.bo.cell 5
      have c1 : W1.cell? ⟨p, 1, none⟩ = some (.int .i64 r.most) := Blk.cell S.out.rd 1
      have hk := S.out.bo.lt
      have hp := Blk.lt S.out.rd
      by_cases hlt : r.most < mm.last
      · have HS2 := Lib.hid (show sw = (mm, some 19) from HSE.out.trans (by simp [hlt]))
        clear HSE
        have hd : decide (r.most < mm.last) = true := decide_eq_true hlt
        go_upto_region 2 with fail
        refine wp_region_row (by kernel_rfl) (by kernel_rfl) ?_
        repeat (first | go_big_quiet_skip | go_big_quiet_step (fail))
        refine wpQuiet_nil ?_
        intro w2 hb2
        replace S := Lib.hid (S.out.go hb2)
        clear hb2 c5 c1
        go_wp2_with (first
          | (refine wpList_row MetaT _ rfl k rfl rfl MetaT _ (0, 0) _ S.out.bo Tryz.underlying45 rfl rfl ?_)
          | (refine wpList_store_row rfl MetaT _ _ rfl w.heap.size _ rfl rfl MetaT _ S.out.br (by kernel_rfl) rfl (by kernel_rfl) ?_))
        obtain ⟨z0, z1, z2, z3, z4, z5⟩ := (S.out.br.row (ds := #[.int .u64 mm.txn, .int .i64 mm.main.page, .int .i64 mm.main.count, .int .i64 mm.main.flags, .int .i64 mm.free, .int .i64 mm.last])).at6
        refine bodyPost_ret (v := .tuple #[.agg (mtV mm).toArray, .iface ErrT (.int .i64 19)]) (by simp [results, Tryz.results97, go_sem, mtV, z0, z1, z2, z3, z4, z5]) rfl ⟨by rw [HS2.out]; rfl, below_setRow S.out.hb (Nat.le_refl _) _⟩
      · have HS2 := Lib.hid (show sw = (mm, none) from HSE.out.trans (by simp [hlt]))
        clear HSE
        have hd : decide (r.most < mm.last) = false := decide_eq_false hlt
        go_upto_region 2 with fail
        refine wp_region_row (by kernel_rfl) (by kernel_rfl) ?_
        repeat (first | go_big_quiet_skip | go_big_quiet_step (fail))
        refine wpQuiet_nil ?_
        intro w2 hb2
        replace S := Lib.hid (S.out.go hb2)
        clear hb2 c5 c1
        go_wp2_with (first
          | (refine wpList_row MetaT _ rfl k rfl rfl MetaT _ (0, 0) _ S.out.bo Tryz.underlying45 rfl rfl ?_)
          | (refine wpList_store_row rfl MetaT _ _ rfl w.heap.size _ rfl rfl MetaT _ S.out.br (by kernel_rfl) rfl (by kernel_rfl) ?_))
        obtain ⟨z0, z1, z2, z3, z4, z5⟩ := (S.out.br.row (ds := #[.int .u64 mm.txn, .int .i64 mm.main.page, .int .i64 mm.main.count, .int .i64 mm.main.flags, .int .i64 mm.free, .int .i64 mm.last])).at6
        refine bodyPost_ret (v := .tuple #[.agg (mtV mm).toArray, .nilIface]) (by simp [results, Tryz.results97, go_sem, mtV, z0, z1, z2, z3, z4, z5]) rfl ⟨by rw [HS2.out]; rfl, below_setRow S.out.hb (Nat.le_refl _) _⟩
end Go.Proofs.YtmcpkhknjdiocaaGreat
namespace Go.Proofs.YtmcpkhknjdiocaaGreat
open Go.RowKit
attribute [local go_sem low] mk_extract
attribute [local go_sem] After.cell After.frozen mk_extract_end ByteArray.mk_append_mk
open Go.Conc
/-- The reader, and the meta that it saw. -/
structure LoS (w : World) (p k : Nat) (r : Sp.Rdr) (m : Sp.Mt) (W : World) : Prop where
  ck : Chg (OneM p) w W
  rd : RdAt W p r
  bm : Blk W k MetaT (mtV m).toArray
  hk : w.heap.size ≤ k
  hp : p < w.heap.size
theorem LoS.go {w W W' : World} {p k : Nat} {r : Sp.Rdr} {m : Sp.Mt} (h : LoS w p k r m W) (hb : Below W.heap.size W W') : LoS w p k r m W' :=
  ⟨h.ck.trans (Chg.of_below hb), h.rd.go hb, h.bm.below hb h.bm.lt, h.hk, h.hp⟩
/-- The same, and a channel of one place. -/
structure LoT (w : World) (p k c : Nat) (r : Sp.Rdr) (m : Sp.Mt) (L : List Int) (W : World) : Prop where
  s : LoS w p k r m W
  hc : w.heap.size ≤ c
  hck : c ≠ k
  ch : ∃ s q, W.heap[c]? = some (.chan 1 (L.map iv).toArray false s q false)
theorem LoT.lt {w W : World} {p k c : Nat} {r : Sp.Rdr} {m : Sp.Mt} {L : List Int} (h : LoT w p k c r m L W) : c < W.heap.size := by
  obtain ⟨s, q, hc⟩ := h.ch
  exact (Array.getElem?_eq_some_iff.1 hc).1
theorem LoT.chan {w W : World} {p k c : Nat} {r : Sp.Rdr} {m : Sp.Mt} {L L' : List Int} (h : LoT w p k c r m L W) {buf : Array Value} (hb : buf = (L'.map iv).toArray) (s q : Nat) : LoT w p k c r m L' (W.setChan c 1 buf false s q false) := by
  subst hb
  have hne : ∀ g t cs, g ≠ c → Blk W g t cs → Blk (W.setChan c 1 (L'.map iv).toArray false s q false) g t cs := fun g t cs hg hb => by
    unfold Blk at hb ⊢
    simp only [World.setChan]
    rw [Array.getElem?_setIfInBounds_ne (Ne.symm hg)]
    exact hb
  have hpc : p ≠ c := by have := h.hc; have := h.s.hp; omega
  refine ⟨⟨?_, hne _ _ _ hpc h.s.rd, hne _ _ _ (Ne.symm h.hck) h.s.bm, h.s.hk, h.s.hp⟩, h.hc, h.hck, ⟨s, q, heap_setChan _ _ _ _ _ _ _ _ h.lt⟩⟩
  refine ⟨h.s.ck.os, h.s.ck.tape, h.s.ck.output, by rw [size_setChan]; exact h.s.ck.size, fun i hi hs => ?_⟩
  have hic : i ≠ c := by have := h.hc; omega
  refine Eq.trans ?_ (h.s.ck.block i hi hs)
  simp only [World.setChan]
  rw [Array.getElem?_setIfInBounds_ne (Ne.symm hic)]
theorem LoT.set1 {w W : World} {p k c : Nat} {r r' : Sp.Rdr} {m : Sp.Mt} {L : List Int} (h : LoT w p k c r m L W) (i : Nat) (u : Value) (hr : (rdrV r').toArray = (rdrV r).toArray.setIfInBounds i u) : LoT w p k c r' m L (W.setCell ⟨p, i, none⟩ u) := by
  obtain ⟨s, q, hc⟩ := h.ch
  have hpc : c ≠ p := by have := h.hc; have := h.s.hp; omega
  have hpk : p ≠ k := by have := h.s.hk; have := h.s.hp; omega
  refine ⟨⟨h.s.ck.setCell (p := ⟨p, i, none⟩) (.inl rfl) _, ?_, Blk.far h.s.bm (p := ⟨p, i, none⟩) (fun e => hpk e.symm) _, h.s.hk, h.s.hp⟩, h.hc, h.hck, ⟨s, q, ((Chg.set1 W p i u).block c h.lt hpc).trans hc⟩⟩
  unfold RdAt
  rw [hr]
  exact Blk.set_ h.s.rd i u
theorem mkChan1 (w : World) : (Instr.makeChan 101 (.int .i64 1)).run Tryz.prog w = .ok (.chan (some w.heap.size)) (w.alloc (.chan 1 #[] false 0 0 false)) := by kernel_rfl
set_option maxRecDepth 100000 in
set_option maxHeartbeats 6400000 in
theorem rdLooks_any (p f m : Nat) (r : Sp.Rdr) (v : Value) (V : List Txt) (w : World) (hr : RdAt w p r) (hf : FileAt w f v m V) (hn : V.length ≤ 400) :
    Calls Tryz.prog 72 #[.pointer (some ⟨p, 0, none⟩), .pointer (some ⟨f, 0, none⟩)] w fun e w' => e = .returned (.tuple #[]) ∧ RdAt w' p (r.looks (Sp.atV V 0) (Sp.atV V 1)) ∧ Chg (OneM p) w w' := by
  have hmk := mkChan1
  have hpw := Blk.lt hr
  have HC := Lib.hid (rdChoose_any p f m r v V w hr hf hn)
  have HR := Lib.hid hr
  have HLO := Lib.hid (show r.looks (Sp.atV V 0) (Sp.atV V 1) = match (Sp.see r.most (Sp.atV V 0) (Sp.atV V 1)).2 with
    | some k => { r with err := some k, phase := 5 }
    | none => if r.phase = 4 ∧ (Sp.see r.most (Sp.atV V 0) (Sp.atV V 1)).1.txn = r.mt.txn then { r with phase := 0, err := none } else { r with mt := (Sp.see r.most (Sp.atV V 0) (Sp.atV V 1)).1, phase := 3 } from rfl)
  clear hr hf hn
  generalize r.looks (Sp.atV V 0) (Sp.atV V 1) = rr at *
  generalize Sp.see r.most (Sp.atV V 0) (Sp.atV V 1) = sw at *
  obtain ⟨mm, er⟩ := sw
  dsimp only at HC HLO
  go_enter Tryz.func72, Tryz.ntmps72
  go_upto_region 0 with fail
  go_cut [4, 5] (fun s4 s5 W => ∃ k, s4 = .pointer (some ⟨k, 0, none⟩) ∧ s5 = erV er ∧ LoS w p k r mm W)
  case first =>
    go_wp2_with (first
      | (go_at_call 97; refine HC.out.mono ?_; rintro e w2 ⟨rfl, hb2⟩; have HB2 := Lib.hid hb2; clear hb2)
      | (refine wpList_new MetaT _ _ rfl rfl rfl rfl rfl rfl _ rfl (of_decide_eq_true (by kernel_rfl)) (by kernel_rfl) (by kernel_rfl) (by kernel_rfl) ?_))
    go_meet
    case rel =>
      have hz := HB2.out.size
      have hal : Below w.heap.size w (w2.alloc (.cells (mtV mm).toArray MetaT)) := HB2.out.alloc hz _
      exact ⟨w2.heap.size, rfl, rfl, Chg.of_below hal, HR.out.go hal, Blk.new w2 _ _, hz, hpw⟩
  case rest =>
    obtain ⟨k, rfl, rfl, hs⟩ := hcut
    obtain ⟨W1, rfl⟩ : ∃ W, W = wc := ⟨_, rfl⟩
    have S := Lib.hid hs
    clear hs HC HR
    go_upto_region 1 with fail
    go_cut [6] (fun s6 W => s6 = .bool (decide (r.phase = 4 ∧ mm.txn = r.mt.txn)) ∧ LoS w p k r mm W)
    case first =>
      have c2 : W1.cell? ⟨p, 2, none⟩ = some (.int .i64 r.phase) := Blk.cell S.out.rd 2
      have c4 : W1.cell? ⟨p, 4, none⟩ = some (.int .u64 r.mt.txn) := Blk.cell S.out.rd 4
      have k0 : W1.cell? ⟨k, 0, none⟩ = some (.int .u64 mm.txn) := S.out.bm.cell 0
      have hk := S.out.bm.lt
      have hp := Blk.lt S.out.rd
      by_cases h4 : r.phase = 4
      · have e4 : (r.phase == 4) = true := beq_iff_eq.2 h4
        have HE := Lib.hid (show decide (r.phase = 4 ∧ mm.txn = r.mt.txn) = (mm.txn == r.mt.txn) by simp [h4]; rfl)
        clear h4
        refine wp_region_row (by kernel_rfl) (by kernel_rfl) ?_
        repeat (first | go_big_quiet_skip | go_big_quiet_step (fail))
        refine wpQuiet_nil ?_
        intro w2 hb2
        go_wp2_with fail
        go_meet
        case rel => exact ⟨by rw [HE.out], S.out.go hb2⟩
      · have e4 : (r.phase == 4) = false := beq_eq_false_iff_ne.2 h4
        have HE := Lib.hid (show decide (r.phase = 4 ∧ mm.txn = r.mt.txn) = false by simp [h4])
        clear h4
        refine wp_region_row (by kernel_rfl) (by kernel_rfl) ?_
        repeat (first | go_big_quiet_skip | go_big_quiet_step (fail))
        refine wpQuiet_nil ?_
        intro w2 hb2
        go_wp2_with fail
        go_meet
        case rel => exact ⟨by rw [HE.out], S.out.go hb2⟩
    case rest =>
      obtain ⟨rfl, hs⟩ := hcut
      obtain ⟨W2, rfl⟩ : ∃ W, W = wc := ⟨_, rfl⟩
      replace S := Lib.hid hs
      clear hs
      have HSA := Lib.hid (rfl : decide (r.phase = 4 ∧ mm.txn = r.mt.txn) = decide (r.phase = 4 ∧ mm.txn = r.mt.txn))
      have T0 := Lib.hid (show LoT w p k W2.heap.size r mm [] (W2.alloc (.chan 1 #[] false 0 0 false)) from ⟨S.out.go ((Below.refl _ _).alloc (Nat.le_refl _) _), S.out.ck.size, by have := S.out.bm.lt; omega, ⟨0, 0, heap_alloc_new W2 _⟩⟩)
      have HCN := Lib.hid S.out.ck
      rcases er with _ | n
      · dsimp only at HLO
        have HL2 := Lib.hid HLO.out
        clear HLO
        rcases hsm : decide (r.phase = 4 ∧ mm.txn = r.mt.txn) with _ | _
        · have HL3 := Lib.hid (show rr = { r with mt := mm, phase := 3 } from HL2.out.trans (if_neg (of_decide_eq_false hsm)))
          clear HL2 hsm
          simp only [erV]
          go_upto_region 7 with fail
          clear hmk
          generalize W2.alloc (.chan 1 #[] false 0 0 false) = W3 at *
          generalize W2.heap.size = c at *
          have T := Lib.hid T0.out
          clear T0
          have c4 : W3.cell? ⟨p, 4, none⟩ = some (.int .u64 r.mt.txn) := Blk.cell T.out.s.rd 4
          have c5 : W3.cell? ⟨p, 5, none⟩ = some (.int .i64 r.mt.main.page) := Blk.cell T.out.s.rd 5
          have c6 : W3.cell? ⟨p, 6, none⟩ = some (.int .i64 r.mt.main.count) := Blk.cell T.out.s.rd 6
          have c7 : W3.cell? ⟨p, 7, none⟩ = some (.int .i64 r.mt.main.flags) := Blk.cell T.out.s.rd 7
          have c8 : W3.cell? ⟨p, 8, none⟩ = some (.int .i64 r.mt.free) := Blk.cell T.out.s.rd 8
          have c9 : W3.cell? ⟨p, 9, none⟩ = some (.int .i64 r.mt.last) := Blk.cell T.out.s.rd 9
          have f4 := Blk.frozen T.out.s.rd 4
          have f5 := Blk.frozen T.out.s.rd 5
          have f6 := Blk.frozen T.out.s.rd 6
          have f7 := Blk.frozen T.out.s.rd 7
          have f8 := Blk.frozen T.out.s.rd 8
          have f9 := Blk.frozen T.out.s.rd 9
          have hbm : Blk W3 k MetaT #[.int .u64 mm.txn, .int .i64 mm.main.page, .int .i64 mm.main.count, .int .i64 mm.main.flags, .int .i64 mm.free, .int .i64 mm.last] := T.out.s.bm
          go_upto_region 8 with (refine wpList_row MetaT _ rfl k rfl rfl MetaT _ (0, 0) _ hbm Tryz.underlying45 rfl rfl ?_)
          have T1 := Lib.hid ((((((T.out.set1 (r' := { r with mt := { r.mt with txn := mm.txn } }) 4 (.int .u64 mm.txn) rfl).set1 (r' := { r with mt := { r.mt with txn := mm.txn, main := { r.mt.main with page := mm.main.page } } }) 5 (.int .i64 mm.main.page) rfl).set1 (r' := { r with mt := { r.mt with txn := mm.txn, main := { r.mt.main with page := mm.main.page, count := mm.main.count } } }) 6 (.int .i64 mm.main.count) rfl).set1 (r' := { r with mt := { r.mt with txn := mm.txn, main := mm.main } }) 7 (.int .i64 mm.main.flags) rfl).set1 (r' := { r with mt := { r.mt with txn := mm.txn, main := mm.main, free := mm.free } }) 8 (.int .i64 mm.free) rfl).set1 (r' := { r with mt := mm }) 9 (.int .i64 mm.last) rfl)
          clear c4 c5 c6 c7 c8 c9 f4 f5 f6 f7 f8 f9 hbm T
          generalize (((((W3.setCell ⟨p, 4, none⟩ (.int .u64 mm.txn)).setCell ⟨p, 5, none⟩ (.int .i64 mm.main.page)).setCell ⟨p, 6, none⟩ (.int .i64 mm.main.count)).setCell ⟨p, 7, none⟩ (.int .i64 mm.main.flags)).setCell ⟨p, 8, none⟩ (.int .i64 mm.free)).setCell ⟨p, 9, none⟩ (.int .i64 mm.last) = W4 at *
          obtain ⟨s, q, hc⟩ := T1.out.ch
          refine InReg.region ?_
          show InReg _ _ _ [0, 1] _ _
          refine InReg.val (w' := W4) (v := .chan (some c)) rfl rfl (by simp [go_sem, execOp, Act.eval]) ?_
          refine InReg.send (w' := W4) (c := c) (v := .int .i64 3) (z := .tuple #[]) rfl rfl (by simp [go_sem, execOp, scase, Act.eval, Act.put]) hc (by simp) ?_
          refine InReg.nil ?_
          have T5 := Lib.hid (T1.out.chan (L' := [3]) (buf := (([] : List Int).map iv).toArray.push (.int .i64 3)) rfl (s + 1) q)
          clear hc T1
          generalize W4.setChan c 1 ((([] : List Int).map iv).toArray.push (.int .i64 3)) false (s + 1) q false = W5 at *
          go_upto_region 10 with fail
          obtain ⟨s2, q2, hc⟩ := T5.out.ch
          refine InReg.region ?_
          show InReg _ _ _ [0, 1, 2] _ _
          refine InReg.recv (w' := W5) (c := c) (z := .int .i64 0) rfl rfl (by simp [go_sem, execOp, rcase, Act.eval]) hc (by simp) ?_
          have T7 := Lib.hid (T5.out.chan (L' := []) (buf := (([3] : List Int).map iv).toArray.extract 1 (([3] : List Int).map iv).toArray.size) rfl s2 (q2 + 1))
          clear hc T5
          generalize W5.setChan c 1 ((([3] : List Int).map iv).toArray.extract 1 (([3] : List Int).map iv).toArray.size) false s2 (q2 + 1) false = W6 at *
          refine InReg.val (w' := W6) (v := goInt 0) rfl rfl (by simp [go_sem, execOp, Act.eval, Act.put]) ?_
          refine InReg.val (w' := W6) (v := .bool true) rfl rfl (by simp [go_sem, execOp, Act.eval, Act.put, goInt]) ?_
          refine InReg.nil ?_
          rw [show ((([3] : List Int).map iv).toArray.getD 0 undef) = .int .i64 3 from rfl]
          have c2 : W6.cell? ⟨p, 2, none⟩ = some (.int .i64 r.phase) := Blk.cell T7.out.s.rd 2
          have f2 := Blk.frozen T7.out.s.rd 2
          have T6 := Lib.hid (T7.out.set1 (r' := { ({ r with mt := mm } : Sp.Rdr) with phase := 3 }) 2 (.int .i64 3) rfl)
          clear T7
          go_wp2_with fail
          go_end0
          exact ⟨rfl, by rw [HL3.out]; exact T6.out.s.rd, T6.out.s.ck⟩
        · have HL3 := Lib.hid (show rr = { r with phase := 0, err := none } from HL2.out.trans (if_pos (of_decide_eq_true hsm)))
          clear HL2 hsm
          simp only [erV]
          go_upto_region 10 with fail
          clear hmk
          generalize W2.alloc (.chan 1 #[] false 0 0 false) = W4 at *
          generalize W2.heap.size = c at *
          have T1 := Lib.hid T0.out
          clear T0
          obtain ⟨s, q, hc⟩ := T1.out.ch
          refine InReg.region ?_
          show InReg _ _ _ [0, 1, 2] _ _
          refine InReg.default (w' := W4) (c := c) (z := .int .i64 0) rfl rfl (by simp [go_sem, execOp, rcase, Act.eval]) hc ?_
          refine InReg.val (w' := W4) (v := goInt (-1)) rfl rfl (by simp [go_sem, execOp, Act.eval, Act.put]) ?_
          refine InReg.val (w' := W4) (v := .bool false) rfl rfl (by simp [go_sem, execOp, Act.eval, Act.put, goInt]) ?_
          refine InReg.nil ?_
          clear hc
          go_wp2_with (go_at_call 71; refine (rdEnds_any p r none _ T1.out.s.rd).mono ?_; rintro e w2 ⟨rfl, hr2, hk2⟩; have HR2 := Lib.hid hr2; have HK2 := Lib.hid hk2; clear hr2 hk2)
          go_end0
          exact ⟨rfl, by rw [HL3.out]; exact HR2.out, T1.out.s.ck.trans HK2.out⟩
      · dsimp only at HLO
        have HL3 := Lib.hid HLO.out
        clear HLO
        simp only [erV]
        go_upto_region 4 with fail
        clear hmk
        generalize W2.alloc (.chan 1 #[] false 0 0 false) = W3 at *
        generalize W2.heap.size = c at *
        have c10 : W3.cell? ⟨p, 10, none⟩ = some (erV r.err) := Blk.cell T0.out.s.rd 10
        have f10 := Blk.frozen T0.out.s.rd 10
        go_upto_region 5 with fail
        have T1 := Lib.hid (T0.out.set1 (r' := { r with err := some n }) 10 (.iface ErrT (.int .i64 n)) rfl)
        clear c10 f10 T0
        generalize W3.setCell ⟨p, 10, none⟩ (.iface ErrT (.int .i64 n)) = W4 at *
        obtain ⟨s, q, hc⟩ := T1.out.ch
        refine InReg.region ?_
        show InReg _ _ _ [0, 1] _ _
        refine InReg.val (w' := W4) (v := .chan (some c)) rfl rfl (by simp [go_sem, execOp, Act.eval]) ?_
        refine InReg.send (w' := W4) (c := c) (v := .int .i64 5) (z := .tuple #[]) rfl rfl (by simp [go_sem, execOp, scase, Act.eval, Act.put]) hc (by simp) ?_
        refine InReg.nil ?_
        have T5 := Lib.hid (T1.out.chan (L' := [5]) (buf := (([] : List Int).map iv).toArray.push (.int .i64 5)) rfl (s + 1) q)
        clear hc T1
        generalize W4.setChan c 1 ((([] : List Int).map iv).toArray.push (.int .i64 5)) false (s + 1) q false = W5 at *
        go_upto_region 10 with fail
        obtain ⟨s2, q2, hc⟩ := T5.out.ch
        refine InReg.region ?_
        show InReg _ _ _ [0, 1, 2] _ _
        refine InReg.recv (w' := W5) (c := c) (z := .int .i64 0) rfl rfl (by simp [go_sem, execOp, rcase, Act.eval]) hc (by simp) ?_
        have T7 := Lib.hid (T5.out.chan (L' := []) (buf := (([5] : List Int).map iv).toArray.extract 1 (([5] : List Int).map iv).toArray.size) rfl s2 (q2 + 1))
        clear hc T5
        generalize W5.setChan c 1 ((([5] : List Int).map iv).toArray.extract 1 (([5] : List Int).map iv).toArray.size) false s2 (q2 + 1) false = W6 at *
        refine InReg.val (w' := W6) (v := goInt 0) rfl rfl (by simp [go_sem, execOp, Act.eval, Act.put]) ?_
        refine InReg.val (w' := W6) (v := .bool true) rfl rfl (by simp [go_sem, execOp, Act.eval, Act.put, goInt]) ?_
        refine InReg.nil ?_
        rw [show ((([5] : List Int).map iv).toArray.getD 0 undef) = .int .i64 5 from rfl]
        have c2 : W6.cell? ⟨p, 2, none⟩ = some (.int .i64 r.phase) := Blk.cell T7.out.s.rd 2
        have f2 := Blk.frozen T7.out.s.rd 2
        have T6 := Lib.hid (T7.out.set1 (r' := { ({ r with err := some n } : Sp.Rdr) with phase := 5 }) 2 (.int .i64 5) rfl)
        clear T7
        go_wp2_with fail
        go_end0
        exact ⟨rfl, by rw [HL3.out]; exact T6.out.s.rd, T6.out.s.ck⟩
end Go.Proofs.YtmcpkhknjdiocaaGreat
namespace Go.Proofs.YtmcpkhknjdiocaaGreat
open Go.RowKit
attribute [local go_sem low] mk_extract
attribute [local go_sem] After.cell After.frozen mk_extract_end ByteArray.mk_append_mk
theorem RdAt.ne {w : World} {p l : Nat} {r : Sp.Rdr} {wn : Int} {sl : List Sp.Sl} (h : RdAt w p r) (hl : LockAt w l wn sl) : p ≠ l := fun e => by
  subst e
  exact Blk.not_ h (by decide) _ hl.bl
set_option maxRecDepth 100000 in
set_option maxHeartbeats 6400000 in
theorem rdGoes_any (p f m l : Nat) (r : Sp.Rdr) (v : Value) (V : List Txt) (wn : Int) (sl : List Sp.Sl) (w : World) (hr : RdAt w p r) (hf : FileAt w f v m V) (hl : LockAt w l wn sl) (hn : V.length ≤ 400) (hph : 1 ≤ r.phase ∧ r.phase ≤ 5) :
    Calls Tryz.prog 44 #[.pointer (some ⟨p, 0, none⟩), .pointer (some ⟨f, 0, none⟩), .pointer (some ⟨l, 0, none⟩)] w fun e w' => e = .returned (.tuple #[]) ∧ RdAt w' p (r.goes (Sp.atV V 0) (Sp.atV V 1) sl).1 ∧ LockAt w' l wn (r.goes (Sp.atV V 0) (Sp.atV V 1) sl).2 ∧ Chg (fun k => k = p ∨ k = l) w w' := by
  have hpl := hr.ne hl
  have HR := Lib.hid hr
  have HF := Lib.hid hf
  have HL := Lib.hid hl
  have c0 : w.cell? ⟨p, 0, none⟩ = some (.int .i64 r.pid) := Blk.cell hr 0
  have c2 : w.cell? ⟨p, 2, none⟩ = some (.int .i64 r.phase) := Blk.cell hr 2
  have f2 := Blk.frozen hr 2
  have c3 : w.cell? ⟨p, 3, none⟩ = some (.int .i64 r.slot) := Blk.cell hr 3
  have f3 := Blk.frozen hr 3
  clear hr hf hl
  rcases (by omega : r.phase = 1 ∨ r.phase = 2 ∨ r.phase = 3 ∨ r.phase = 4 ∨ r.phase = 5) with h | h | h | h | h
  · rw [h] at c2
    have HG := Lib.hid (show r.goes (Sp.atV V 0) (Sp.atV V 1) sl = (match Sp.claim sl r.pid with | some i => { r with slot := (i : Int), phase := 2 } | none => { r with phase := 0, err := some 15 }, Sp.claimed sl r.pid) by unfold Sp.Rdr.goes; rw [if_pos h]; rfl)
    rcases hcl : Sp.claim sl r.pid with _ | i
    · have HCV := Lib.hid (show claimV sl r.pid = .tuple #[.int .i64 (-1), .iface ErrT (.int .i64 15)] by unfold claimV; rw [hcl])
      rw [hcl] at HG
      dsimp only at HG
      clear hcl h hph
      go_enter Tryz.func44, Tryz.ntmps44
      go_wp2_with (first
        | (go_at_call 15; refine (claim_any l wn sl r.pid _ HL.out).mono ?_; rintro e w2 ⟨rfl, hl2, hk2⟩; rw [HCV.out]; have HL2 := Lib.hid hl2; have HK2 := Lib.hid hk2; have HR2 := Lib.hid (HR.out.chg hk2 (by unfold OneM; exact hpl)); clear hl2 hk2)
        | (go_at_call 71; refine (rdEnds_any p r (some 15) _ HR2.out).mono ?_; rintro e w3 ⟨rfl, hr3, hk3⟩; have HR3 := Lib.hid hr3; have HK3 := Lib.hid hk3; clear hr3 hk3))
      refine bodyPost_ret (v := .tuple #[]) (by first | rfl | simp [results, Tryz.results44, go_sem]) rfl ⟨rfl, by rw [HG.out]; exact HR3.out, by rw [HG.out]; exact HL2.out.chg HK3.out (by unfold OneM; exact fun e => hpl e.symm), ?_⟩
      exact (HK2.out.mono (fun k _ h => .inr h)).trans (HK3.out.mono (fun k _ h => .inl h))
    · have HCV := Lib.hid (show claimV sl r.pid = .tuple #[.int .i64 (i : Int), .nilIface] by unfold claimV; rw [hcl])
      rw [hcl] at HG
      dsimp only at HG
      clear hcl h hph
      go_enter Tryz.func44, Tryz.ntmps44
      go_upto_region 5 with (go_at_call 15; refine (claim_any l wn sl r.pid _ HL.out).mono ?_; rintro e w2 ⟨rfl, hl2, hk2⟩; rw [HCV.out]; have HL2 := Lib.hid hl2; have HK2 := Lib.hid hk2; have HR2 := Lib.hid (HR.out.chg hk2 (by unfold OneM; exact hpl)); clear hl2 hk2)
      clear c0 c2 f2 c3 f3
      have c2 : w2.cell? ⟨p, 2, none⟩ = some (.int .i64 r.phase) := Blk.cell HR2.out 2
      have f2 := Blk.frozen HR2.out 2
      have c3 : w2.cell? ⟨p, 3, none⟩ = some (.int .i64 r.slot) := Blk.cell HR2.out 3
      have f3 := Blk.frozen HR2.out 3
      go_wp2_with fail
      go_end0
      have hks : Chg (OneM p) w2 ((w2.setCell ⟨p, 3, none⟩ (.int .i64 (i : Int))).setCell ⟨p, 2, none⟩ (.int .i64 2)) := (Chg.set1 _ _ _ _).trans (Chg.set1 _ _ _ _)
      refine ⟨rfl, by rw [HG.out]; exact (Blk.set_ HR2.out 3 _).set_ 2 _, by rw [HG.out]; exact HL2.out.chg hks (by unfold OneM; exact fun e => hpl e.symm), ?_⟩
      exact (HK2.out.mono (fun k _ h => .inr h)).trans (hks.mono (fun k _ h => .inl h))
  · rw [h] at c2
    have HG := Lib.hid (show r.goes (Sp.atV V 0) (Sp.atV V 1) sl = (r.looks (Sp.atV V 0) (Sp.atV V 1), sl) by unfold Sp.Rdr.goes; rw [if_neg (by omega), if_pos (.inl h)])
    clear h hph
    go_enter Tryz.func44, Tryz.ntmps44
    go_wp2_with (go_at_call 72; refine (rdLooks_any p f m r v V _ HR.out HF.out hn).mono ?_; rintro e w2 ⟨rfl, hr2, hk2⟩; have HR2 := Lib.hid hr2; have HK2 := Lib.hid hk2; clear hr2 hk2)
    go_end0
    exact ⟨rfl, by rw [HG.out]; exact HR2.out, by rw [HG.out]; exact HL.out.chg HK2.out (by unfold OneM; exact fun e => hpl e.symm), HK2.out.mono (fun k _ h => .inl h)⟩
  · rw [h] at c2
    have HG := Lib.hid (show r.goes (Sp.atV V 0) (Sp.atV V 1) sl = (if Sp.owns sl r.slot r.pid then { r with phase := 4 } else { r with phase := 0, err := some 18 }, Sp.publish sl r.slot r.pid r.mt.txn) by unfold Sp.Rdr.goes; rw [if_neg (by omega), if_neg (by omega), if_pos h])
    clear h hph
    have HR1 := Lib.hid (show RdAt (w.setCell ⟨p, 2, none⟩ (.int .i64 4)) p { r with phase := 4 } from Blk.set_ HR.out 2 (.int .i64 4))
    have HK1 := Lib.hid (Chg.set1 w p 2 (.int .i64 4))
    have HL1 := Lib.hid (HL.out.chg HK1.out (by unfold OneM; exact fun e => hpl e.symm))
    rcases how : Sp.owns sl r.slot r.pid with _ | _
    all_goals
      rw [how] at HG
      simp only [if_true, Bool.false_eq_true, if_false] at HG
      have HOW := Lib.hid how
      clear how
      go_enter Tryz.func44, Tryz.ntmps44
      go_upto_region 11 with fail
      clear c0 c2 f2 c3 f3
      generalize w.setCell ⟨p, 2, none⟩ (.int .i64 4) = W1 at *
      have c0 : W1.cell? ⟨p, 0, none⟩ = some (.int .i64 r.pid) := Blk.cell HR1.out 0
      have c3 : W1.cell? ⟨p, 3, none⟩ = some (.int .i64 r.slot) := Blk.cell HR1.out 3
      have c4 : W1.cell? ⟨p, 4, none⟩ = some (.int .u64 r.mt.txn) := Blk.cell HR1.out 4
      go_region_law (go_simp; go_at_call 73; refine (publish_any l wn sl r.slot r.pid r.mt.txn _ ⟨Blk.drew HL1.out.bl, HL1.out.len⟩).mono ?_; rintro e w2 ⟨rfl, hl2, hk2⟩; rw [HOW.out]; simp only [if_true, Bool.false_eq_true, if_false, erV]; have HL2 := Lib.hid hl2; have HK2 := Lib.hid (Chg.trans ((Chg.refl (OneM l) W1).drew) hk2); have HR2 := Lib.hid (RdAt.chg HR1.out HK2.out (by unfold OneM; exact hpl)); clear hl2 hk2)
      all_goals
        go_wp2_with (go_at_call 71; refine (rdEnds_any p { r with phase := 4 } (some 18) _ HR2.out).mono ?_; rintro e w3 ⟨rfl, hr3, hk3⟩; have HR3 := Lib.hid hr3; have HK3 := Lib.hid hk3; clear hr3 hk3)
        go_end0
        first
          | exact ⟨rfl, by rw [HG.out]; exact HR2.out, by rw [HG.out]; exact HL2.out, (HK1.out.mono (fun k _ h => .inl h)).trans (HK2.out.mono (fun k _ h => .inr h))⟩
          | exact ⟨rfl, by rw [HG.out]; exact HR3.out, by rw [HG.out]; exact HL2.out.chg HK3.out (by unfold OneM; exact fun e => hpl e.symm), ((HK1.out.mono (fun k _ h => .inl h)).trans (HK2.out.mono (fun k _ h => .inr h))).trans (HK3.out.mono (fun k _ h => .inl h))⟩
  · rw [h] at c2
    have HG := Lib.hid (show r.goes (Sp.atV V 0) (Sp.atV V 1) sl = (r.looks (Sp.atV V 0) (Sp.atV V 1), sl) by unfold Sp.Rdr.goes; rw [if_neg (by omega), if_pos (.inr h)])
    clear h hph
    go_enter Tryz.func44, Tryz.ntmps44
    go_wp2_with (go_at_call 72; refine (rdLooks_any p f m r v V _ HR.out HF.out hn).mono ?_; rintro e w2 ⟨rfl, hr2, hk2⟩; have HR2 := Lib.hid hr2; have HK2 := Lib.hid hk2; clear hr2 hk2)
    go_end0
    exact ⟨rfl, by rw [HG.out]; exact HR2.out, by rw [HG.out]; exact HL.out.chg HK2.out (by unfold OneM; exact fun e => hpl e.symm), HK2.out.mono (fun k _ h => .inl h)⟩
  · rw [h] at c2
    have HG := Lib.hid (show r.goes (Sp.atV V 0) (Sp.atV V 1) sl = ({ r with slot := -1, phase := 0 }, Sp.freeSl sl r.slot r.pid) by unfold Sp.Rdr.goes; rw [if_neg (by omega), if_neg (by omega), if_neg (by omega), if_pos h])
    clear h hph
    go_enter Tryz.func44, Tryz.ntmps44
    go_upto_region 15 with fail
    go_region_law (go_simp; go_at_call 74; refine (freeSl_any l wn sl r.slot r.pid _ ⟨Blk.drew HL.out.bl, HL.out.len⟩).mono ?_; rintro e w2 ⟨rfl, hl2, hk2⟩; have HL2 := Lib.hid hl2; have HK2 := Lib.hid (Chg.trans ((Chg.refl (OneM l) w).drew) hk2); have HR2 := Lib.hid (RdAt.chg HR.out HK2.out (by unfold OneM; exact hpl)); clear hl2 hk2)
    all_goals
      clear c0 c2 f2 c3 f3
      have c3 : w2.cell? ⟨p, 3, none⟩ = some (.int .i64 r.slot) := Blk.cell HR2.out 3
      have f3 := Blk.frozen HR2.out 3
      go_upto_region 17 with fail
      have HR3 := Lib.hid (show RdAt (w2.setCell ⟨p, 3, none⟩ (.int .i64 (-1))) p { r with slot := -1 } from Blk.set_ HR2.out 3 _)
      have HK3 := Lib.hid (Chg.set1 w2 p 3 (.int .i64 (-1)))
      clear c3 f3
      generalize w2.setCell ⟨p, 3, none⟩ (.int .i64 (-1)) = W3 at *
      have c10 : W3.cell? ⟨p, 10, none⟩ = some (erV r.err) := Blk.cell HR3.out 10
      go_wp2_with (go_at_call 71; refine (rdEnds_any p { r with slot := -1 } r.err _ HR3.out).mono ?_; rintro e w4 ⟨rfl, hr4, hk4⟩; have HR4 := Lib.hid hr4; have HK4 := Lib.hid hk4; clear hr4 hk4)
      all_goals
        go_end0
        have hk34 := HK3.out.trans HK4.out
        exact ⟨rfl, by rw [HG.out]; exact HR4.out, by rw [HG.out]; exact HL2.out.chg hk34 (by unfold OneM; exact fun e => hpl e.symm), (HK2.out.mono (fun k _ h => .inr h)).trans (hk34.mono (fun k _ h => .inl h))⟩
end Go.Proofs.YtmcpkhknjdiocaaGreat
namespace Go.Proofs.YtmcpkhknjdiocaaGreat
open Go.RowKit
attribute [local go_sem low] mk_extract
attribute [local go_sem] After.cell After.frozen mk_extract_end ByteArray.mk_append_mk
namespace Sp
/-- A step: what it answers, what it leaves. -/
def Rdr.step (r : Rdr) (a b : Txt) (sl : List Sl) : (Bool × Option Int) × (Rdr × List Sl) :=
  if r.phase = 0 then ((true, r.err), (r, sl)) else if (r.goes a b sl).1.phase = 0 then ((true, (r.goes a b sl).1.err), r.goes a b sl) else ((false, none), r.goes a b sl)
end Sp
set_option maxRecDepth 100000 in
set_option maxHeartbeats 6400000 in
theorem rdStep_any (p f m l : Nat) (r : Sp.Rdr) (v : Value) (V : List Txt) (wn : Int) (sl : List Sp.Sl) (w : World) (hr : RdAt w p r) (hf : FileAt w f v m V) (hl : LockAt w l wn sl) (hn : V.length ≤ 400) (hph : 0 ≤ r.phase ∧ r.phase ≤ 5) :
    Calls Tryz.prog 20 #[.pointer (some ⟨p, 0, none⟩), .pointer (some ⟨f, 0, none⟩), .pointer (some ⟨l, 0, none⟩)] w fun e w' => e = .returned (.tuple #[.bool (r.step (Sp.atV V 0) (Sp.atV V 1) sl).1.1, erV (r.step (Sp.atV V 0) (Sp.atV V 1) sl).1.2]) ∧ RdAt w' p (r.step (Sp.atV V 0) (Sp.atV V 1) sl).2.1 ∧ LockAt w' l wn (r.step (Sp.atV V 0) (Sp.atV V 1) sl).2.2 ∧ Chg (fun k => k = p ∨ k = l) w w' := by
  have HR := Lib.hid hr
  have HF := Lib.hid hf
  have HL := Lib.hid hl
  have HST := Lib.hid (show r.step (Sp.atV V 0) (Sp.atV V 1) sl = if r.phase = 0 then ((true, r.err), (r, sl)) else if (r.goes (Sp.atV V 0) (Sp.atV V 1) sl).1.phase = 0 then ((true, (r.goes (Sp.atV V 0) (Sp.atV V 1) sl).1.err), r.goes (Sp.atV V 0) (Sp.atV V 1) sl) else ((false, none), r.goes (Sp.atV V 0) (Sp.atV V 1) sl) from rfl)
  have c2 : w.cell? ⟨p, 2, none⟩ = some (.int .i64 r.phase) := Blk.cell hr 2
  have hpw := Blk.lt hr
  by_cases h0 : r.phase = 0
  · rw [h0] at c2
    have c5 : w.cell? ⟨p, 10, none⟩ = some (erV r.err) := Blk.cell hr 10
    have HS := Lib.hid (HST.out.trans (if_pos h0))
    clear hr hf hl HST h0 hph
    generalize r.step (Sp.atV V 0) (Sp.atV V 1) sl = st at *
    go_enter Tryz.func20, Tryz.ntmps20
    go_wp2_with fail
    go_step3
    go_wp2_with fail
    go_step3
    go_wp2_with fail
    go_loopw [8] (fun _ wr => wr = w) (fun _ _ => 0)
    case atStart => rfl
    case round =>
      subst hrel
      go_upto_region 5 with fail
      refine wp_region_row (by kernel_rfl) (by kernel_rfl) ?_
      repeat (first | go_big_quiet_skip | go_big_quiet_step (fail))
      refine wpQuiet_nil ?_
      intro w2 hb2
      go_wp2_with fail
      try rw [Exit.noGoto_ret]
      refine bodyPost_ret (v := .tuple #[.bool true, erV r.err]) (by simp [results, Tryz.results20, go_sem]) rfl ⟨by rw [HS.out], by rw [HS.out]; exact HR.out.go hb2, by rw [HS.out]; exact HL.out.go hb2, Chg.of_below hb2⟩
  · have HG := Lib.hid (rdGoes_any p f m l r v V wn sl w hr hf hl hn (by omega))
    have e0 : (r.phase == 0) = false := beq_eq_false_iff_ne.2 h0
    have HS := Lib.hid (HST.out.trans (if_neg h0))
    have hpos : 0 < r.phase := by omega
    clear hr hf hl HST h0 hph
    generalize r.step (Sp.atV V 0) (Sp.atV V 1) sl = st at *
    generalize r.goes (Sp.atV V 0) (Sp.atV V 1) sl = g at *
    obtain ⟨g1, g2⟩ := g
    dsimp only at HG HS
    by_cases hg : g1.phase = 0
    · have HS2 := Lib.hid (HS.out.trans (if_pos hg))
      have e1 : (g1.phase == 0) = true := beq_iff_eq.2 hg
      have e2 : (g1.phase != 0) = false := by simp [hg]
      have HG1 := Lib.hid hg
      clear HS hg
      go_enter Tryz.func20, Tryz.ntmps20
      go_wp2_with fail
      go_step3
      go_wp2_with fail
      go_step3
      go_wp2_with fail
      go_loopw [8] (fun _ wr => (wr = w) ∨ (RdAt wr p g1 ∧ LockAt wr l wn g2 ∧ Chg (fun k => k = p ∨ k = l) w wr)) (fun _ W => match W.cell? ⟨p, 2, none⟩ with | some (.int .i64 n) => n.toNat | _ => 0)
      case atStart => exact .inl rfl
      case round =>
        rcases hrel with rfl | ⟨hr2, hl2, hk2⟩
        · go_upto_region 3 with (go_at_call 44; refine HG.out.mono ?_; rintro e w2 ⟨rfl, hr2, hl2, hk2⟩; have HR2 := Lib.hid hr2; have HL2 := Lib.hid hl2; have HK2 := Lib.hid hk2; clear hr2 hl2 hk2)
          have c2' : w2.cell? ⟨p, 2, none⟩ = some (.int .i64 g1.phase) := Blk.cell HR2.out 2
          go_wp2_with fail
          go_roundw
          case rel => exact .inr ⟨HR2.out, HL2.out, HK2.out⟩
          case measure => rw [c2, c2', HG1.out]; simp; omega
        · have c2' : wr.cell? ⟨p, 2, none⟩ = some (.int .i64 0) := by have := Blk.cell hr2 2; rw [← HG1.out]; exact this
          have c5 : wr.cell? ⟨p, 10, none⟩ = some (erV g1.err) := Blk.cell hr2 10
          have hpw := Blk.lt hr2
          have HR2 := Lib.hid hr2
          have HL2 := Lib.hid hl2
          have HK2 := Lib.hid hk2
          clear hr2 hl2 hk2 c2
          go_upto_region 5 with fail
          refine wp_region_row (by kernel_rfl) (by kernel_rfl) ?_
          repeat (first | go_big_quiet_skip | go_big_quiet_step (fail))
          refine wpQuiet_nil ?_
          intro w3 hb3
          go_wp2_with fail
          try rw [Exit.noGoto_ret]
          refine bodyPost_ret (v := .tuple #[.bool true, erV g1.err]) (by simp [results, Tryz.results20, go_sem]) rfl ⟨by rw [HS2.out], by rw [HS2.out]; exact HR2.out.go hb3, by rw [HS2.out]; exact HL2.out.go hb3, HK2.out.trans (Chg.of_below hb3)⟩
    · have HS2 := Lib.hid (HS.out.trans (if_neg hg))
      have e2 : (g1.phase != 0) = true := by simp [hg]
      clear HS hg
      go_enter Tryz.func20, Tryz.ntmps20
      go_wp2_with fail
      go_step3
      go_wp2_with fail
      go_step3
      go_wp2_with fail
      go_loopw [8] (fun _ wr => wr = w) (fun _ _ => 0)
      case atStart => rfl
      case round =>
        subst hrel
        go_upto_region 3 with (go_at_call 44; refine HG.out.mono ?_; rintro e w2 ⟨rfl, hr2, hl2, hk2⟩; have HR2 := Lib.hid hr2; have HL2 := Lib.hid hl2; have HK2 := Lib.hid hk2; clear hr2 hl2 hk2)
        have c2' : w2.cell? ⟨p, 2, none⟩ = some (.int .i64 g1.phase) := Blk.cell HR2.out 2
        go_wp2_with fail
        try rw [Exit.noGoto_ret]
        refine bodyPost_ret (v := .tuple #[.bool false, .nilIface]) (by simp [results, Tryz.results20, go_sem]) rfl ⟨by rw [HS2.out]; rfl, by rw [HS2.out]; exact HR2.out, by rw [HS2.out]; exact HL2.out, HK2.out⟩
end Go.Proofs.YtmcpkhknjdiocaaGreat
namespace Go.Proofs.YtmcpkhknjdiocaaGreat
open Go.RowKit
attribute [local go_sem low] mk_extract
attribute [local go_sem] After.cell After.frozen mk_extract_end ByteArray.mk_append_mk
namespace Sp
theorem pgM_is {m : Mt} (h : isMt m = true) : isPage (pgM m) = true := by
  have hm : m ≠ mt0 := by
    rintro rfl
    revert h
    decide
  simp [isPage, pgM, has, h]
theorem pgM_no {m : Mt} (h : isMt m = false) : isPage (pgM m) = false := by
  simp [isPage, pgM, h]
theorem pgM_rng {m : Mt} (hr : 0 ≤ m.txn ∧ m.txn < 18446744073709551616) : Rng (pgM m) := ⟨by simp [pgM], hr⟩
theorem metaB_no {m : Mt} (h : isMt m = false) : metaB m = [] := bytes_no (pgM_no h)
theorem metaB_len {m : Mt} (h : isMt m = true) : 16 ≤ (metaB m).length := bytes_len (pgM_is h)
theorem metaB_le (m : Mt) : (metaB m).length ≤ 100 := by
  rcases h : isMt m with _ | _
  · rw [metaB_no h]; simp
  · rw [metaB, bytes_of (pgM_is h)]
    simp [body, partsB, pgM, mtB, le8_length, rootB_len]
theorem metaB_ne {m : Mt} (h : isMt m = true) : metaB m ≠ [] := fun e => by
  have := metaB_len h
  rw [e] at this
  simp at this
theorem right_bad {s : Txt} (h : readOk s = false) (i : Int) : right s i = none := by
  unfold right
  rw [if_neg (by simp [h])]
theorem right_metaB {m : Mt} (h : isMt m = true) (hr : 0 ≤ m.txn ∧ m.txn < 18446744073709551616) (i : Int) : right (metaB m) i = if m.txn % 2 = i then some m else none := by
  have h1 := pgM_is h
  have h2 := pgM_rng hr
  unfold right metaB
  rw [readOk_bytes h1 h2, parse_bytes h1 h2]
  simp [pgM]
theorem right_nil (i : Int) : right [] i = none := right_bad (by decide +kernel) i
theorem right_x (i : Int) : right [120] i = none := right_bad (by decide +kernel) i
theorem right_more {m : Mt} (h : isMt m = true) (hr : 0 ≤ m.txn ∧ m.txn < 18446744073709551616) {t : Txt} (ht : t ≠ []) (i : Int) : right (metaB m ++ t) i = none :=
  right_bad (more_no (pgM_is h) (pgM_rng hr) ht) i
theorem right_less {m : Mt} (h : isMt m = true) (hr : 0 ≤ m.txn ∧ m.txn < 18446744073709551616) {k : Nat} (hk : k < (metaB m).length) (i : Int) : right ((metaB m).take k) i = none := by
  refine right_bad (less_no (pgM_is h) (pgM_rng hr) (t := (metaB m).drop k) (fun e => ?_) (List.take_append_drop k _).symm) i
  have := congrArg List.length e
  simp only [List.length_drop, List.length_nil] at this
  omega
theorem leN_cons (k : Nat) (n : Int) : leN (k + 1) n = UInt8.ofNat (n % 256).toNat :: leN k (n / 256) := rfl
theorem kind_no {p : Page} (h1 : p.kind = 0 ∨ p.kind = 1073741824) : isPage p = false := by
  unfold isPage
  rcases h1 with h | h <;> rw [h] <;> simp
theorem page_kind (c : Cut) : c.page.1.kind = c.num.1 := by
  unfold Cut.page
  repeat' split
  all_goals rfl
theorem right_drop {m : Mt} (h : isMt m = true) (i : Int) : right ((metaB m).drop 1) i = none := by
  refine right_bad ?_ i
  have e : ∃ (u v z : Txt) (t0 : UInt8), (metaB m).drop 1 = u ++ (v ++ z) ∧ u.length = 8 ∧ v = [0, 0, 0, 0, 0, 0, 0, t0] := by
    refine ⟨leN 7 (sum (body (pgM m)) / 256) ++ [6], [0, 0, 0, 0, 0, 0, 0, UInt8.ofNat (m.txn % 256).toNat], leN 7 (m.txn / 256) ++ (rootB m.main ++ (le8 m.free ++ le8 m.last)), _, ?_, by simp [leN_length], rfl⟩
    unfold metaB
    rw [bytes_of (pgM_is h)]
    have e2 : body (pgM m) = le8 6 ++ mtB m := by simp [body, partsB, pgM]
    have e3 : le8 6 = [6, 0, 0, 0, 0, 0, 0, 0] := by decide
    have hS : ∀ n, le8 n = UInt8.ofNat (n % 256).toNat :: leN 7 (n / 256) := fun _ => rfl
    generalize sum (body (pgM m)) = S
    rw [e2, e3, hS S]
    unfold mtB
    rw [hS m.txn]
    simp only [List.append_assoc, List.cons_append, List.nil_append, List.drop_succ_cons, List.drop_zero]
  obtain ⟨u, v, z, t0, e, hu, rfl⟩ := e
  rw [e]
  have hp : (parse (u ++ ([0, 0, 0, 0, 0, 0, 0, t0] ++ z))).kind = 0 ∨ (parse (u ++ ([0, 0, 0, 0, 0, 0, 0, t0] ++ z))).kind = 1073741824 := by
    unfold parse Cut.u64
    dsimp only
    rw [rest_app _ _ hu, page_kind]
    unfold Cut.num
    rw [take_app [0, 0, 0, 0, 0, 0, 0, t0] z (n := 8) rfl]
    simp only [unle]
    have := t0.toNat_lt
    have h0 : (0 : UInt8).toNat = 0 := rfl
    rw [h0]
    omega
  have hk := bytes_no (kind_no hp)
  unfold readOk
  rw [hk]
  simp only [Bool.and_eq_false_iff, decide_eq_false_iff_not]
  right
  intro h
  have := congrArg List.length h
  simp at this
def two : Option Mt → Option Mt → Option Mt
  | none, y => y
  | some m, none => some m
  | some m, some n => if m.txn < n.txn then some n else some m
theorem choose_eq (a b : Txt) : choose a b = two (right a 0) (right b 1) := by
  unfold choose
  cases right a 0 <;> cases right b 1 <;> simp [later, two]
def mt2 (n l : Int) : Mt := ⟨n, root0, 0, l⟩
theorem mt2_is {n l : Int} (h : 2 ≤ l ∧ l ≤ 400) : isMt (mt2 n l) = true := by
  simp [isMt, mt2, root0, isRoot, noneOr, h.1, h.2]
def neP (x y : Txt) : Nat → Txt
  | 0 => []
  | 1 => [120]
  | 2 => x ++ [122]
  | _ => y
def neQ (x y : Txt) : Nat → Txt
  | 0 => []
  | 1 => [120]
  | 2 => x
  | _ => y.take 5
theorem neither {n m : Int} (hn : 0 ≤ n ∧ n < 18446744073709551616) (hm : 0 ≤ m ∧ m < 18446744073709551616) (h0 : n % 2 = 0) (h1 : m % 2 = 1) (i j : Nat) : choose (neP (metaB (mt2 n 2)) (metaB (mt2 m 2)) i) (neQ (metaB (mt2 n 2)) (metaB (mt2 m 2)) j) = none := by
  have x := mt2_is (n := n) (l := 2) (by omega)
  have y := mt2_is (n := m) (l := 2) (by omega)
  have hy := metaB_len y
  have hp : right (neP (metaB (mt2 n 2)) (metaB (mt2 m 2)) i) 0 = none := by
    unfold neP
    split
    · exact right_nil 0
    · exact right_x 0
    · exact right_more x hn (by simp) 0
    · rw [right_metaB y hm, if_neg (by show ¬ m % 2 = 0; omega)]
  have hq : right (neQ (metaB (mt2 n 2)) (metaB (mt2 m 2)) j) 1 = none := by
    unfold neQ
    split
    · exact right_nil 1
    · exact right_x 1
    · rw [right_metaB x hn, if_neg (by show ¬ n % 2 = 1; omega)]
    · exact right_less y hm (by omega) 1
  rw [choose_eq, hp, hq]
  rfl
theorem metaB2_len {n : Int} : (metaB (mt2 n 2)).length ≤ 100 := by
  rw [metaB, bytes_of (pgM_is (mt2_is (by omega)))]
  simp [body, partsB, pgM, mtB, le8_length, rootB_len]
theorem ne_len {n m : Int} (i j : Nat) : (neP (metaB (mt2 n 2)) (metaB (mt2 m 2)) i).length ≤ 4611686018427387904 ∧ (neQ (metaB (mt2 n 2)) (metaB (mt2 m 2)) j).length ≤ 4611686018427387904 := by
  have hl : ∀ n, (metaB (mt2 n 2)).length ≤ 100 := fun n => by
    rw [metaB, bytes_of (pgM_is (mt2_is (by omega)))]
    simp [body, partsB, pgM, mtB, le8_length, rootB_len]
  have h1 := hl n
  have h2 := hl m
  constructor
  · unfold neP; split <;> (try simp) <;> omega
  · unfold neQ; split <;> (try simp) <;> omega
end Sp
end Go.Proofs.YtmcpkhknjdiocaaGreat
namespace Go.Proofs.YtmcpkhknjdiocaaGreat
open Go.RowKit
attribute [local go_sem low] mk_extract
attribute [local go_sem] After.cell After.frozen mk_extract_end ByteArray.mk_append_mk
namespace Sp
/-- The two metas' pages when version t is the last one. -/
def filesAt (t : Int) : List Txt := if t % 2 = 0 then [metaB (mt2 t 2), metaB (mt2 (t - 1) 2)] else [metaB (mt2 (t - 1) 2), metaB (mt2 t 2)]
theorem filesAt_len (t : Int) : (filesAt t).length = 2 := by
  unfold filesAt
  split <;> rfl
theorem filesAt_sz (t : Int) : ∀ s ∈ filesAt t, s.length ≤ 4611686018427387904 := by
  intro s hs
  unfold filesAt at hs
  have h1 := metaB_le (mt2 t 2)
  have h2 := metaB_le (mt2 (t - 1) 2)
  split at hs <;> simp only [List.mem_cons, List.not_mem_nil, or_false] at hs <;> rcases hs with rfl | rfl <;> omega
theorem filesAt_set {t : Int} (ht : 0 ≤ t) : (filesAt t).set ((t + 1) % 2).toNat (metaB (mt2 (t + 1) 2)) = filesAt (t + 1) := by
  unfold filesAt
  rcases (by omega : t % 2 = 0 ∨ t % 2 = 1) with h | h
  · rw [if_pos h, if_neg (by omega), show ((t + 1) % 2).toNat = 1 by omega, show t + 1 - 1 = t by omega]
    rfl
  · rw [if_neg (by omega), if_pos (by omega), show ((t + 1) % 2).toNat = 0 by omega, show t + 1 - 1 = t by omega]
    rfl
theorem filesAt_choose {t : Int} (h0 : 1 ≤ t) (h1 : t < 18446744073709551616) : choose (atV (filesAt t) 0) (atV (filesAt t) 1) = some (mt2 t 2) := by
  have x := mt2_is (n := t) (l := 2) (by omega)
  have y := mt2_is (n := t - 1) (l := 2) (by omega)
  have e1 : (mt2 t 2).txn = t := rfl
  have e2 : (mt2 (t - 1) 2).txn = t - 1 := rfl
  rw [choose_eq]
  unfold filesAt
  rcases (by omega : t % 2 = 0 ∨ t % 2 = 1) with h | h
  · rw [if_pos h]
    show two (right (metaB (mt2 t 2)) 0) (right (metaB (mt2 (t - 1) 2)) 1) = _
    rw [right_metaB x (by rw [e1]; omega), right_metaB y (by rw [e2]; omega), e1, e2, if_pos h, if_pos (by omega)]
    unfold two
    dsimp only
    rw [e1, e2, if_neg (by omega)]
  · rw [if_neg (by omega)]
    show two (right (metaB (mt2 (t - 1) 2)) 0) (right (metaB (mt2 t 2)) 1) = _
    rw [right_metaB x (by rw [e1]; omega), right_metaB y (by rw [e2]; omega), e1, e2, if_pos h, if_pos (by omega)]
    unfold two
    dsimp only
    rw [e1, e2, if_pos (by omega)]
theorem fresh0 : fresh 0 = mt2 0 2 := by decide
theorem fresh1 : fresh 1 = mt2 1 2 := by decide
/-- The slots of a lock of which a process has the first one. -/
def oneSl (pid txn : Int) : List Sl := ⟨pid, txn⟩ :: List.replicate 7 sl0
theorem oneSl_len (pid txn : Int) : (oneSl pid txn).length = 8 := rfl
theorem claim_new {pid : Int} (hp : 0 < pid) : claim (List.replicate 8 sl0) pid = some 0 ∧ claimed (List.replicate 8 sl0) pid = oneSl pid 0 := by
  have h : claim (List.replicate 8 sl0) pid = some 0 := by
    unfold claim frees
    simp [hp, List.range_succ, sl0]
  refine ⟨h, ?_⟩
  unfold claimed
  rw [h]
  rfl
theorem own_one {pid txn : Int} (hp : 0 < pid) : owns (oneSl pid txn) 0 pid = true := by
  unfold owns oneSl
  simp [hp]
section
variable {a b : Txt} {pid most slot t x : Int} {m : Mt} {er : Option Int} {sl : List Sl}
theorem step_claims (hp : 0 < pid) : (⟨pid, most, 1, -1, m, er⟩ : Rdr).step a b (List.replicate 8 sl0) = ((false, none), (⟨pid, most, 2, 0, m, er⟩, oneSl pid 0)) := by
  obtain ⟨h1, h2⟩ := claim_new hp
  unfold Rdr.step Rdr.goes
  dsimp only
  rw [h1, h2]
  rfl
theorem see_at (hc : choose a b = some (mt2 t 2)) (hm : 2 ≤ most) : see most a b = (mt2 t 2, none) := by
  unfold see
  rw [hc]
  have : ¬ most < (mt2 t 2).last := by show ¬ most < 2; omega
  simp [this]
theorem step_chooses (hc : choose a b = some (mt2 t 2)) (hm : 2 ≤ most) : (⟨pid, most, 2, slot, m, er⟩ : Rdr).step a b sl = ((false, none), (⟨pid, most, 3, slot, mt2 t 2, er⟩, sl)) := by
  unfold Rdr.step Rdr.goes Rdr.looks
  dsimp only
  rw [see_at hc hm]
  simp
theorem step_publishes (hp : 0 < pid) : (⟨pid, most, 3, 0, m, er⟩ : Rdr).step a b (oneSl pid x) = ((false, none), (⟨pid, most, 4, 0, m, er⟩, oneSl pid m.txn)) := by
  have h := own_one (txn := x) hp
  unfold Rdr.step Rdr.goes publish
  dsimp only
  rw [h]
  rfl
theorem step_same (hc : choose a b = some (mt2 t 2)) (hm : 2 ≤ most) (hx : m.txn = t) : (⟨pid, most, 4, slot, m, er⟩ : Rdr).step a b sl = ((true, none), (⟨pid, most, 0, slot, m, none⟩, sl)) := by
  unfold Rdr.step Rdr.goes Rdr.looks
  dsimp only
  rw [see_at hc hm]
  have : t = m.txn := hx.symm
  simp [mt2, this]
theorem step_other (hc : choose a b = some (mt2 t 2)) (hm : 2 ≤ most) (hx : m.txn ≠ t) : (⟨pid, most, 4, slot, m, er⟩ : Rdr).step a b sl = ((false, none), (⟨pid, most, 3, slot, mt2 t 2, er⟩, sl)) := by
  unfold Rdr.step Rdr.goes Rdr.looks
  dsimp only
  rw [see_at hc hm]
  have : ¬ t = m.txn := fun e => hx e.symm
  simp [mt2, this]
theorem step_done : (⟨pid, most, 0, slot, m, er⟩ : Rdr).step a b sl = ((true, er), (⟨pid, most, 0, slot, m, er⟩, sl)) := by
  unfold Rdr.step
  simp
end
end Sp
/-- A file, a lock, a reader of a law's own. -/
structure LwS (W0 : World) (f m l p : Nat) (v : Value) (V : List Txt) (sl : List Sp.Sl) (r : Sp.Rdr) (W : World) : Prop where
  hb : Below W0.heap.size W0 W
  ff : FileAt W f v m V
  lk : LockAt W l 0 sl
  rd : RdAt W p r
  hf : W0.heap.size ≤ m ∧ W0.heap.size ≤ l ∧ W0.heap.size ≤ p
  hv : ∀ k, v.ownBlock = some k → W0.heap.size ≤ k
theorem LwS.go {W0 W W' : World} {f m l p : Nat} {v : Value} {V : List Txt} {sl : List Sp.Sl} {r : Sp.Rdr} (h : LwS W0 f m l p v V sl r W) (hb : Below W.heap.size W W') : LwS W0 f m l p v V sl r W' :=
  ⟨h.hb.trans (hb.mono h.hb.size), h.ff.go hb, h.lk.go hb, h.rd.go hb, h.hf, h.hv⟩
theorem LwS.step {W0 W W' : World} {f m l p : Nat} {v : Value} {V : List Txt} {sl sl' : List Sp.Sl} {r r' : Sp.Rdr} (h : LwS W0 f m l p v V sl r W) (hr : RdAt W' p r') (hl : LockAt W' l 0 sl') (hk : Chg (fun k => k = p ∨ k = l) W W') : LwS W0 f m l p v V sl' r' W' := by
  obtain ⟨sv, hfb⟩ := h.ff.bf
  refine ⟨h.hb.trans (hk.below h.hb.size (fun k hk e => by have := h.hf; omega)), h.ff.chg hk ?_ ?_ ?_, hl, hr, h.hf, h.hv⟩
  · rintro (e | e)
    · subst e; exact Blk.not_ hfb (by decide) _ h.rd
    · subst e; exact Blk.not_ hfb (by decide) _ h.lk.bl
  · rintro (e | e)
    · subst e; exact h.ff.map.not_blk h.rd
    · subst e; exact h.ff.map.not_blk h.lk.bl
  · intro k hk'
    rintro (e | e)
    · subst e; exact own_not h.ff.own (by decide) _ hk' _ h.rd
    · subst e; exact own_not h.ff.own (by decide) _ hk' _ h.lk.bl
theorem LwS.write {W0 W W' : World} {f m l p : Nat} {v : Value} {V V' : List Txt} {sl : List Sp.Sl} {r : Sp.Rdr} (h : LwS W0 f m l p v V sl r W) (hf : FileAt W' f v m V') (hk : Chg (fun k => k = m ∨ v.ownBlock = some k) W W') : LwS W0 f m l p v V' sl r W' := by
  refine ⟨h.hb.trans (hk.below h.hb.size (fun k hk' e => ?_)), hf, h.lk.chg hk ?_, h.rd.chg hk ?_, h.hf, h.hv⟩
  · rcases e with e | e
    · have := h.hf; omega
    · have := h.hv k e; omega
  · rintro (e | e)
    · subst e; exact h.ff.map.not_blk h.lk.bl
    · exact own_not h.ff.own (by decide) _ e _ h.lk.bl
  · rintro (e | e)
    · subst e; exact h.ff.map.not_blk h.rd
    · exact own_not h.ff.own (by decide) _ e _ h.rd
end Go.Proofs.YtmcpkhknjdiocaaGreat
