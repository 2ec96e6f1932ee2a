/- The package's store: a page is put in place of another. The package's ids: Has. The package's store: a page is let go. The package's store in plain Lean: it stays as it may be. The package's store: a page that may be set. -/
import Derived.Test.YtkcfmjlcijhieaaGreatQB17
import Derived.Test.YtkcfmjlcijhieaaGreatQB22
set_option linter.unusedSimpArgs false
set_option linter.unusedVariables false
namespace Go.Proofs.YtkcfmjlcijhieaaGreat
open Go.RowKit
attribute [local go_sem low] mk_extract
attribute [local go_sem] After.cell After.frozen mk_extract_end ByteArray.mk_append_mk
open Go.Conc
theorem Sp.Sto.set_no (s : Sp.Sto) (i : Int) (p : Sp.Page) (h : Sp.lookD s.d i = none ∨ Sp.isPage p = false) : s.set_ i p = (some 10, s) := by
  unfold Sp.Sto.set_
  rw [if_neg]
  rintro ⟨h1, h2⟩
  rcases h with h | h
  · rw [h] at h1; cases h1
  · rw [h] at h2; cases h2
theorem Sp.Sto.set_yes (s : Sp.Sto) (i : Int) (p q : Sp.Page) (h : Sp.lookD s.d i = some q) (hp : Sp.isPage p = true) : s.set_ i p = (none, { s with d := Sp.putD s.d i p }) := by
  unfold Sp.Sto.set_
  rw [if_pos]
  exact ⟨by rw [h]; rfl, hp⟩
/-- What a look into the map tells. -/
theorem StAt.look {w : World} {M : Nat → Prop} {t f m d : Nat} {fv : Value} {V : List Txt} {s : Sp.Sto} (h : StAt w M t f m d fv V s) (i : Int) :
    (Sp.lookD s.d i = none ∧ (Instr.lookup PgMapT (.map (some d)) (.int .i64 i) true).run Tryz.prog w = .ok (.tuple #[.agg pgZ0, .bool false]) w) ∨
    ∃ q r, Sp.lookD s.d i = some q ∧ (Instr.lookup PgMapT (.map (some d)) (.int .i64 i) true).run Tryz.prog w = .ok (.tuple #[.agg (pageV q r).toArray, .bool true]) w := by
  obtain ⟨D, hD, hP⟩ := h.dm
  have hlk := hD.lookP i
  rcases hP.look i with ⟨e1, e2⟩ | ⟨q, r, e1, e2, _⟩
  · rw [e2] at hlk
    exact .inl ⟨e1, hlk⟩
  · rw [e2] at hlk
    exact .inr ⟨q, r, e1, hlk⟩
theorem StAt.c1 {w : World} {M : Nat → Prop} {t f m d : Nat} {fv : Value} {V : List Txt} {s : Sp.Sto} (h : StAt w M t f m d fv V s) : w.cell? ⟨t, 1, none⟩ = some (.map (some d)) := by
  obtain ⟨uf, ua, hb, _, _⟩ := h.bt
  exact hb.cell 1
set_option maxRecDepth 100000 in
set_option maxHeartbeats 1600000 in
theorem stoSet1 (M : Nat → Prop) (t f m d : Nat) (fv : Value) (V : List Txt) (s : Sp.Sto) (i : Int) (p : Sp.Page) (r : Refs) {M' : Nat → Prop} (w : World) (h : StAt w M t f m d fv V s) (hp : PageRd w M' p r) (hM : ∀ k, TwoM t d k → M' k) (hn : Sp.lookD s.d i = none) :
    Calls Tryz.prog 38 #[.pointer (some ⟨t, 0, none⟩), .int .i64 i, .agg (pageV p r).toArray] w fun e w' => e = .returned (erO (s.set_ i p).1) ∧ StAt w' M t f m d fv V (s.set_ i p).2 ∧ Chg (TwoM t d) w w' := by
  obtain ⟨w1, hw1⟩ : ∃ w1, w1 = w.alloc (.cells (pageV p r).toArray PageT) := ⟨_, rfl⟩
  have hal : Below w.heap.size w w1 := by rw [hw1]; exact (Below.refl _ _).alloc (Nat.le_refl _) _
  have HB := Lib.hid (show Blk w1 w.heap.size PageT #[.int .i64 p.kind, .slice r.I p.items.length r.i, .slice r.K p.keys.length r.k, .slice r.D p.kids.length r.d, .string ⟨p.text.toArray⟩, .slice r.V p.vals.length r.v, .slice r.F p.free.length r.f, .int .i64 p.next, .int .u64 p.mt.txn, .int .i64 p.mt.main.page, .int .i64 p.mt.main.count, .int .i64 p.mt.main.flags, .int .i64 p.mt.free, .int .i64 p.mt.last] from by rw [hw1]; exact Blk.new w PageT (pageV p r).toArray)
  have HAL := Lib.hid hal
  have H := Lib.hid (h.go hal)
  have HP := Lib.hid (hp.go hal)
  have HMM := Lib.hid hM
  have htw := h.lt t h.hM.1
  have hdw := h.lt d h.hM.2
  have HW1 := Lib.hid (show w.alloc (.cells (pageV p r).toArray PageT) = w1 from hw1.symm)
  clear h hal hp hM hw1
  go_enter Tryz.func38, Tryz.ntmps38
  go_upto_region 1 with fail
  rw [HW1.out]
  clear HW1
  have c1 := H.out.c1
  have hlk : (Instr.lookup PgMapT (.map (some d)) (.int .i64 i) true).run Tryz.prog w1 = .ok (.tuple #[.agg pgZ0, .bool false]) w1 := by
    rcases H.out.look i with ⟨_, h⟩ | ⟨q, rq, e, _⟩
    · exact h
    · rw [hn] at e; cases e
  have HS := Lib.hid (s.set_no i p (.inl hn))
  clear hn
  simp only [pgZ0] at hlk
  go_wp2_with (refine wpList_new PageT _ _ rfl rfl rfl rfl rfl rfl _ rfl (of_decide_eq_true (by kernel_rfl)) (by kernel_rfl) (by kernel_rfl) (by kernel_rfl) ?_)
  have hb2 : Below w.heap.size w (w1.alloc (.cells pgZ0 PageT)) := HAL.out.alloc HAL.out.size _
  refine bodyPost_ret (v := erO (some 10)) (by simp [results, Tryz.results38, go_sem, erO]) rfl ⟨by rw [HS.out], by rw [HS.out]; exact H.out.go ((Below.refl _ _).alloc (Nat.le_refl _) _), Chg.of_below hb2⟩
set_option maxRecDepth 100000 in
set_option maxHeartbeats 1600000 in
theorem stoSet2 (M : Nat → Prop) (t f m d : Nat) (fv : Value) (V : List Txt) (s : Sp.Sto) (i : Int) (p : Sp.Page) (r : Refs) {M' : Nat → Prop} (w : World) (h : StAt w M t f m d fv V s) (hp : PageRd w M' p r) (hM : ∀ k, TwoM t d k → M' k) (q : Sp.Page) (hl : Sp.lookD s.d i = some q) (hpg : Sp.isPage p = false) :
    Calls Tryz.prog 38 #[.pointer (some ⟨t, 0, none⟩), .int .i64 i, .agg (pageV p r).toArray] w fun e w' => e = .returned (erO (s.set_ i p).1) ∧ StAt w' M t f m d fv V (s.set_ i p).2 ∧ Chg (TwoM t d) w w' := by
  obtain ⟨w1, hw1⟩ : ∃ w1, w1 = w.alloc (.cells (pageV p r).toArray PageT) := ⟨_, rfl⟩
  have hal : Below w.heap.size w w1 := by rw [hw1]; exact (Below.refl _ _).alloc (Nat.le_refl _) _
  have HB := Lib.hid (show Blk w1 w.heap.size PageT #[.int .i64 p.kind, .slice r.I p.items.length r.i, .slice r.K p.keys.length r.k, .slice r.D p.kids.length r.d, .string ⟨p.text.toArray⟩, .slice r.V p.vals.length r.v, .slice r.F p.free.length r.f, .int .i64 p.next, .int .u64 p.mt.txn, .int .i64 p.mt.main.page, .int .i64 p.mt.main.count, .int .i64 p.mt.main.flags, .int .i64 p.mt.free, .int .i64 p.mt.last] from by rw [hw1]; exact Blk.new w PageT (pageV p r).toArray)
  have HAL := Lib.hid hal
  have H := Lib.hid (h.go hal)
  have HP := Lib.hid (hp.go hal)
  have HMM := Lib.hid hM
  have htw := h.lt t h.hM.1
  have hdw := h.lt d h.hM.2
  have HW1 := Lib.hid (show w.alloc (.cells (pageV p r).toArray PageT) = w1 from hw1.symm)
  clear h hal hp hM hw1
  go_enter Tryz.func38, Tryz.ntmps38
  go_upto_region 1 with fail
  rw [HW1.out]
  clear HW1
  have c1 := H.out.c1
  have HPG := Lib.hid hpg
  obtain ⟨q', rq, hl', hlk⟩ : ∃ q' rq, Sp.lookD s.d i = some q' ∧ (Instr.lookup PgMapT (.map (some d)) (.int .i64 i) true).run Tryz.prog w1 = .ok (.tuple #[.agg (pageV q' rq).toArray, .bool true]) w1 := by
    rcases H.out.look i with ⟨e, _⟩ | h
    · rw [hl] at e; cases e
    · exact h
  have hal2 : Below w1.heap.size w1 (w1.alloc (.cells (pageV q' rq).toArray PageT)) := (Below.refl _ _).alloc (Nat.le_refl _) _
  have HW2 := Lib.hid hal2
  have HSET := Lib.hid (s.set_no i p (.inr hpg))
  clear hal2 hl hl' hpg
  simp only [pageV, mtV, List.cons_append, List.nil_append] at hlk HW2
  go_upto_region 2 with (refine wpList_new PageT _ _ rfl rfl rfl rfl rfl rfl _ rfl (of_decide_eq_true (by kernel_rfl)) (by kernel_rfl) (by kernel_rfl) (by kernel_rfl) ?_)
  generalize w1.alloc (.cells #[.int .i64 q'.kind, .slice rq.I q'.items.length rq.i, .slice rq.K q'.keys.length rq.k, .slice rq.D q'.kids.length rq.d, .string ⟨q'.text.toArray⟩, .slice rq.V q'.vals.length rq.v, .slice rq.F q'.free.length rq.f, .int .i64 q'.next, .int .u64 q'.mt.txn, .int .i64 q'.mt.main.page, .int .i64 q'.mt.main.count, .int .i64 q'.mt.main.flags, .int .i64 q'.mt.free, .int .i64 q'.mt.last] PageT) = w2 at *
  have HB2 := Lib.hid (HB.out.below HW2.out HB.out.lt)
  have HP2 := Lib.hid (HP.out.go HW2.out)
  have H2 := Lib.hid (H.out.go HW2.out)
  have HA2 := Lib.hid (HAL.out.trans (HW2.out.mono HAL.out.size))
  clear HB HP H HAL HW2 c1 hlk
  have HI := Lib.hid (isPage_any p r w2 HP2.out)
  rw [HPG.out] at HI
  go_wp2_with (first
    | (refine wpList_row PageT _ rfl w.heap.size rfl rfl PageT _ (0, 0) _ HB2.out Tryz.underlying39 rfl rfl ?_)
    | (go_at_call 71; refine HI.out.mono ?_; rintro e w3 ⟨rfl, hb3⟩; have HB3 := Lib.hid hb3; clear hb3))
  refine bodyPost_ret (v := erO (some 10)) (by simp [results, Tryz.results38, go_sem, erO]) rfl ⟨by rw [HSET.out], by rw [HSET.out]; exact H2.out.go HB3.out, Chg.of_below (HA2.out.trans (HB3.out.mono HA2.out.size))⟩
set_option maxRecDepth 100000 in
set_option maxHeartbeats 1600000 in
theorem stoSet3 (M : Nat → Prop) (t f m d : Nat) (fv : Value) (V : List Txt) (s : Sp.Sto) (i : Int) (p : Sp.Page) (r : Refs) {M' : Nat → Prop} (w : World) (h : StAt w M t f m d fv V s) (hp : PageRd w M' p r) (hM : ∀ k, TwoM t d k → M' k) (q : Sp.Page) (hl : Sp.lookD s.d i = some q) (hpg : Sp.isPage p = true) :
    Calls Tryz.prog 38 #[.pointer (some ⟨t, 0, none⟩), .int .i64 i, .agg (pageV p r).toArray] w fun e w' => e = .returned (erO (s.set_ i p).1) ∧ StAt w' M t f m d fv V (s.set_ i p).2 ∧ Chg (TwoM t d) w w' := by
  obtain ⟨w1, hw1⟩ : ∃ w1, w1 = w.alloc (.cells (pageV p r).toArray PageT) := ⟨_, rfl⟩
  have hal : Below w.heap.size w w1 := by rw [hw1]; exact (Below.refl _ _).alloc (Nat.le_refl _) _
  have HB := Lib.hid (show Blk w1 w.heap.size PageT #[.int .i64 p.kind, .slice r.I p.items.length r.i, .slice r.K p.keys.length r.k, .slice r.D p.kids.length r.d, .string ⟨p.text.toArray⟩, .slice r.V p.vals.length r.v, .slice r.F p.free.length r.f, .int .i64 p.next, .int .u64 p.mt.txn, .int .i64 p.mt.main.page, .int .i64 p.mt.main.count, .int .i64 p.mt.main.flags, .int .i64 p.mt.free, .int .i64 p.mt.last] from by rw [hw1]; exact Blk.new w PageT (pageV p r).toArray)
  have HAL := Lib.hid hal
  have H := Lib.hid (h.go hal)
  have HP := Lib.hid (hp.go hal)
  have HMM := Lib.hid hM
  have htw := h.lt t h.hM.1
  have hdw := h.lt d h.hM.2
  have HW1 := Lib.hid (show w.alloc (.cells (pageV p r).toArray PageT) = w1 from hw1.symm)
  clear h hal hp hM hw1
  go_enter Tryz.func38, Tryz.ntmps38
  go_upto_region 1 with fail
  rw [HW1.out]
  clear HW1
  have c1 := H.out.c1
  have HPG := Lib.hid hpg
  have HSM := Lib.hid (Sp.isPage_small hpg)
  obtain ⟨q', rq, hl', hlk⟩ : ∃ q' rq, Sp.lookD s.d i = some q' ∧ (Instr.lookup PgMapT (.map (some d)) (.int .i64 i) true).run Tryz.prog w1 = .ok (.tuple #[.agg (pageV q' rq).toArray, .bool true]) w1 := by
    rcases H.out.look i with ⟨e, _⟩ | h
    · rw [hl] at e; cases e
    · exact h
  have hal2 : Below w1.heap.size w1 (w1.alloc (.cells (pageV q' rq).toArray PageT)) := (Below.refl _ _).alloc (Nat.le_refl _) _
  have HW2 := Lib.hid hal2
  have HSET := Lib.hid (s.set_yes i p q hl hpg)
  clear hal2 hl hl' hpg
  simp only [pageV, mtV, List.cons_append, List.nil_append] at hlk HW2
  go_upto_region 2 with (refine wpList_new PageT _ _ rfl rfl rfl rfl rfl rfl _ rfl (of_decide_eq_true (by kernel_rfl)) (by kernel_rfl) (by kernel_rfl) (by kernel_rfl) ?_)
  generalize w1.alloc (.cells #[.int .i64 q'.kind, .slice rq.I q'.items.length rq.i, .slice rq.K q'.keys.length rq.k, .slice rq.D q'.kids.length rq.d, .string ⟨q'.text.toArray⟩, .slice rq.V q'.vals.length rq.v, .slice rq.F q'.free.length rq.f, .int .i64 q'.next, .int .u64 q'.mt.txn, .int .i64 q'.mt.main.page, .int .i64 q'.mt.main.count, .int .i64 q'.mt.main.flags, .int .i64 q'.mt.free, .int .i64 q'.mt.last] PageT) = w2 at *
  have HB2 := Lib.hid (HB.out.below HW2.out HB.out.lt)
  have HP2 := Lib.hid (HP.out.go HW2.out)
  have H2 := Lib.hid (H.out.go HW2.out)
  have HA2 := Lib.hid (HAL.out.trans (HW2.out.mono HAL.out.size))
  clear HB HP H HAL HW2 c1 hlk
  have HI := Lib.hid (isPage_any p r w2 HP2.out)
  rw [HPG.out] at HI
  go_upto_region 4 with (first
    | (refine wpList_row PageT _ rfl w.heap.size rfl rfl PageT _ (0, 0) _ HB2.out Tryz.underlying39 rfl rfl ?_)
    | (go_at_call 71; refine HI.out.mono ?_; rintro e w3 ⟨rfl, hb3⟩; have HB3 := Lib.hid hb3; clear hb3))
  have HST := Lib.hid (H2.out.go HB3.out)
  have HBk3 := Lib.hid (HB2.out.below HB3.out HB2.out.lt)
  have HP3 := Lib.hid (HP2.out.go HB3.out)
  have HCK := Lib.hid (Chg.of_below (S := TwoM t d) (HA2.out.trans (HB3.out.mono HA2.out.size)))
  have htw3 : t < w3.heap.size := HST.out.lt t HST.out.hM.1
  have c1 := HST.out.c1
  clear HI HB2 HP2 H2 HA2 HB3
  refine wp_region_in 8 7 (fun W => Below w3.heap.size w3 W) (by kernel_rfl) rfl ?_
  refine wpIn_take 0 (.pointer (some ⟨t, 0, none⟩)) rfl (by kernel_rfl) (by kernel_rfl) (by kernel_rfl) (by kernel_rfl) (by kernel_rfl) (by rfl) (fun _ _ _ h => h) (Below.refl w3.heap.size w3).drew (fun W hW => by go_simp; all_goals first | with_reducible rfl | rfl) ?_
  simp only [List.getElem_toArray, List.getElem_cons_zero, List.getElem_cons_succ, Act.put, List.setIfInBounds_toArray, List.set_cons_succ, List.set_cons_zero]
  refine wpIn_take 1 (.pointer (some ⟨t, 0, none⟩)) rfl (by kernel_rfl) (by kernel_rfl) (by kernel_rfl) (by kernel_rfl) (by kernel_rfl) (by rfl) (fun _ _ _ h => h) (Below.refl w3.heap.size w3).drew (fun W hW => by go_simp; all_goals first | with_reducible rfl | rfl) ?_
  simp only [List.getElem_toArray, List.getElem_cons_zero, List.getElem_cons_succ, Act.put, List.setIfInBounds_toArray, List.set_cons_succ, List.set_cons_zero]
  refine wpIn_take 2 (.pointer (some ⟨t, 1, none⟩)) rfl (by kernel_rfl) (by kernel_rfl) (by kernel_rfl) (by kernel_rfl) (by kernel_rfl) (by rfl) (fun _ _ _ h => h) (Below.refl w3.heap.size w3).drew (fun W hW => by go_simp; all_goals first | with_reducible rfl | rfl) ?_
  simp only [List.getElem_toArray, List.getElem_cons_zero, List.getElem_cons_succ, Act.put, List.setIfInBounds_toArray, List.set_cons_succ, List.set_cons_zero]
  refine wpIn_take 3 (.map (some d)) rfl (by kernel_rfl) (by kernel_rfl) (by kernel_rfl) (by kernel_rfl) (by kernel_rfl) (by rfl) (fun _ _ _ h => h) (Below.refl w3.heap.size w3).drew (fun W hW => by have hc := (hW.cell (p := ⟨t, 1, none⟩) htw3).trans c1; go_simp; all_goals first | with_reducible rfl | rfl) ?_
  simp only [List.getElem_toArray, List.getElem_cons_zero, List.getElem_cons_succ, Act.put, List.setIfInBounds_toArray, List.set_cons_succ, List.set_cons_zero]
  refine wpIn_take 4 (.int .i64 i) rfl (by kernel_rfl) (by kernel_rfl) (by kernel_rfl) (by kernel_rfl) (by kernel_rfl) (by rfl) (fun _ _ _ h => h) (Below.refl w3.heap.size w3).drew (fun W hW => by go_simp; all_goals first | with_reducible rfl | rfl) ?_
  simp only [List.getElem_toArray, List.getElem_cons_zero, List.getElem_cons_succ, Act.put, List.setIfInBounds_toArray, List.set_cons_succ, List.set_cons_zero]
  refine wpIn_take 5 (.agg #[.int .i64 p.kind, .slice r.I p.items.length r.i, .slice r.K p.keys.length r.k, .slice r.D p.kids.length r.d, .string ⟨p.text.toArray⟩, .slice r.V p.vals.length r.v, .slice r.F p.free.length r.f, .int .i64 p.next, .int .u64 p.mt.txn, .int .i64 p.mt.main.page, .int .i64 p.mt.main.count, .int .i64 p.mt.main.flags, .int .i64 p.mt.free, .int .i64 p.mt.last]) rfl (by kernel_rfl) (by kernel_rfl) (by kernel_rfl) (by kernel_rfl) (by kernel_rfl) (by rfl) (fun _ _ _ h => h) (Below.refl w3.heap.size w3).drew (fun W hW => by exact exec_page _ rfl w.heap.size rfl _ (HBk3.out.below hW HBk3.out.lt) rfl) ?_
  simp only [List.getElem_toArray, List.getElem_cons_zero, List.getElem_cons_succ, Act.put, List.setIfInBounds_toArray, List.set_cons_succ, List.set_cons_zero]
  refine wpIn_one 6 rfl (by kernel_rfl) (fun _ => (Below.refl w3.heap.size w3).drew) (by rfl) ?_
  go_simp
  refine (copied_any p r w3.drew (HP3.out.go (Below.refl _ _).drew) HSM.out).mono ?_
  rintro e w5 ⟨rc, rfl, hr, hb5⟩
  have hB5 : Below w3.heap.size w3 w5 := (Below.refl w3.heap.size w3).drew.trans hb5
  obtain ⟨o, hup, hst6, hk6⟩ := (HST.out.go hB5).put_ (hr.anti (M' := M) (fun k hk => by
    have := HST.out.lt k hk
    exact this)) HSM.out i
  have HST6 := Lib.hid hst6
  have HK6 := Lib.hid (HCK.out.trans ((Chg.of_below hB5).trans (hk6.mono fun k _ e => (show TwoM t d k from .inr e))))
  clear hst6 hk6 hr hb5
  simp only [List.getElem_toArray, List.getElem_cons_zero, List.getElem_cons_succ, Act.put, List.setIfInBounds_toArray, List.set_cons_succ, List.set_cons_zero]
  refine wpIn_one 7 rfl (by kernel_rfl) (fun _ => hB5) (by rfl) ?_
  go_simp
  refine wpIn_done (by kernel_rfl) (by kernel_rfl) ?_ _
  simp only [Exit.then]
  go_wp2_with fail
  refine bodyPost_ret (v := erO none) (by simp [results, Tryz.results38, go_sem, erO]) rfl ⟨by rw [HSET.out], by rw [HSET.out]; exact HST6.out, HK6.out⟩
theorem stoSet_any (M : Nat → Prop) (t f m d : Nat) (fv : Value) (V : List Txt) (s : Sp.Sto) (i : Int) (p : Sp.Page) (r : Refs) {M' : Nat → Prop} (w : World) (h : StAt w M t f m d fv V s) (hp : PageRd w M' p r) (hM : ∀ k, TwoM t d k → M' k) :
    Calls Tryz.prog 38 #[.pointer (some ⟨t, 0, none⟩), .int .i64 i, .agg (pageV p r).toArray] w fun e w' => e = .returned (erO (s.set_ i p).1) ∧ StAt w' M t f m d fv V (s.set_ i p).2 ∧ Chg (TwoM t d) w w' := by
  rcases hl : Sp.lookD s.d i with _ | q
  · exact stoSet1 M t f m d fv V s i p r w h hp hM hl
  · rcases hpg : Sp.isPage p with _ | _
    · exact stoSet2 M t f m d fv V s i p r w h hp hM q hl hpg
    · exact stoSet3 M t f m d fv V s i p r w h hp hM q hl hpg
end Go.Proofs.YtkcfmjlcijhieaaGreat
namespace Go.Proofs.YtkcfmjlcijhieaaGreat
open Go.RowKit
attribute [local go_sem low] mk_extract
attribute [local go_sem] After.cell After.frozen mk_extract_end ByteArray.mk_append_mk
set_option maxRecDepth 100000 in
set_option maxHeartbeats 1600000 in
theorem idsHas_any (u : Value) (L : List Int) (n : Int) (w : World) (h : IV w u L) (hs : L.Pairwise (· < ·)) :
    Calls Tryz.prog 64 #[u, .int .i64 n] w fun e w' => e = .returned (.bool (L.contains n)) ∧ Below w.heap.size w w' := by
  have HS := Lib.hid (searchI_any n h hs)
  clear h hs
  go_enter Tryz.func64, Tryz.ntmps64
  go_wp2_with (go_at_call 95; refine HS.out.mono ?_; rintro e w1 ⟨rfl, hb1⟩)
  go_ret
  exact ⟨by simp, hb1⟩
end Go.Proofs.YtkcfmjlcijhieaaGreat
namespace Go.Proofs.YtkcfmjlcijhieaaGreat
open Go.RowKit
attribute [local go_sem low] mk_extract
attribute [local go_sem] After.cell After.frozen mk_extract_end ByteArray.mk_append_mk
theorem StAt.del_ {w : World} {M : Nat → Prop} {t f m d : Nat} {fv : Value} {V : List Txt} {s : Sp.Sto} (h : StAt w M t f m d fv V s) (i : Int) {kt : TypeId} (ty : TypeId) :
    ∃ o, (Builtin.delete_ #[PgMapT, kt] ty #[.map (some d), .int .i64 i]).run Tryz.prog w = .ok (.tuple #[]) (turnM w d o) ∧ StAt (turnM w d o) M t f m d fv V { s with d := Sp.delD s.d i } ∧ Chg (OneM d) w (turnM w d o) := by
  obtain ⟨D, hD, hP⟩ := h.dm
  obtain ⟨o, h1, h2⟩ := hD.del Tryz.underlying123 i (kt := kt) ty
  have hk : Chg (OneM d) w (turnM w d o) := chg_setB w d o
  exact ⟨o, h1, h.turnD hk h2 (hP.del.chg (hk.mono fun k _ e => by
    have e : k = d := e
    exact e ▸ h.hM.2)) rfl rfl rfl rfl, hk⟩
theorem Sp.Sto.drop_made (s : Sp.Sto) (i : Int) (q : Sp.Page) (h : Sp.lookD s.d i = some q) : s.drop i = { s with d := Sp.delD s.d i, avail := Sp.insI i s.avail } := by
  unfold Sp.Sto.drop
  rw [if_pos (by rw [h]; rfl)]
theorem Sp.Sto.drop_else (s : Sp.Sto) (i : Int) (h : Sp.lookD s.d i = none) : s.drop i = if 2 ≤ i ∧ i < s.last ∧ i ∉ s.avail then { s with freed := Sp.insI i s.freed } else s := by
  unfold Sp.Sto.drop
  rw [if_neg (by rw [h]; simp)]
set_option maxRecDepth 100000 in
set_option maxHeartbeats 1600000 in
theorem stoDrop1 (M : Nat → Prop) (t f m d : Nat) (fv : Value) (V : List Txt) (s : Sp.Sto) (i : Int) (q : Sp.Page) (w : World) (h : StAt w M t f m d fv V s) (hok : s.Ok) (hl : Sp.lookD s.d i = some q) :
    Calls Tryz.prog 34 #[.pointer (some ⟨t, 0, none⟩), .int .i64 i] w fun e w' => e = .returned (.tuple #[]) ∧ StAt w' M t f m d fv V (s.drop i) ∧ Chg (TwoM t d) w w' := by
  obtain ⟨rq, hlk⟩ : ∃ rq, (Instr.lookup PgMapT (.map (some d)) (.int .i64 i) true).run Tryz.prog w = .ok (.tuple #[.agg (pageV q rq).toArray, .bool true]) w := by
    rcases h.look i with ⟨e, _⟩ | ⟨q', rq, e, hlk⟩
    · rw [hl] at e; cases e
    · rw [hl] at e
      injection e with e
      subst e
      exact ⟨rq, hlk⟩
  have HD := Lib.hid (s.drop_made i q hl)
  have hi := hok.keys _ (Sp.lookD_mem hl)
  have c1 := h.c1
  have htw := h.lt t h.hM.1
  have hdw := h.lt d h.hM.2
  have H := Lib.hid h
  have HA := Lib.hid hok.avail
  clear h hok hl
  simp only [pageV, mtV, List.cons_append, List.nil_append] at hlk
  go_enter Tryz.func34, Tryz.ntmps34
  go_upto_region 1 with (refine wpList_new PageT _ _ rfl rfl rfl rfl rfl rfl _ rfl (of_decide_eq_true (by kernel_rfl)) (by kernel_rfl) (by kernel_rfl) (by kernel_rfl) ?_)
  have hal2 : Below w.heap.size w (w.alloc (.cells #[.int .i64 q.kind, .slice rq.I q.items.length rq.i, .slice rq.K q.keys.length rq.k, .slice rq.D q.kids.length rq.d, .string ⟨q.text.toArray⟩, .slice rq.V q.vals.length rq.v, .slice rq.F q.free.length rq.f, .int .i64 q.next, .int .u64 q.mt.txn, .int .i64 q.mt.main.page, .int .i64 q.mt.main.count, .int .i64 q.mt.main.flags, .int .i64 q.mt.free, .int .i64 q.mt.last] PageT)) := (Below.refl _ _).alloc (Nat.le_refl _) _
  have HB2 := Lib.hid hal2
  clear hal2 c1 hlk
  generalize w.alloc (.cells #[.int .i64 q.kind, .slice rq.I q.items.length rq.i, .slice rq.K q.keys.length rq.k, .slice rq.D q.kids.length rq.d, .string ⟨q.text.toArray⟩, .slice rq.V q.vals.length rq.v, .slice rq.F q.free.length rq.f, .int .i64 q.next, .int .u64 q.mt.txn, .int .i64 q.mt.main.page, .int .i64 q.mt.main.count, .int .i64 q.mt.main.flags, .int .i64 q.mt.free, .int .i64 q.mt.last] PageT) = w2 at *
  have H2 := Lib.hid (H.out.go HB2.out)
  have c1 := H2.out.c1
  obtain ⟨o, hdel, hst3, hk3⟩ := H2.out.del_ i (kt := 3) 0
  have HST := Lib.hid hst3
  have HK3 := Lib.hid ((Chg.of_below HB2.out).trans hk3)
  clear hst3 hk3
  go_upto_region 3 with fail
  clear hdel c1
  generalize turnM w2 d o = w3 at *
  obtain ⟨uf, ua, hb, hf, ha⟩ := HST.out.bt
  have HT := Lib.hid hb
  have HU := Lib.hid ha
  have c3 : w3.cell? ⟨t, 3, none⟩ = some ua := hb.cell 3
  have htw3 := hb.lt
  clear hb hf ha
  go_wp2_with (go_at_call 65; refine (idsWith_any ua s.avail i w3 HU.out.iv HU.out.ok.1).mono ?_; rintro e w4 ⟨ru, rfl, ho, hb4⟩; obtain ⟨Ao, co, rfl⟩ := own_slice ho; have HO := Lib.hid ho; have HB4 := Lib.hid hb4; clear ho hb4; have c34 : w4.cell? ⟨t, 3, none⟩ = some ua := (HT.out.below HB4.out htw3).cell 3; have f34 := (HT.out.below HB4.out htw3).frozen 3)
  go_end0
  have hst := (HST.out.go HB4.out).avail_ (L := Sp.insI i s.avail) ⟨own_base HO.out (Nat.zero_le _), HA.out.ins hi.1 hi.2⟩
  refine ⟨rfl, by rw [HD.out]; exact hst, ?_⟩
  exact ((HK3.out.mono fun k _ e => (show TwoM t d k from .inr e)).trans (Chg.of_below HB4.out)).trans ((Chg.set1 w4 t 3 _).mono fun k _ e => (show TwoM t d k from .inl e))
set_option maxRecDepth 100000 in
set_option maxHeartbeats 1600000 in
theorem stoDrop2 (M : Nat → Prop) (t f m d : Nat) (fv : Value) (V : List Txt) (s : Sp.Sto) (i : Int) (w : World) (h : StAt w M t f m d fv V s) (hok : s.Ok) (hl : Sp.lookD s.d i = none) :
    Calls Tryz.prog 34 #[.pointer (some ⟨t, 0, none⟩), .int .i64 i] w fun e w' => e = .returned (.tuple #[]) ∧ StAt w' M t f m d fv V (s.drop i) ∧ Chg (TwoM t d) w w' := by
  have hlk : (Instr.lookup PgMapT (.map (some d)) (.int .i64 i) true).run Tryz.prog w = .ok (.tuple #[.agg pgZ0, .bool false]) w := by
    rcases h.look i with ⟨_, h⟩ | ⟨q, rq, e, _⟩
    · exact h
    · rw [hl] at e; cases e
  have HD := Lib.hid (s.drop_else i hl)
  have hls := hok.last
  have c1 := h.c1
  have htw := h.lt t h.hM.1
  have hdw := h.lt d h.hM.2
  have H := Lib.hid h
  have HF := Lib.hid hok.freed
  clear h hok hl
  simp only [pgZ0] at hlk
  go_enter Tryz.func34, Tryz.ntmps34
  go_upto_region 1 with (refine wpList_new PageT _ _ rfl rfl rfl rfl rfl rfl _ rfl (of_decide_eq_true (by kernel_rfl)) (by kernel_rfl) (by kernel_rfl) (by kernel_rfl) ?_)
  have hal2 : Below w.heap.size w (w.alloc (.cells pgZ0 PageT)) := (Below.refl _ _).alloc (Nat.le_refl _) _
  simp only [pgZ0] at hal2
  have HB2 := Lib.hid hal2
  clear hal2 c1 hlk
  generalize w.alloc (.cells _ PageT) = w2 at *
  have HST := Lib.hid (H.out.go HB2.out)
  obtain ⟨uf, ua, hb, hf, ha⟩ := HST.out.bt
  have HT := Lib.hid hb
  have HU := Lib.hid ha
  have HUF := Lib.hid hf
  have c2 : w2.cell? ⟨t, 2, none⟩ = some uf := hb.cell 2
  have c3 : w2.cell? ⟨t, 3, none⟩ = some ua := hb.cell 3
  have c4 : w2.cell? ⟨t, 4, none⟩ = some (.int .i64 s.last) := hb.cell 4
  have htw2 := hb.lt
  clear hb hf ha
  by_cases h2 : 2 ≤ i
  · by_cases h4 : i < s.last
    · have HAS := Lib.hid (idsHas_any ua s.avail i w2 HU.out.iv HU.out.ok.1)
      by_cases hc : i ∈ s.avail
      · have hcc : s.avail.contains i = true := by simpa using hc
        have HD2 := Lib.hid (HD.out.trans (if_neg fun h => h.2.2 hc))
        rw [hcc] at HAS
        clear hc hcc
        go_wp2_with (go_at_call 64; refine HAS.out.mono ?_; rintro e w3 ⟨rfl, hb3⟩; have HB3 := Lib.hid hb3; clear hb3)
        go_end0
        refine ⟨rfl, by rw [HD2.out]; exact HST.out.go HB3.out, Chg.of_below (HB2.out.trans (HB3.out.mono HB2.out.size))⟩
      · have hcc : s.avail.contains i = false := by simpa using hc
        have HD2 := Lib.hid (HD.out.trans (if_pos ⟨h2, h4, hc⟩))
        rw [hcc] at HAS
        clear hc hcc
        go_upto_region 5 with (go_at_call 64; refine HAS.out.mono ?_; rintro e w3 ⟨rfl, hb3⟩; have HB3 := Lib.hid hb3; clear hb3)
        have HST3 := Lib.hid (HST.out.go HB3.out)
        have HT3 := Lib.hid (HT.out.below HB3.out htw2)
        have HUF3 := Lib.hid (HUF.out.iv.go HB3.out)
        have htw3 := HT3.out.lt
        have HB23 := Lib.hid (HB2.out.trans (HB3.out.mono HB2.out.size))
        clear c2 c3 c4 HT HU HAS
        have c2 : w3.cell? ⟨t, 2, none⟩ = some uf := HT3.out.cell 2
        go_wp2_with (go_at_call 65; refine (idsWith_any uf s.freed i w3 HUF3.out HF.out.1).mono ?_; rintro e w4 ⟨ru, rfl, ho, hb4⟩; obtain ⟨Ao, co, rfl⟩ := own_slice ho; have HO := Lib.hid ho; have HB4 := Lib.hid hb4; clear ho hb4; have c24 : w4.cell? ⟨t, 2, none⟩ = some uf := (HT3.out.below HB4.out htw3).cell 2; have f24 := (HT3.out.below HB4.out htw3).frozen 2)
        go_end0
        have hst := (HST3.out.go HB4.out).freed_ (L := Sp.insI i s.freed) ⟨own_base HO.out (Nat.zero_le _), HF.out.ins h2 (by omega)⟩
        refine ⟨rfl, by rw [HD2.out]; exact hst, ?_⟩
        exact (Chg.of_below (HB23.out.trans (HB4.out.mono HB23.out.size))).trans ((Chg.set1 w4 t 2 _).mono fun k _ e => (show TwoM t d k from .inl e))
    · have HD2 := Lib.hid (HD.out.trans (if_neg fun h => h4 h.2.1))
      go_wp2_with fail
      go_end0
      refine ⟨rfl, by rw [HD2.out]; exact HST.out, Chg.of_below HB2.out⟩
  · have HD2 := Lib.hid (HD.out.trans (if_neg fun h => h2 h.1))
    go_wp2_with fail
    go_end0
    refine ⟨rfl, by rw [HD2.out]; exact HST.out, Chg.of_below HB2.out⟩
theorem stoDrop_any (M : Nat → Prop) (t f m d : Nat) (fv : Value) (V : List Txt) (s : Sp.Sto) (i : Int) (w : World) (h : StAt w M t f m d fv V s) (hok : s.Ok) :
    Calls Tryz.prog 34 #[.pointer (some ⟨t, 0, none⟩), .int .i64 i] w fun e w' => e = .returned (.tuple #[]) ∧ StAt w' M t f m d fv V (s.drop i) ∧ Chg (TwoM t d) w w' := by
  rcases hl : Sp.lookD s.d i with _ | q
  · exact stoDrop2 M t f m d fv V s i w h hok hl
  · exact stoDrop1 M t f m d fv V s i q w h hok hl
end Go.Proofs.YtkcfmjlcijhieaaGreat
namespace Go.Proofs.YtkcfmjlcijhieaaGreat
open Go.RowKit
attribute [local go_sem low] mk_extract
attribute [local go_sem] After.cell After.frozen mk_extract_end ByteArray.mk_append_mk
namespace Sp
theorem Sto.Ok.put {s : Sto} (h : s.Ok) {i : Int} (p : Page) (hi : 2 ≤ i ∧ i < 400) (hc : (lookD s.d i).isSome = true ∨ s.d.length < 120) : ({ s with d := putD s.d i p } : Sto).Ok :=
  { h with
    nodup := putD_nodup h.nodup
    keys := fun x hx => by
      rcases putD_mem hx with rfl | hx
      · exact hi
      · exact h.keys x hx
    cnt := by
      rcases hc with hc | hc
      · show (putD s.d i p).length ≤ 120
        rw [putD_has hc]; exact h.cnt
      · have := putD_len s.d i p
        show (putD s.d i p).length ≤ 120
        omega }
theorem Sto.Ok.add {s : Sto} (h : s.Ok) (p : Page) : (s.add p).2.Ok := by
  rcases hp : isPage p with _ | _
  · rw [s.add_no p hp]; exact h
  · rw [s.add_yes p hp]
    obtain ⟨h1, h2, _, _, h3⟩ := h.numbers (n := 1) (by omega)
    generalize s.numbers 1 = r at *
    obtain ⟨⟨id, e⟩, s'⟩ := r
    rcases e with _ | k
    · obtain ⟨h4, h5, h6⟩ := h3 rfl
      dsimp only at h1 h2 h4 h5 h6 ⊢
      exact h1.put p ⟨h4, by omega⟩ (.inr (by rw [h2]; omega))
    · exact h1
theorem Sto.Ok.set_ {s : Sto} (h : s.Ok) (i : Int) (p : Page) : (s.set_ i p).2.Ok := by
  unfold Sto.set_
  split
  · rename_i hc
    obtain ⟨q, hq⟩ := Option.isSome_iff_exists.1 hc.1
    exact h.put p (h.keys _ (lookD_mem hq)) (.inl hc.1)
  · exact h
theorem Sto.Ok.drop {s : Sto} (h : s.Ok) (i : Int) : (s.drop i).Ok := by
  rcases hl : lookD s.d i with _ | q
  · rw [s.drop_else i hl]
    split
    · rename_i hc
      have := h.last
      exact { h with freed := h.freed.ins hc.1 (by omega) }
    · exact h
  · rw [s.drop_made i q hl]
    have hi := h.keys _ (lookD_mem hl)
    exact { h with
      avail := h.avail.ins hi.1 hi.2
      nodup := delD_nodup h.nodup
      keys := fun x hx => h.keys x (List.mem_filter.1 hx).1
      cnt := Nat.le_trans (List.length_filter_le _ _) h.cnt }
theorem Sto.touch_made (s : Sto) (V : List Txt) (i : Int) (q : Page) (h : lookD s.d i = some q) : s.touch V i = ((i, none), s) := by
  unfold Sto.touch
  rw [if_pos (by rw [h]; rfl)]
theorem Sto.touch_else (s : Sto) (V : List Txt) (i : Int) (h : lookD s.d i = none) : s.touch V i = (match s.read V i with
    | (_, some e) => ((0, some e), s)
    | (p, none) => match s.add p with
      | ((n, none), s') => ((n, none), s'.drop i)
      | ((n, some e), s') => ((n, some e), s') : (Int × Option Int) × Sto) := by
  unfold Sto.touch
  rw [if_neg (by rw [h]; simp)]
  rfl
theorem Sto.Ok.touch {s : Sto} (h : s.Ok) (V : List Txt) (i : Int) : (s.touch V i).2.Ok := by
  rcases hl : lookD s.d i with _ | q
  · rw [s.touch_else V i hl]
    generalize s.read V i = r
    obtain ⟨p, e⟩ := r
    rcases e with _ | k
    · have h1 := h.add p
      dsimp only
      generalize s.add p = a at *
      obtain ⟨⟨n, e⟩, s'⟩ := a
      rcases e with _ | k
      · exact h1.drop i
      · exact h1
    · exact h
  · rw [s.touch_made V i q hl]; exact h
theorem runD_ok (id : Int) : ∀ (k : Nat) {s : Sto}, s.Ok → (∀ j : Nat, j < k → 2 ≤ id + j ∧ id + j < 400) → s.d.length + k ≤ 120 → ({ s with d := runD s.d id k } : Sto).Ok ∧ (runD s.d id k).length ≤ s.d.length + k
  | 0, s, h, _, _ => ⟨h, Nat.le_refl _⟩
  | k + 1, s, h, hr, hc => by
    obtain ⟨h1, h2⟩ := runD_ok id k h (fun j hj => hr j (by omega)) (by omega)
    have h3 := h1.put (i := id + k) pg0 (hr k (by omega)) (.inr (by show (runD s.d id k).length < 120; omega))
    refine ⟨h3, ?_⟩
    have := putD_len (runD s.d id k) (id + k) pg0
    show (putD (runD s.d id k) (id + k) pg0).length ≤ _
    omega
theorem Sto.run_mid (s : Sto) (n : Int) (h1 : 1 ≤ n) (h2 : n ≤ 120) : s.run n = (match s.numbers n with
    | ((id, none), s') => ((id, none), { s' with d := runD s'.d id n.toNat })
    | ((_, some e), s') => ((0, some e), s') : (Int × Option Int) × Sto) := by
  unfold Sto.run
  rw [if_neg (by omega), if_neg (by omega)]
  rfl
theorem Sto.Ok.run {s : Sto} (h : s.Ok) (n : Int) : (s.run n).2.Ok := by
  by_cases h1 : n < 1
  · unfold Sto.run; rw [if_pos h1]; exact h
  by_cases h2 : 120 < n
  · unfold Sto.run; rw [if_neg h1, if_pos h2]; exact h
  rw [s.run_mid n (by omega) (by omega)]
  obtain ⟨g1, g2, _, _, g3⟩ := h.numbers (n := n) (by omega)
  generalize s.numbers n = r at *
  obtain ⟨⟨id, e⟩, s'⟩ := r
  rcases e with _ | k
  · obtain ⟨h4, h5, h6⟩ := g3 rfl
    dsimp only at g1 g2 h4 h5 h6 ⊢
    exact (runD_ok id n.toNat g1 (fun j hj => by omega) (by rw [g2]; omega)).1
  · exact g1
end Sp
end Go.Proofs.YtkcfmjlcijhieaaGreat
namespace Go.Proofs.YtkcfmjlcijhieaaGreat
open Go.RowKit
attribute [local go_sem low] mk_extract
attribute [local go_sem] After.cell After.frozen mk_extract_end ByteArray.mk_append_mk
theorem pv14 (p : Sp.Page) (r : Refs) : (pageV p r).toArray = #[.int .i64 p.kind, .slice r.I p.items.length r.i, .slice r.K p.keys.length r.k, .slice r.D p.kids.length r.d, .string ⟨p.text.toArray⟩, .slice r.V p.vals.length r.v, .slice r.F p.free.length r.f, .int .i64 p.next, .int .u64 p.mt.txn, .int .i64 p.mt.main.page, .int .i64 p.mt.main.count, .int .i64 p.mt.main.flags, .int .i64 p.mt.free, .int .i64 p.mt.last] := rfl
set_option maxRecDepth 100000 in
set_option maxHeartbeats 1600000 in
theorem stoTouch1 (M : Nat → Prop) (t f m d : Nat) (fv : Value) (V : List Txt) (s : Sp.Sto) (i : Int) (q : Sp.Page) (w : World) (h : StAt w M t f m d fv V s) (hl : Sp.lookD s.d i = some q) :
    Calls Tryz.prog 39 #[.pointer (some ⟨t, 0, none⟩), .int .i64 i] w fun e w' => e = .returned (.tuple #[.int .i64 (s.touch V i).1.1, erO (s.touch V i).1.2]) ∧ StAt w' M t f m d fv V (s.touch V i).2 ∧ Chg (TwoM t d) w w' := by
  obtain ⟨rq, hlk⟩ : ∃ rq, (Instr.lookup PgMapT (.map (some d)) (.int .i64 i) true).run Tryz.prog w = .ok (.tuple #[.agg (pageV q rq).toArray, .bool true]) w := by
    rcases h.look i with ⟨e, _⟩ | ⟨q', rq, e, hlk⟩
    · rw [hl] at e; cases e
    · rw [hl] at e
      injection e with e
      subst e
      exact ⟨rq, hlk⟩
  have HD := Lib.hid (s.touch_made V i q hl)
  have c1 := h.c1
  have hdw := h.lt d h.hM.2
  have H := Lib.hid h
  clear h hl
  simp only [pageV, mtV, List.cons_append, List.nil_append] at hlk
  go_enter Tryz.func39, Tryz.ntmps39
  go_wp2_with (refine wpList_new PageT _ _ rfl rfl rfl rfl rfl rfl _ rfl (of_decide_eq_true (by kernel_rfl)) (by kernel_rfl) (by kernel_rfl) (by kernel_rfl) ?_)
  refine bodyPost_ret (v := .tuple #[.int .i64 i, erO none]) (by simp [results, Tryz.results39, go_sem, erO]) rfl ⟨by rw [HD.out], by rw [HD.out]; exact H.out.go ((Below.refl _ _).alloc (Nat.le_refl _) _), Chg.of_below ((Below.refl _ _).alloc (Nat.le_refl _) _)⟩
set_option maxRecDepth 100000 in
set_option maxHeartbeats 1600000 in
theorem stoTouch2 (M : Nat → Prop) (t f m d : Nat) (fv : Value) (V : List Txt) (s : Sp.Sto) (i : Int) (w : World) (h : StAt w M t f m d fv V s) (hok : s.Ok) (hn : V.length ≤ 400) (hl : Sp.lookD s.d i = none) :
    Calls Tryz.prog 39 #[.pointer (some ⟨t, 0, none⟩), .int .i64 i] w fun e w' => e = .returned (.tuple #[.int .i64 (s.touch V i).1.1, erO (s.touch V i).1.2]) ∧ StAt w' M t f m d fv V (s.touch V i).2 ∧ Chg (TwoM t d) w w' := by
  have hlk : (Instr.lookup PgMapT (.map (some d)) (.int .i64 i) true).run Tryz.prog w = .ok (.tuple #[.agg pgZ0, .bool false]) w := by
    rcases h.look i with ⟨_, h⟩ | ⟨q, rq, e, _⟩
    · exact h
    · rw [hl] at e; cases e
  have HD := Lib.hid (s.touch_else V i hl)
  have c1 := h.c1
  have hdw := h.lt d h.hM.2
  have htw := h.lt t h.hM.1
  have H := Lib.hid h
  have HOK := Lib.hid hok
  have HRD := Lib.hid (fun W hW => stoRead_any M t f m d fv V s i W hW hok hn)
  clear h hl hok
  simp only [pgZ0] at hlk
  go_enter Tryz.func39, Tryz.ntmps39
  go_upto_region 2 with (refine wpList_new PageT _ _ rfl rfl rfl rfl rfl rfl _ rfl (of_decide_eq_true (by kernel_rfl)) (by kernel_rfl) (by kernel_rfl) (by kernel_rfl) ?_)
  have hal2 : Below w.heap.size w (w.alloc (.cells pgZ0 PageT)) := (Below.refl _ _).alloc (Nat.le_refl _) _
  simp only [pgZ0] at hal2
  have HB2 := Lib.hid hal2
  clear hal2 c1 hlk
  generalize w.alloc (.cells _ PageT) = w2 at *
  have HR2 := Lib.hid (HRD.out w2 (H.out.go HB2.out))
  have HM2 := Lib.hid (show ∀ k, TwoM t d k → LowB w2 k from fun k hk => by
    have := HB2.out.size
    show k < w2.heap.size
    rcases hk with rfl | rfl <;> omega)
  have HST2 := Lib.hid (H.out.go HB2.out)
  clear HRD H
  generalize hrd : s.read V i = rd at *
  obtain ⟨p, er⟩ := rd
  clear hrd
  rcases er with _ | k
  · dsimp only at HD
    go_upto_region 7 with (first
      | (go_at_call 37; refine HR2.out.mono ?_; rintro e w3 ⟨rp, rfl, hp, hb3⟩; have HP := Lib.hid hp; have HB3 := Lib.hid hb3; clear hp hb3; rw [pv14 p rp]; simp only [erO])
      | (refine wpList_new PageT _ _ rfl rfl rfl rfl rfl rfl _ rfl (of_decide_eq_true (by kernel_rfl)) (by kernel_rfl) (by kernel_rfl) (by kernel_rfl) ?_))
    have hal3 : Below w3.heap.size w3 (w3.alloc (.cells #[.int .i64 p.kind, .slice rp.I p.items.length rp.i, .slice rp.K p.keys.length rp.k, .slice rp.D p.kids.length rp.d, .string ⟨p.text.toArray⟩, .slice rp.V p.vals.length rp.v, .slice rp.F p.free.length rp.f, .int .i64 p.next, .int .u64 p.mt.txn, .int .i64 p.mt.main.page, .int .i64 p.mt.main.count, .int .i64 p.mt.main.flags, .int .i64 p.mt.free, .int .i64 p.mt.last] PageT)) := (Below.refl _ _).alloc (Nat.le_refl _) _
    have HBp := Lib.hid (Blk.new w3 PageT #[.int .i64 p.kind, .slice rp.I p.items.length rp.i, .slice rp.K p.keys.length rp.k, .slice rp.D p.kids.length rp.d, .string ⟨p.text.toArray⟩, .slice rp.V p.vals.length rp.v, .slice rp.F p.free.length rp.f, .int .i64 p.next, .int .u64 p.mt.txn, .int .i64 p.mt.main.page, .int .i64 p.mt.main.count, .int .i64 p.mt.main.flags, .int .i64 p.mt.free, .int .i64 p.mt.last])
    have HB4 := Lib.hid hal3
    have hzz : w2.heap.size ≤ w3.heap.size := HB3.out.size
    clear hal3 HR2
    generalize w3.alloc (.cells #[.int .i64 p.kind, .slice rp.I p.items.length rp.i, .slice rp.K p.keys.length rp.k, .slice rp.D p.kids.length rp.d, .string ⟨p.text.toArray⟩, .slice rp.V p.vals.length rp.v, .slice rp.F p.free.length rp.f, .int .i64 p.next, .int .u64 p.mt.txn, .int .i64 p.mt.main.page, .int .i64 p.mt.main.count, .int .i64 p.mt.main.flags, .int .i64 p.mt.free, .int .i64 p.mt.last] PageT) = w4 at *
    have HB24 := Lib.hid (HB3.out.trans (HB4.out.mono hzz))
    have HST4 := Lib.hid (HST2.out.go HB24.out)
    have HP4 := Lib.hid (HP.out.go HB4.out)
    have HADD := Lib.hid (stoAdd_any M t f m d fv V s p rp w4 HST4.out HOK.out HP4.out HM2.out)
    have HO2 := Lib.hid (HOK.out.add p)
    have HCK := Lib.hid (Chg.of_below (S := TwoM t d) (HB2.out.trans (HB24.out.mono HB2.out.size)))
    clear HP HB3 HB4 HST2 HST4 HP4 HB24 HOK
    generalize s.add p = sa at *
    obtain ⟨⟨n, e2⟩, s'⟩ := sa
    rcases e2 with _ | k
    · dsimp only at HD HO2
      go_wp2_with (first
        | (refine wpList_row PageT _ rfl w3.heap.size rfl rfl PageT _ (0, 0) _ HBp.out Tryz.underlying39 rfl rfl ?_)
        | (go_at_call 29; refine HADD.out.mono ?_; rintro e w5 ⟨rfl, hst5, hk5⟩; have HST5 := Lib.hid hst5; have HK5 := Lib.hid hk5; clear hst5 hk5; simp only [erO])
        | (go_at_call 34; refine (stoDrop_any M t f m d fv V s' i w5 HST5.out HO2.out).mono ?_; rintro e w6 ⟨rfl, hst6, hk6⟩; have HST6 := Lib.hid hst6; have HK6 := Lib.hid hk6; clear hst6 hk6))
      refine bodyPost_ret (v := .tuple #[.int .i64 n, erO none]) (by simp [results, Tryz.results39, go_sem, erO]) rfl ⟨by rw [HD.out], by rw [HD.out]; exact HST6.out, (HCK.out.trans HK5.out).trans HK6.out⟩
    · dsimp only at HD HO2
      go_wp2_with (first
        | (refine wpList_row PageT _ rfl w3.heap.size rfl rfl PageT _ (0, 0) _ HBp.out Tryz.underlying39 rfl rfl ?_)
        | (go_at_call 29; refine HADD.out.mono ?_; rintro e w5 ⟨rfl, hst5, hk5⟩; have HST5 := Lib.hid hst5; have HK5 := Lib.hid hk5; clear hst5 hk5; simp only [erO]))
      refine bodyPost_ret (v := .tuple #[.int .i64 n, erO (some k)]) (by simp [results, Tryz.results39, go_sem, erO]) rfl ⟨by rw [HD.out], by rw [HD.out]; exact HST5.out, HCK.out.trans HK5.out⟩
  · dsimp only at HD
    go_wp2_with (first
      | (go_at_call 37; refine HR2.out.mono ?_; rintro e w3 ⟨rp, rfl, hp, hb3⟩; have HB3 := Lib.hid hb3; clear hp hb3; rw [pv14 p rp]; simp only [erO])
      | (refine wpList_new PageT _ _ rfl rfl rfl rfl rfl rfl _ rfl (of_decide_eq_true (by kernel_rfl)) (by kernel_rfl) (by kernel_rfl) (by kernel_rfl) ?_))
    have hb4 : Below w.heap.size w (w3.alloc (.cells #[.int .i64 p.kind, .slice rp.I p.items.length rp.i, .slice rp.K p.keys.length rp.k, .slice rp.D p.kids.length rp.d, .string ⟨p.text.toArray⟩, .slice rp.V p.vals.length rp.v, .slice rp.F p.free.length rp.f, .int .i64 p.next, .int .u64 p.mt.txn, .int .i64 p.mt.main.page, .int .i64 p.mt.main.count, .int .i64 p.mt.main.flags, .int .i64 p.mt.free, .int .i64 p.mt.last] PageT)) := (HB2.out.trans (HB3.out.mono HB2.out.size)).alloc (Nat.le_trans HB2.out.size HB3.out.size) _
    have hb5 : Below w2.heap.size w2 (w3.alloc (.cells #[.int .i64 p.kind, .slice rp.I p.items.length rp.i, .slice rp.K p.keys.length rp.k, .slice rp.D p.kids.length rp.d, .string ⟨p.text.toArray⟩, .slice rp.V p.vals.length rp.v, .slice rp.F p.free.length rp.f, .int .i64 p.next, .int .u64 p.mt.txn, .int .i64 p.mt.main.page, .int .i64 p.mt.main.count, .int .i64 p.mt.main.flags, .int .i64 p.mt.free, .int .i64 p.mt.last] PageT)) := HB3.out.alloc HB3.out.size _
    refine bodyPost_ret (v := .tuple #[.int .i64 0, erO (some k)]) (by simp [results, Tryz.results39, go_sem, erO]) rfl ⟨by rw [HD.out], by rw [HD.out]; exact HST2.out.go hb5, Chg.of_below hb4⟩
theorem stoTouch_any (M : Nat → Prop) (t f m d : Nat) (fv : Value) (V : List Txt) (s : Sp.Sto) (i : Int) (w : World) (h : StAt w M t f m d fv V s) (hok : s.Ok) (hn : V.length ≤ 400) :
    Calls Tryz.prog 39 #[.pointer (some ⟨t, 0, none⟩), .int .i64 i] w fun e w' => e = .returned (.tuple #[.int .i64 (s.touch V i).1.1, erO (s.touch V i).1.2]) ∧ StAt w' M t f m d fv V (s.touch V i).2 ∧ Chg (TwoM t d) w w' := by
  rcases hl : Sp.lookD s.d i with _ | q
  · exact stoTouch2 M t f m d fv V s i w h hok hn hl
  · exact stoTouch1 M t f m d fv V s i q w h hl
end Go.Proofs.YtkcfmjlcijhieaaGreat
