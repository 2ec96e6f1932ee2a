/- Whether a page and all below are right: tree.checks. -/
import Derived.Test.YtlpmjeiogdlifaaGreatQB25
set_option linter.unusedSimpArgs false
set_option linter.unusedVariables false
namespace Go.Proofs.YtlpmjeiogdlifaaGreat
open Go.RowKit
attribute [local go_sem low] mk_extract
attribute [local go_sem] After.cell After.frozen mk_extract_end ByteArray.mk_append_mk
namespace Sp
def RightP (V : List Txt) (s : Sto) : Prop := ∀ i p, s.read V i = (p, none) → isPage p = true
theorem RightP.leaf {V : List Txt} {s : Sto} (h : RightP V s) {i : Int} {p : Page} (hr : s.read V i = (p, none)) (hk : p.kind = 1) : p.items ≠ [] ∧ p.items.length ≤ 4 := by
  rcases isPage_kind (h i p hr) with ⟨_, hl⟩ | ⟨e, _⟩ | e | ⟨e, _⟩ | ⟨e, _⟩ | e
  · unfold isLeaf at hl
    rw [Bool.and_eq_true, Bool.and_eq_true] at hl
    have h1 := of_decide_eq_true hl.1.2
    have h2 := of_decide_eq_true hl.2
    exact ⟨fun e => by rw [e] at h1; simp at h1, h2⟩
  all_goals omega
theorem RightP.branch {V : List Txt} {s : Sto} (h : RightP V s) {i : Int} {p : Page} (hr : s.read V i = (p, none)) (hk : p.kind = 2) : p.kids.length ≤ 4 ∧ p.keys.length = p.kids.length := by
  rcases isPage_kind (h i p hr) with ⟨e, _⟩ | ⟨_, hb⟩ | e | ⟨e, _⟩ | ⟨e, _⟩ | e
  · omega
  · exact ⟨(isBranch_rng hb).1, (isBranch_rng hb).2.1⟩
  all_goals omega
theorem RightP.branch2 {V : List Txt} {s : Sto} (h : RightP V s) {i : Int} {p : Page} (hr : s.read V i = (p, none)) (hk : p.kind = 2) : 2 ≤ p.kids.length := by
  rcases isPage_kind (h i p hr) with ⟨e, _⟩ | ⟨_, hb⟩ | e | ⟨e, _⟩ | ⟨e, _⟩ | e
  · omega
  · unfold isBranch at hb
    simp only [Bool.and_eq_true, decide_eq_true_eq] at hb
    omega
  all_goals omega
def frK (keys : List Txt) (fr : Txt) (q : Nat) : Txt := if 0 < q then keys.getD q [] else fr
def blK (keys : List Txt) (bl : Txt) (q : Nat) : Txt := if q + 1 < keys.length then keys.getD (q + 1) [] else bl
theorem chkKids_step {f : Int → Txt → Txt → Int} {keys : List Txt} {fr bl : Txt} {kids : List Int} {q : Nat} {lv : Int} (h : q < kids.length) :
    chkKids f keys fr bl (kids.drop q) q lv = if f (kids.getD q 0) (frK keys fr q) (blK keys bl q) < 0 ∨ (0 < lv ∧ f (kids.getD q 0) (frK keys fr q) (blK keys bl q) ≠ lv) ∨ within fr bl (frK keys fr q) = false then -1 else chkKids f keys fr bl (kids.drop (q + 1)) (q + 1) (f (kids.getD q 0) (frK keys fr q) (blK keys bl q)) := by
  rw [List.drop_eq_getElem_cons h, show kids[q] = kids.getD q 0 by simp [List.getD, h]]
  rfl
theorem checks_err {rd : Int → Page × Option Int} {n : Nat} {id : Int} {fr bl : Txt} {top : Bool} {deep : Int} {p : Page} {e : Int} (h : rd id = (p, some e)) : checksI rd n id fr bl top deep = -1 := by
  cases n with
  | zero => rfl
  | succ n => unfold checksI; rw [h]
theorem checks_leaf {rd : Int → Page × Option Int} {n : Nat} {id : Int} {fr bl : Txt} {top : Bool} {deep : Int} {p : Page} (h : rd id = (p, none)) (hk : p.kind = 1) :
    checksI rd (n + 1) id fr bl top deep = if (top = false ∧ p.items.length < 2) ∨ (p.items.any fun x => !within fr bl x.key) = true then -1 else deep := by
  unfold checksI; rw [h]; dsimp only; rw [if_pos hk]
theorem checks_no {rd : Int → Page × Option Int} {n : Nat} {id : Int} {fr bl : Txt} {top : Bool} {deep : Int} {p : Page} (h : rd id = (p, none)) (hk : p.kind ≠ 1) (hk2 : p.kind ≠ 2) : checksI rd (n + 1) id fr bl top deep = -1 := by
  unfold checksI; rw [h]; dsimp only; rw [if_neg hk, if_pos hk2]
theorem checks_branch {rd : Int → Page × Option Int} {n : Nat} {id : Int} {fr bl : Txt} {top : Bool} {deep : Int} {p : Page} (h : rd id = (p, none)) (hk : p.kind = 2) :
    checksI rd (n + 1) id fr bl top deep = chkKids (fun k fr bl => checksI rd n k fr bl false (deep + 1)) p.keys fr bl p.kids 0 0 := by
  conv => lhs; unfold checksI
  rw [h]; dsimp only; rw [if_neg (by omega), if_neg (by omega)]
end Sp
structure CkS (w : World) (M : Nat → Prop) (t f m d : Nat) (fv : Value) (V : List Txt) (s : Sp.Sto) (b7 b11 : Nat) (fr bl : Txt) (p : Sp.Page) (r : Refs) (W : World) : Prop where
  st : StAt W M t f m d fv V s
  bb : Blk W b7 BndT #[.string ⟨fr.toArray⟩, .string ⟨bl.toArray⟩]
  bp : Blk W b11 PageT (pageV p r).toArray
  rd : PageRd W NoM p r
  hb : Below w.heap.size w W
theorem CkS.go {w W W' : World} {M : Nat → Prop} {t f m d : Nat} {fv : Value} {V : List Txt} {s : Sp.Sto} {b7 b11 : Nat} {fr bl : Txt} {p : Sp.Page} {r : Refs} (h : CkS w M t f m d fv V s b7 b11 fr bl p r W) (hb : Below W.heap.size W W') : CkS w M t f m d fv V s b7 b11 fr bl p r W' :=
  ⟨h.st.go hb, h.bb.below hb h.bb.lt, h.bp.below hb h.bp.lt, h.rd.go hb, h.hb.trans (hb.mono h.hb.size)⟩
structure CuS (wo : World) (x y : Txt) (b17 : Nat) (W : World) : Prop where
  b : Blk W b17 BndT #[.string ⟨x.toArray⟩, .string ⟨y.toArray⟩]
  hb : Below wo.heap.size wo W
  ge : wo.heap.size ≤ b17
theorem CuS.go {wo W W' : World} {x y : Txt} {b17 : Nat} (h : CuS wo x y b17 W) (hb : Below W.heap.size W W') : CuS wo x y b17 W' := ⟨h.b.below hb h.b.lt, h.hb.trans (hb.mono h.hb.size), h.ge⟩
theorem CuS.set0 {wo W : World} {x y z : Txt} {b17 : Nat} (h : CuS wo x y b17 W) : CuS wo z y b17 (W.setCell ⟨b17, 0, none⟩ (.string ⟨z.toArray⟩)) := by
  refine ⟨?_, h.hb.trans ((Chg.set1 W b17 0 _).below h.hb.size fun k hk e => ?_), h.ge⟩
  · have := h.b.set_ 0 (.string ⟨z.toArray⟩)
    simpa using this
  · have e : k = b17 := e
    have := h.ge
    omega
theorem CuS.set1 {wo W : World} {x y z : Txt} {b17 : Nat} (h : CuS wo x y b17 W) : CuS wo x z b17 (W.setCell ⟨b17, 1, none⟩ (.string ⟨z.toArray⟩)) := by
  refine ⟨?_, h.hb.trans ((Chg.set1 W b17 1 _).below h.hb.size fun k hk e => ?_), h.ge⟩
  · have := h.b.set_ 1 (.string ⟨z.toArray⟩)
    simpa using this
  · have e : k = b17 := e
    have := h.ge
    omega
section
variable (M : Nat → Prop) (t f m d : Nat) (fv : Value) (V : List Txt) (s : Sp.Sto)
set_option maxRecDepth 100000 in
set_option maxHeartbeats 6400000 in
theorem checks_any (hok : s.Ok) (hV : V.length ≤ 400) (hP : Sp.RightP V s) : ∀ (n : Nat) (id : Int) (fr bl : Txt) (top : Bool) (deep : Int) (w : World), StAt w M t f m d fv V s → deep + n = 9 → 1 ≤ deep →
    Calls Tryz.prog 50 #[.pointer (some ⟨t, 0, none⟩), .int .i64 id, .agg #[.string ⟨fr.toArray⟩, .string ⟨bl.toArray⟩], .bool top, .int .i64 deep] w fun e w' => e = .returned (.int .i64 (Sp.checksI (s.read V) n id fr bl top deep)) ∧ Below w.heap.size w w' := by
  intro n
  induction n with
  | zero =>
    intro id fr bl top deep w hst hd h1
    have hd9 : deep = 9 := by omega
    subst hd9
    have hal : Below w.heap.size w (w.alloc (.cells #[.string ⟨fr.toArray⟩, .string ⟨bl.toArray⟩] BndT)) := (Below.refl _ _).alloc (Nat.le_refl _) _
    have HAL := Lib.hid hal
    have HRD := Lib.hid (stoRead_any M t f m d fv V s id _ (hst.go hal) hok hV)
    have HRES := Lib.hid (show Sp.checksI (s.read V) 0 id fr bl top 9 = -1 from rfl)
    clear hst hal hd h1
    generalize s.read V id = rd at *
    obtain ⟨p, er⟩ := rd
    rcases er with _ | e
    all_goals
      go_enter Tryz.func50, Tryz.ntmps50
      go_wp2_with fail
      go_step3
      go_upto_region 2 with (first
        | (go_at_call 28; refine HRD.out.mono ?_; rintro e w2 ⟨r, rfl, hr, hb2⟩; have HB2 := Lib.hid (HAL.out.trans (hb2.mono HAL.out.size)); clear hr hb2; rw [pv14 p r]; simp only [erO])
        | (refine wpList_new PageT _ _ rfl rfl rfl rfl rfl rfl _ rfl (of_decide_eq_true (by kernel_rfl)) (by kernel_rfl) (by kernel_rfl) (by kernel_rfl) ?_))
      go_wp2_with fail
      try rw [Exit.noGoto_ret]
      go_ret
      exact ⟨by rw [HRES.out]; rfl, HB2.out.alloc HB2.out.size _⟩
  | succ n ih =>
    intro id fr bl top deep w hst hd h1
    have hd8 : ¬ 8 < deep := by omega
    have hwr : IntKind.i64.wrap (deep + 1) = deep + 1 := by rw [IntKind.wrap_i64]; omega
    have hal : Below w.heap.size w (w.alloc (.cells #[.string ⟨fr.toArray⟩, .string ⟨bl.toArray⟩] BndT)) := (Below.refl _ _).alloc (Nat.le_refl _) _
    have HAL := Lib.hid hal
    have HB7 := Lib.hid (Blk.new w BndT #[.string ⟨fr.toArray⟩, .string ⟨bl.toArray⟩])
    have HST := Lib.hid (hst.go hal)
    have HRD := Lib.hid (stoRead_any M t f m d fv V s id _ (hst.go hal) hok hV)
    have IH := Lib.hid ih
    clear hst hal ih
    generalize hrd : s.read V id = rd at *
    obtain ⟨p, er⟩ := rd
    rcases er with _ | e
    · go_enter Tryz.func50, Tryz.ntmps50
      go_wp2_with fail
      go_step3
      go_upto_region 2 with (first
        | (go_at_call 28; refine HRD.out.mono ?_; rintro e w2 ⟨r, rfl, hr, hb2⟩; have HB2 := Lib.hid hb2; have HR2 := Lib.hid hr; clear hr hb2; rw [pv14 p r]; simp only [erO])
        | (refine wpList_new PageT _ _ rfl rfl rfl rfl rfl rfl _ rfl (of_decide_eq_true (by kernel_rfl)) (by kernel_rfl) (by kernel_rfl) (by kernel_rfl) ?_))
      have hz1 := HAL.out.size
      have hal2 : Below w2.heap.size w2 (w2.alloc (.cells (pageV p r).toArray PageT)) := (Below.refl _ _).alloc (Nat.le_refl _) _
      refine wp_gen (fun W => CkS w M t f m d fv V s w.heap.size w2.heap.size fr bl p r W) ⟨(HST.out.go HB2.out).go hal2, (HB7.out.below HB2.out HB7.out.lt).below hal2 (Nat.lt_of_lt_of_le HB7.out.lt HB2.out.size), Blk.new _ _ _, (HR2.out.anti fun k h => absurd h (fun h => h)).go hal2, (HAL.out.trans (HB2.out.mono hz1)).trans (hal2.mono (Nat.le_trans hz1 HB2.out.size))⟩ ?_
      generalize w2.heap.size = b11
      obtain ⟨b7, hb7⟩ : ∃ b7, b7 = w.heap.size := ⟨_, rfl⟩
      rw [← hb7]
      clear hb7 HB2 HR2 HST HB7 HRD HAL hal2 hz1
      intro w3 hs3
      have S := Lib.hid hs3
      have c0 : w3.cell? ⟨b11, 0, none⟩ = some (.int .i64 p.kind) := hs3.bp.cell 0
      have c1 : w3.cell? ⟨b11, 1, none⟩ = some (.slice r.I p.items.length r.i) := hs3.bp.cell 1
      have c3 : w3.cell? ⟨b11, 3, none⟩ = some (.slice r.D p.kids.length r.d) := hs3.bp.cell 3
      clear hs3
      go_upto_region 4 with fail
      by_cases hk1 : p.kind = 1
      · have HRES := Lib.hid (Sp.checks_leaf (n := n) (fr := fr) (bl := bl) (top := top) (deep := deep) hrd hk1)
        obtain ⟨hne, hl4⟩ := hP.leaf hrd hk1
        rw [hk1] at c0
        clear hrd c3 hk1
        by_cases hfew : top = false ∧ p.items.length < 2
        · obtain ⟨rfl, hlt⟩ := hfew
          go_wp2_with fail
          try rw [Exit.noGoto_ret]
          go_ret
          exact ⟨by rw [HRES.out, if_pos (by simp [hlt])]; rfl, S.out.hb⟩
        · have HC := Lib.hid (contains_any p.items r.I r.i fr bl b7 w3 S.out.rd.items hne S.out.bb)
          rcases hany : (p.items.any fun x => !Sp.within fr bl x.key) with _ | _
          · rw [hany] at HC HRES
            rcases top with _ | _
            · have hlt : ¬ p.items.length < 2 := fun h => hfew ⟨rfl, h⟩
              go_wp2_with (go_at_call 94; refine HC.out.mono ?_; rintro e w4 ⟨rfl, hb4⟩; have HB4 := Lib.hid hb4; clear hb4)
              try rw [Exit.noGoto_ret]
              go_ret
              exact ⟨by rw [HRES.out, if_neg (by rintro (h | h); exact hfew h; cases h)]; rfl, S.out.hb.trans (HB4.out.mono S.out.hb.size)⟩
            · go_wp2_with (go_at_call 94; refine HC.out.mono ?_; rintro e w4 ⟨rfl, hb4⟩; have HB4 := Lib.hid hb4; clear hb4)
              try rw [Exit.noGoto_ret]
              go_ret
              exact ⟨by rw [HRES.out, if_neg (by rintro (h | h); exact hfew h; cases h)]; rfl, S.out.hb.trans (HB4.out.mono S.out.hb.size)⟩
          · rw [hany] at HC HRES
            rcases top with _ | _
            · have hlt : ¬ p.items.length < 2 := fun h => hfew ⟨rfl, h⟩
              go_wp2_with (go_at_call 94; refine HC.out.mono ?_; rintro e w4 ⟨rfl, hb4⟩; have HB4 := Lib.hid hb4; clear hb4)
              try rw [Exit.noGoto_ret]
              go_ret
              exact ⟨by rw [HRES.out, if_pos (by simp)]; rfl, S.out.hb.trans (HB4.out.mono S.out.hb.size)⟩
            · go_wp2_with (go_at_call 94; refine HC.out.mono ?_; rintro e w4 ⟨rfl, hb4⟩; have HB4 := Lib.hid hb4; clear hb4)
              try rw [Exit.noGoto_ret]
              go_ret
              exact ⟨by rw [HRES.out, if_pos (by simp)]; rfl, S.out.hb.trans (HB4.out.mono S.out.hb.size)⟩
      · by_cases hk2 : p.kind = 2
        · have HRES := Lib.hid (Sp.checks_branch (n := n) (fr := fr) (bl := bl) (top := top) (deep := deep) hrd hk2)
          obtain ⟨hk4, hkl⟩ := hP.branch hrd hk2
          rw [hk2] at c0
          have hk22 := (hP.branch2 hrd hk2)
          obtain ⟨kb, ko, hD, hkb, hkc⟩ := S.out.rd.kids.at_ (k := 0) (by omega)
          obtain ⟨yb, yo, hK, hyb, hyc⟩ := S.out.rd.keys.at_ (k := 0) (by omega)
          have c2 : w3.cell? ⟨b11, 2, none⟩ = some (.slice r.K p.keys.length r.k) := S.out.bp.cell 2
          rw [hD] at c3
          rw [hK] at c2
          have HKC := Lib.hid hkc
          have HYC := Lib.hid hyc
          have HKL := Lib.hid hkl
          clear hrd c1 hk1 hk2 hD hK hkc hyc hkl
          generalize hres : Sp.chkKids (fun k fr bl => Sp.checksI (s.read V) n k fr bl false (deep + 1)) p.keys fr bl p.kids 0 0 = RES at *
          have HR0 := Lib.hid (show Sp.chkKids (fun k fr bl => Sp.checksI (s.read V) n k fr bl false (deep + 1)) p.keys fr bl (p.kids.drop 0) 0 0 = RES from hres)
          clear hres
          go_wp2_with fail
          go_step3
          go_wp2_with fail
          go_loopw [14] (fun a wr => a = .int .i64 0 ∧ wr = w3) (fun _ _ => 0)
          case atStart => exact ⟨rfl, rfl⟩
          case round =>
            obtain ⟨rfl, rfl⟩ := hrel
            go_wp2_with fail
            obtain ⟨wo, rfl⟩ : ∃ W, W = wr := ⟨_, rfl⟩
            go_loopw [14, 56] (fun lvv iv W => ∃ (q : Nat) (lv : Int), lvv = .int .i64 lv ∧ iv = .int .i64 (q : Int) ∧ q ≤ p.kids.length ∧ Hid (Sp.chkKids (fun k fr bl => Sp.checksI (s.read V) n k fr bl false (deep + 1)) p.keys fr bl (p.kids.drop q) q lv = RES) ∧ Hid (Below wo.heap.size wo W)) (fun _ iv _ => p.kids.length - (intOf iv).toNat)
            case atStart => exact ⟨0, 0, rfl, rfl, Nat.zero_le _, HR0, Lib.hid (Below.refl _ _)⟩
            case round =>
              obtain ⟨q, lv, rfl, rfl, hq, HR, HBW⟩ := hrel
              clear HR0
              by_cases hql : q < p.kids.length
              · have hstep := Sp.chkKids_step (f := fun k fr bl => Sp.checksI (s.read V) n k fr bl false (deep + 1)) (keys := p.keys) (fr := fr) (bl := bl) (lv := lv) hql
                rw [HR.out] at hstep
                have HSTEP := Lib.hid hstep
                have hkid := (HBW.out.cell (p := ⟨kb, ko + q, none⟩) hkb).trans (HKC.out q hql)
                have c2r := (HBW.out.cell (p := ⟨b11, 2, none⟩) S.out.bp.lt).trans c2
                have d0 := (HBW.out.cell (p := ⟨b7, 0, none⟩) S.out.bb.lt).trans (S.out.bb.cell 0)
                have d1 := (HBW.out.cell (p := ⟨b7, 1, none⟩) S.out.bb.lt).trans (S.out.bb.cell 1)
                have d0 : wr.cell? ⟨b7, 0, none⟩ = some (.string ⟨fr.toArray⟩) := d0
                have d1 : wr.cell? ⟨b7, 1, none⟩ = some (.string ⟨bl.toArray⟩) := d1
                clear hstep HR
                generalize p.kids.getD q 0 = kid at *
                generalize hfq : Sp.frK p.keys fr q = fq at *
                generalize hbq : Sp.blK p.keys bl q = bq at *
                have HFQ := Lib.hid hfq
                have HBQ := Lib.hid hbq
                clear hfq hbq
                go_upto_region 15 with fail
                go_cut [17] (fun c W => ∃ b17, c = .pointer (some ⟨b17, 0, none⟩) ∧ CuS wo fr bl b17 W)
                case first =>
                  go_wp2_with (refine wpList_new BndT _ _ rfl rfl rfl rfl rfl rfl _ rfl (of_decide_eq_true (by kernel_rfl)) (by kernel_rfl) (by kernel_rfl) (by kernel_rfl) ?_)
                  go_meet
                  case rel => exact ⟨wr.heap.size, rfl, Blk.new _ _ _, HBW.out.alloc HBW.out.size _, HBW.out.size⟩
                case rest =>
                  obtain ⟨b17, rfl, hcu⟩ := hcut
                  have C := Lib.hid hcu
                  clear hcu d0 d1 c2r hkid
                  have c0C : ∀ W, Below wo.heap.size wo W → W.cell? ⟨b11, 2, none⟩ = some (.slice (some ⟨yb, yo, none⟩) p.keys.length r.k) := fun W hW => (hW.cell (p := ⟨b11, 2, none⟩) S.out.bp.lt).trans c2
                  have HC2 := Lib.hid c0C
                  clear c0C
                  have hw1 : IntKind.i64.wrap ((q : Int) + 1) = (q : Int) + 1 := by rw [IntKind.wrap_i64]; omega
                  have k2 := HC2.out _ C.out.hb
                  have e0 := C.out.b.cell 0
                  have f0 := C.out.b.frozen 0
                  have l0 := C.out.b.lt
                  by_cases h0 : 0 < q
                  · have hq0 : (0 : Int) < (q : Int) := by omega
                    have hqk : q < p.keys.length := by have := HKL.out; omega
                    have hfq : p.keys.getD q [] = fq := by rw [← HFQ.out]; exact (if_pos h0).symm
                    have hkq := (C.out.hb.cell (p := ⟨yb, yo + q, none⟩) hyb).trans (HYC.out q (by have := HKL.out; omega))
                    rw [hfq] at hkq
                    go_upto_region 18 with fail
                    refine wp_gen (fun W => CuS wo fq bl b17 W) (C.out.set0 (z := fq)) ?_
                    intro w5 hc5
                    have C1 := Lib.hid hc5
                    clear hc5 hkq hfq k2 e0 f0 l0 C
                    have k2 := HC2.out _ C1.out.hb
                    have e1 := C1.out.b.cell 1
                    have f1 := C1.out.b.frozen 1
                    have l1 := C1.out.b.lt
                    by_cases h1 : q + 1 < p.keys.length
                    · have hq1 : (q : Int) + 1 < (p.keys.length : Int) := by omega
                      have hbq : p.keys.getD (q + 1) [] = bq := by rw [← HBQ.out]; exact (if_pos h1).symm
                      have hkq := (C1.out.hb.cell (p := ⟨yb, yo + (q + 1), none⟩) hyb).trans (HYC.out (q + 1) h1)
                      rw [hbq] at hkq
                      go_upto_region 20 with fail
                      refine wp_gen (fun W => CuS wo fq bq b17 W) (C1.out.set1 (z := bq)) ?_
                      intro w6 hc6
                      have C6 := Lib.hid hc6
                      clear hc6 hkq hbq k2 e1 f1 l1 C1
                      have S6 := Lib.hid (S.out.go C6.out.hb)
                      have HIK := Lib.hid (IH.out kid fq bq false (deep + 1) w6 S6.out.st (by omega) (by omega))
                      generalize Sp.checksI (s.read V) n kid fq bq false (deep + 1) = nv at *
                      go_upto_region 21 with (first
                        | (refine wpList_row BndT _ rfl b17 rfl rfl BndT _ (0, 0) _ C6.out.b Tryz.underlying109 rfl (by kernel_rfl) ?_)
                        | (go_at_call 50; refine HIK.out.mono ?_; rintro e w7 ⟨rfl, hb7⟩; have C7 := Lib.hid (C6.out.go hb7); clear hb7))
                      have S7 := Lib.hid (S.out.go C7.out.hb)
                      have g0 : w7.cell? ⟨b17, 0, none⟩ = some (.string ⟨fq.toArray⟩) := C7.out.b.cell 0
                      have hwb := S7.out.hb
                      by_cases n1 : nv < 0
                      · as_aux_lemma =>
                          go_wp2_with fail
                          try rw [Exit.noGoto_ret]
                          go_ret
                          exact ⟨by rw [HRES.out, HSTEP.out, if_pos (.inl n1)]; rfl, hwb⟩
                      have HHO := Lib.hid (holds_any fr bl fq w7)
                      by_cases n2 : 0 < lv
                      · by_cases n3 : nv = lv
                        · subst n3
                          rcases hwi : Sp.within fr bl fq with _ | _
                          · as_aux_lemma =>
                              go_wp2_with (first
                                  | (refine wpList_row BndT _ rfl b7 rfl rfl BndT _ (0, 0) _ S7.out.bb Tryz.underlying109 rfl (by kernel_rfl) ?_)
                                  | (go_at_call 96; refine HHO.out.mono ?_; rintro e w8 ⟨rfl, hb8⟩; rw [hwi]; have HB8 := Lib.hid hb8; clear hb8))
                              try rw [Exit.noGoto_ret]
                              go_ret
                              exact ⟨by rw [HRES.out, HSTEP.out, if_pos (.inr (.inr hwi))]; rfl, hwb.trans (HB8.out.mono hwb.size)⟩
                          · as_aux_lemma =>
                              have HN := Lib.hid (show Sp.chkKids (fun k fr bl => Sp.checksI (s.read V) n k fr bl false (deep + 1)) p.keys fr bl (p.kids.drop (q + 1)) (q + 1) nv = RES from by
                                rw [HSTEP.out, if_neg]
                                rintro (h | h | h)
                                · exact n1 h
                                · exact h.2 rfl
                                · rw [hwi] at h; cases h)
                              go_wp2_with (first
                                  | (refine wpList_row BndT _ rfl b7 rfl rfl BndT _ (0, 0) _ S7.out.bb Tryz.underlying109 rfl (by kernel_rfl) ?_)
                                  | (go_at_call 96; refine HHO.out.mono ?_; rintro e w8 ⟨rfl, hb8⟩; rw [hwi]; have HB8 := Lib.hid hb8; clear hb8))
                              go_roundw
                              case rel => exact ⟨q + 1, nv, rfl, by go_num, by omega, HN, Lib.hid (C7.out.hb.trans (HB8.out.mono C7.out.hb.size))⟩
                              case measure => simp [intOf]; omega
                        · have n4 : (nv != lv) = true := bne_iff_ne.2 n3
                          as_aux_lemma =>
                            go_wp2_with fail
                            try rw [Exit.noGoto_ret]
                            go_ret
                            exact ⟨by rw [HRES.out, HSTEP.out, if_pos (.inr (.inl ⟨n2, n3⟩))]; rfl, hwb⟩
                      · skip
                        rcases hwi : Sp.within fr bl fq with _ | _
                        · as_aux_lemma =>
                            go_wp2_with (first
                                | (refine wpList_row BndT _ rfl b7 rfl rfl BndT _ (0, 0) _ S7.out.bb Tryz.underlying109 rfl (by kernel_rfl) ?_)
                                | (go_at_call 96; refine HHO.out.mono ?_; rintro e w8 ⟨rfl, hb8⟩; rw [hwi]; have HB8 := Lib.hid hb8; clear hb8))
                            try rw [Exit.noGoto_ret]
                            go_ret
                            exact ⟨by rw [HRES.out, HSTEP.out, if_pos (.inr (.inr hwi))]; rfl, hwb.trans (HB8.out.mono hwb.size)⟩
                        · as_aux_lemma =>
                            have HN := Lib.hid (show Sp.chkKids (fun k fr bl => Sp.checksI (s.read V) n k fr bl false (deep + 1)) p.keys fr bl (p.kids.drop (q + 1)) (q + 1) nv = RES from by
                              rw [HSTEP.out, if_neg]
                              rintro (h | h | h)
                              · exact n1 h
                              · exact n2 h.1
                              · rw [hwi] at h; cases h)
                            go_wp2_with (first
                                | (refine wpList_row BndT _ rfl b7 rfl rfl BndT _ (0, 0) _ S7.out.bb Tryz.underlying109 rfl (by kernel_rfl) ?_)
                                | (go_at_call 96; refine HHO.out.mono ?_; rintro e w8 ⟨rfl, hb8⟩; rw [hwi]; have HB8 := Lib.hid hb8; clear hb8))
                            go_roundw
                            case rel => exact ⟨q + 1, nv, rfl, by go_num, by omega, HN, Lib.hid (C7.out.hb.trans (HB8.out.mono C7.out.hb.size))⟩
                            case measure => simp [intOf]; omega
                    · have hq1 : ¬ (q : Int) + 1 < (p.keys.length : Int) := by omega
                      have hbq : bl = bq := by rw [← HBQ.out]; exact (if_neg h1).symm
                      go_upto_region 20 with fail
                      refine wp_gen (fun W => CuS wo fq bq b17 W) (by rw [← hbq]; exact C1.out) ?_
                      intro w6 hc6
                      have C6 := Lib.hid hc6
                      clear hc6 hbq k2 e1 f1 l1 C1
                      have S6 := Lib.hid (S.out.go C6.out.hb)
                      have HIK := Lib.hid (IH.out kid fq bq false (deep + 1) w6 S6.out.st (by omega) (by omega))
                      generalize Sp.checksI (s.read V) n kid fq bq false (deep + 1) = nv at *
                      go_upto_region 21 with (first
                        | (refine wpList_row BndT _ rfl b17 rfl rfl BndT _ (0, 0) _ C6.out.b Tryz.underlying109 rfl (by kernel_rfl) ?_)
                        | (go_at_call 50; refine HIK.out.mono ?_; rintro e w7 ⟨rfl, hb7⟩; have C7 := Lib.hid (C6.out.go hb7); clear hb7))
                      have S7 := Lib.hid (S.out.go C7.out.hb)
                      have g0 : w7.cell? ⟨b17, 0, none⟩ = some (.string ⟨fq.toArray⟩) := C7.out.b.cell 0
                      have hwb := S7.out.hb
                      by_cases n1 : nv < 0
                      · as_aux_lemma =>
                          go_wp2_with fail
                          try rw [Exit.noGoto_ret]
                          go_ret
                          exact ⟨by rw [HRES.out, HSTEP.out, if_pos (.inl n1)]; rfl, hwb⟩
                      have HHO := Lib.hid (holds_any fr bl fq w7)
                      by_cases n2 : 0 < lv
                      · by_cases n3 : nv = lv
                        · subst n3
                          rcases hwi : Sp.within fr bl fq with _ | _
                          · as_aux_lemma =>
                              go_wp2_with (first
                                  | (refine wpList_row BndT _ rfl b7 rfl rfl BndT _ (0, 0) _ S7.out.bb Tryz.underlying109 rfl (by kernel_rfl) ?_)
                                  | (go_at_call 96; refine HHO.out.mono ?_; rintro e w8 ⟨rfl, hb8⟩; rw [hwi]; have HB8 := Lib.hid hb8; clear hb8))
                              try rw [Exit.noGoto_ret]
                              go_ret
                              exact ⟨by rw [HRES.out, HSTEP.out, if_pos (.inr (.inr hwi))]; rfl, hwb.trans (HB8.out.mono hwb.size)⟩
                          · as_aux_lemma =>
                              have HN := Lib.hid (show Sp.chkKids (fun k fr bl => Sp.checksI (s.read V) n k fr bl false (deep + 1)) p.keys fr bl (p.kids.drop (q + 1)) (q + 1) nv = RES from by
                                rw [HSTEP.out, if_neg]
                                rintro (h | h | h)
                                · exact n1 h
                                · exact h.2 rfl
                                · rw [hwi] at h; cases h)
                              go_wp2_with (first
                                  | (refine wpList_row BndT _ rfl b7 rfl rfl BndT _ (0, 0) _ S7.out.bb Tryz.underlying109 rfl (by kernel_rfl) ?_)
                                  | (go_at_call 96; refine HHO.out.mono ?_; rintro e w8 ⟨rfl, hb8⟩; rw [hwi]; have HB8 := Lib.hid hb8; clear hb8))
                              go_roundw
                              case rel => exact ⟨q + 1, nv, rfl, by go_num, by omega, HN, Lib.hid (C7.out.hb.trans (HB8.out.mono C7.out.hb.size))⟩
                              case measure => simp [intOf]; omega
                        · have n4 : (nv != lv) = true := bne_iff_ne.2 n3
                          as_aux_lemma =>
                            go_wp2_with fail
                            try rw [Exit.noGoto_ret]
                            go_ret
                            exact ⟨by rw [HRES.out, HSTEP.out, if_pos (.inr (.inl ⟨n2, n3⟩))]; rfl, hwb⟩
                      · skip
                        rcases hwi : Sp.within fr bl fq with _ | _
                        · as_aux_lemma =>
                            go_wp2_with (first
                                | (refine wpList_row BndT _ rfl b7 rfl rfl BndT _ (0, 0) _ S7.out.bb Tryz.underlying109 rfl (by kernel_rfl) ?_)
                                | (go_at_call 96; refine HHO.out.mono ?_; rintro e w8 ⟨rfl, hb8⟩; rw [hwi]; have HB8 := Lib.hid hb8; clear hb8))
                            try rw [Exit.noGoto_ret]
                            go_ret
                            exact ⟨by rw [HRES.out, HSTEP.out, if_pos (.inr (.inr hwi))]; rfl, hwb.trans (HB8.out.mono hwb.size)⟩
                        · as_aux_lemma =>
                            have HN := Lib.hid (show Sp.chkKids (fun k fr bl => Sp.checksI (s.read V) n k fr bl false (deep + 1)) p.keys fr bl (p.kids.drop (q + 1)) (q + 1) nv = RES from by
                              rw [HSTEP.out, if_neg]
                              rintro (h | h | h)
                              · exact n1 h
                              · exact n2 h.1
                              · rw [hwi] at h; cases h)
                            go_wp2_with (first
                                | (refine wpList_row BndT _ rfl b7 rfl rfl BndT _ (0, 0) _ S7.out.bb Tryz.underlying109 rfl (by kernel_rfl) ?_)
                                | (go_at_call 96; refine HHO.out.mono ?_; rintro e w8 ⟨rfl, hb8⟩; rw [hwi]; have HB8 := Lib.hid hb8; clear hb8))
                            go_roundw
                            case rel => exact ⟨q + 1, nv, rfl, by go_num, by omega, HN, Lib.hid (C7.out.hb.trans (HB8.out.mono C7.out.hb.size))⟩
                            case measure => simp [intOf]; omega
                  · have hq0 : ¬ (0 : Int) < (q : Int) := by omega
                    have hfq : fr = fq := by rw [← HFQ.out]; exact (if_neg h0).symm
                    go_upto_region 18 with fail
                    refine wp_gen (fun W => CuS wo fq bl b17 W) (by rw [← hfq]; exact C.out) ?_
                    intro w5 hc5
                    have C1 := Lib.hid hc5
                    clear hc5 hfq k2 e0 f0 l0 C
                    have k2 := HC2.out _ C1.out.hb
                    have e1 := C1.out.b.cell 1
                    have f1 := C1.out.b.frozen 1
                    have l1 := C1.out.b.lt
                    by_cases h1 : q + 1 < p.keys.length
                    · have hq1 : (q : Int) + 1 < (p.keys.length : Int) := by omega
                      have hbq : p.keys.getD (q + 1) [] = bq := by rw [← HBQ.out]; exact (if_pos h1).symm
                      have hkq := (C1.out.hb.cell (p := ⟨yb, yo + (q + 1), none⟩) hyb).trans (HYC.out (q + 1) h1)
                      rw [hbq] at hkq
                      go_upto_region 20 with fail
                      refine wp_gen (fun W => CuS wo fq bq b17 W) (C1.out.set1 (z := bq)) ?_
                      intro w6 hc6
                      have C6 := Lib.hid hc6
                      clear hc6 hkq hbq k2 e1 f1 l1 C1
                      have S6 := Lib.hid (S.out.go C6.out.hb)
                      have HIK := Lib.hid (IH.out kid fq bq false (deep + 1) w6 S6.out.st (by omega) (by omega))
                      generalize Sp.checksI (s.read V) n kid fq bq false (deep + 1) = nv at *
                      go_upto_region 21 with (first
                        | (refine wpList_row BndT _ rfl b17 rfl rfl BndT _ (0, 0) _ C6.out.b Tryz.underlying109 rfl (by kernel_rfl) ?_)
                        | (go_at_call 50; refine HIK.out.mono ?_; rintro e w7 ⟨rfl, hb7⟩; have C7 := Lib.hid (C6.out.go hb7); clear hb7))
                      have S7 := Lib.hid (S.out.go C7.out.hb)
                      have g0 : w7.cell? ⟨b17, 0, none⟩ = some (.string ⟨fq.toArray⟩) := C7.out.b.cell 0
                      have hwb := S7.out.hb
                      by_cases n1 : nv < 0
                      · as_aux_lemma =>
                          go_wp2_with fail
                          try rw [Exit.noGoto_ret]
                          go_ret
                          exact ⟨by rw [HRES.out, HSTEP.out, if_pos (.inl n1)]; rfl, hwb⟩
                      have HHO := Lib.hid (holds_any fr bl fq w7)
                      by_cases n2 : 0 < lv
                      · by_cases n3 : nv = lv
                        · subst n3
                          rcases hwi : Sp.within fr bl fq with _ | _
                          · as_aux_lemma =>
                              go_wp2_with (first
                                  | (refine wpList_row BndT _ rfl b7 rfl rfl BndT _ (0, 0) _ S7.out.bb Tryz.underlying109 rfl (by kernel_rfl) ?_)
                                  | (go_at_call 96; refine HHO.out.mono ?_; rintro e w8 ⟨rfl, hb8⟩; rw [hwi]; have HB8 := Lib.hid hb8; clear hb8))
                              try rw [Exit.noGoto_ret]
                              go_ret
                              exact ⟨by rw [HRES.out, HSTEP.out, if_pos (.inr (.inr hwi))]; rfl, hwb.trans (HB8.out.mono hwb.size)⟩
                          · as_aux_lemma =>
                              have HN := Lib.hid (show Sp.chkKids (fun k fr bl => Sp.checksI (s.read V) n k fr bl false (deep + 1)) p.keys fr bl (p.kids.drop (q + 1)) (q + 1) nv = RES from by
                                rw [HSTEP.out, if_neg]
                                rintro (h | h | h)
                                · exact n1 h
                                · exact h.2 rfl
                                · rw [hwi] at h; cases h)
                              go_wp2_with (first
                                  | (refine wpList_row BndT _ rfl b7 rfl rfl BndT _ (0, 0) _ S7.out.bb Tryz.underlying109 rfl (by kernel_rfl) ?_)
                                  | (go_at_call 96; refine HHO.out.mono ?_; rintro e w8 ⟨rfl, hb8⟩; rw [hwi]; have HB8 := Lib.hid hb8; clear hb8))
                              go_roundw
                              case rel => exact ⟨q + 1, nv, rfl, by go_num, by omega, HN, Lib.hid (C7.out.hb.trans (HB8.out.mono C7.out.hb.size))⟩
                              case measure => simp [intOf]; omega
                        · have n4 : (nv != lv) = true := bne_iff_ne.2 n3
                          as_aux_lemma =>
                            go_wp2_with fail
                            try rw [Exit.noGoto_ret]
                            go_ret
                            exact ⟨by rw [HRES.out, HSTEP.out, if_pos (.inr (.inl ⟨n2, n3⟩))]; rfl, hwb⟩
                      · skip
                        rcases hwi : Sp.within fr bl fq with _ | _
                        · as_aux_lemma =>
                            go_wp2_with (first
                                | (refine wpList_row BndT _ rfl b7 rfl rfl BndT _ (0, 0) _ S7.out.bb Tryz.underlying109 rfl (by kernel_rfl) ?_)
                                | (go_at_call 96; refine HHO.out.mono ?_; rintro e w8 ⟨rfl, hb8⟩; rw [hwi]; have HB8 := Lib.hid hb8; clear hb8))
                            try rw [Exit.noGoto_ret]
                            go_ret
                            exact ⟨by rw [HRES.out, HSTEP.out, if_pos (.inr (.inr hwi))]; rfl, hwb.trans (HB8.out.mono hwb.size)⟩
                        · as_aux_lemma =>
                            have HN := Lib.hid (show Sp.chkKids (fun k fr bl => Sp.checksI (s.read V) n k fr bl false (deep + 1)) p.keys fr bl (p.kids.drop (q + 1)) (q + 1) nv = RES from by
                              rw [HSTEP.out, if_neg]
                              rintro (h | h | h)
                              · exact n1 h
                              · exact n2 h.1
                              · rw [hwi] at h; cases h)
                            go_wp2_with (first
                                | (refine wpList_row BndT _ rfl b7 rfl rfl BndT _ (0, 0) _ S7.out.bb Tryz.underlying109 rfl (by kernel_rfl) ?_)
                                | (go_at_call 96; refine HHO.out.mono ?_; rintro e w8 ⟨rfl, hb8⟩; rw [hwi]; have HB8 := Lib.hid hb8; clear hb8))
                            go_roundw
                            case rel => exact ⟨q + 1, nv, rfl, by go_num, by omega, HN, Lib.hid (C7.out.hb.trans (HB8.out.mono C7.out.hb.size))⟩
                            case measure => simp [intOf]; omega
                    · have hq1 : ¬ (q : Int) + 1 < (p.keys.length : Int) := by omega
                      have hbq : bl = bq := by rw [← HBQ.out]; exact (if_neg h1).symm
                      go_upto_region 20 with fail
                      refine wp_gen (fun W => CuS wo fq bq b17 W) (by rw [← hbq]; exact C1.out) ?_
                      intro w6 hc6
                      have C6 := Lib.hid hc6
                      clear hc6 hbq k2 e1 f1 l1 C1
                      have S6 := Lib.hid (S.out.go C6.out.hb)
                      have HIK := Lib.hid (IH.out kid fq bq false (deep + 1) w6 S6.out.st (by omega) (by omega))
                      generalize Sp.checksI (s.read V) n kid fq bq false (deep + 1) = nv at *
                      go_upto_region 21 with (first
                        | (refine wpList_row BndT _ rfl b17 rfl rfl BndT _ (0, 0) _ C6.out.b Tryz.underlying109 rfl (by kernel_rfl) ?_)
                        | (go_at_call 50; refine HIK.out.mono ?_; rintro e w7 ⟨rfl, hb7⟩; have C7 := Lib.hid (C6.out.go hb7); clear hb7))
                      have S7 := Lib.hid (S.out.go C7.out.hb)
                      have g0 : w7.cell? ⟨b17, 0, none⟩ = some (.string ⟨fq.toArray⟩) := C7.out.b.cell 0
                      have hwb := S7.out.hb
                      by_cases n1 : nv < 0
                      · as_aux_lemma =>
                          go_wp2_with fail
                          try rw [Exit.noGoto_ret]
                          go_ret
                          exact ⟨by rw [HRES.out, HSTEP.out, if_pos (.inl n1)]; rfl, hwb⟩
                      have HHO := Lib.hid (holds_any fr bl fq w7)
                      by_cases n2 : 0 < lv
                      · by_cases n3 : nv = lv
                        · subst n3
                          rcases hwi : Sp.within fr bl fq with _ | _
                          · as_aux_lemma =>
                              go_wp2_with (first
                                  | (refine wpList_row BndT _ rfl b7 rfl rfl BndT _ (0, 0) _ S7.out.bb Tryz.underlying109 rfl (by kernel_rfl) ?_)
                                  | (go_at_call 96; refine HHO.out.mono ?_; rintro e w8 ⟨rfl, hb8⟩; rw [hwi]; have HB8 := Lib.hid hb8; clear hb8))
                              try rw [Exit.noGoto_ret]
                              go_ret
                              exact ⟨by rw [HRES.out, HSTEP.out, if_pos (.inr (.inr hwi))]; rfl, hwb.trans (HB8.out.mono hwb.size)⟩
                          · as_aux_lemma =>
                              have HN := Lib.hid (show Sp.chkKids (fun k fr bl => Sp.checksI (s.read V) n k fr bl false (deep + 1)) p.keys fr bl (p.kids.drop (q + 1)) (q + 1) nv = RES from by
                                rw [HSTEP.out, if_neg]
                                rintro (h | h | h)
                                · exact n1 h
                                · exact h.2 rfl
                                · rw [hwi] at h; cases h)
                              go_wp2_with (first
                                  | (refine wpList_row BndT _ rfl b7 rfl rfl BndT _ (0, 0) _ S7.out.bb Tryz.underlying109 rfl (by kernel_rfl) ?_)
                                  | (go_at_call 96; refine HHO.out.mono ?_; rintro e w8 ⟨rfl, hb8⟩; rw [hwi]; have HB8 := Lib.hid hb8; clear hb8))
                              go_roundw
                              case rel => exact ⟨q + 1, nv, rfl, by go_num, by omega, HN, Lib.hid (C7.out.hb.trans (HB8.out.mono C7.out.hb.size))⟩
                              case measure => simp [intOf]; omega
                        · have n4 : (nv != lv) = true := bne_iff_ne.2 n3
                          as_aux_lemma =>
                            go_wp2_with fail
                            try rw [Exit.noGoto_ret]
                            go_ret
                            exact ⟨by rw [HRES.out, HSTEP.out, if_pos (.inr (.inl ⟨n2, n3⟩))]; rfl, hwb⟩
                      · skip
                        rcases hwi : Sp.within fr bl fq with _ | _
                        · as_aux_lemma =>
                            go_wp2_with (first
                                | (refine wpList_row BndT _ rfl b7 rfl rfl BndT _ (0, 0) _ S7.out.bb Tryz.underlying109 rfl (by kernel_rfl) ?_)
                                | (go_at_call 96; refine HHO.out.mono ?_; rintro e w8 ⟨rfl, hb8⟩; rw [hwi]; have HB8 := Lib.hid hb8; clear hb8))
                            try rw [Exit.noGoto_ret]
                            go_ret
                            exact ⟨by rw [HRES.out, HSTEP.out, if_pos (.inr (.inr hwi))]; rfl, hwb.trans (HB8.out.mono hwb.size)⟩
                        · as_aux_lemma =>
                            have HN := Lib.hid (show Sp.chkKids (fun k fr bl => Sp.checksI (s.read V) n k fr bl false (deep + 1)) p.keys fr bl (p.kids.drop (q + 1)) (q + 1) nv = RES from by
                              rw [HSTEP.out, if_neg]
                              rintro (h | h | h)
                              · exact n1 h
                              · exact n2 h.1
                              · rw [hwi] at h; cases h)
                            go_wp2_with (first
                                | (refine wpList_row BndT _ rfl b7 rfl rfl BndT _ (0, 0) _ S7.out.bb Tryz.underlying109 rfl (by kernel_rfl) ?_)
                                | (go_at_call 96; refine HHO.out.mono ?_; rintro e w8 ⟨rfl, hb8⟩; rw [hwi]; have HB8 := Lib.hid hb8; clear hb8))
                            go_roundw
                            case rel => exact ⟨q + 1, nv, rfl, by go_num, by omega, HN, Lib.hid (C7.out.hb.trans (HB8.out.mono C7.out.hb.size))⟩
                            case measure => simp [intOf]; omega
              · obtain rfl : q = p.kids.length := by omega
                have hend := HR.out
                rw [List.drop_length] at hend
                have HE := Lib.hid (show lv = RES from hend)
                have hwb := S.out.hb.trans (HBW.out.mono S.out.hb.size)
                go_wp2_with fail
                try rw [Exit.noGoto_ret]
                go_ret
                exact ⟨by rw [HRES.out, HE.out]; rfl, hwb⟩
        · have HRES := Lib.hid (Sp.checks_no (n := n) (fr := fr) (bl := bl) (top := top) (deep := deep) hrd hk1 hk2)
          have e1 : (p.kind == 1) = false := beq_eq_false_iff_ne.2 hk1
          have e2 : (p.kind != 2) = true := bne_iff_ne.2 hk2
          go_wp2_with fail
          try rw [Exit.noGoto_ret]
          go_ret
          exact ⟨by rw [HRES.out]; rfl, S.out.hb⟩
    · have HRES := Lib.hid (Sp.checks_err (n := n + 1) (fr := fr) (bl := bl) (top := top) (deep := deep) hrd)
      go_enter Tryz.func50, Tryz.ntmps50
      go_wp2_with fail
      go_step3
      go_upto_region 2 with (first
        | (go_at_call 28; refine HRD.out.mono ?_; rintro e w2 ⟨r, rfl, hr, hb2⟩; have HB2 := Lib.hid (HAL.out.trans (hb2.mono HAL.out.size)); clear hr hb2; rw [pv14 p r]; simp only [erO])
        | (refine wpList_new PageT _ _ rfl rfl rfl rfl rfl rfl _ rfl (of_decide_eq_true (by kernel_rfl)) (by kernel_rfl) (by kernel_rfl) (by kernel_rfl) ?_))
      go_wp2_with fail
      try rw [Exit.noGoto_ret]
      go_ret
      exact ⟨by rw [HRES.out]; rfl, HB2.out.alloc HB2.out.size _⟩
end
end Go.Proofs.YtlpmjeiogdlifaaGreat
