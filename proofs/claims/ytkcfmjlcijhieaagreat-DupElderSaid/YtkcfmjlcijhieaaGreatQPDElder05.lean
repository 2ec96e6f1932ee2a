/- Many values of a key: one more. Reading values: the whole; they lie in a row of their own. Turned from the text Rw. Reading a page of values: they lie in a row of their own; a page of an elder version is read through a store. Turned from the texts Rs3 and SH. -/
import Derived.Test.YtkcfmjlcijhieaaGreatQB01
import Derived.Test.YtkcfmjlcijhieaaGreatQB04
import Derived.Test.YtkcfmjlcijhieaaGreatQB17
import Derived.Test.YtkcfmjlcijhieaaGreatQB21
import Derived.Test.YtkcfmjlcijhieaaGreatQB22
import Derived.Test.YtkcfmjlcijhieaaGreatQPDElder04
import Derived.Deep.RegionHeld3
set_option linter.unusedSimpArgs false
set_option linter.unusedVariables false
namespace Go.Proofs.YtkcfmjlcijhieaaGreat
open Go.RowKit
attribute [local go_sem low] mk_extract
attribute [local go_sem] After.cell After.frozen mk_extract_end ByteArray.mk_append_mk
theorem own_rowT {w : World} {base : Nat} {N : Nat → Prop} {A : Option Addr} {n c : Nat} {xs : List Value} (h : w.ownsRow base StrT 1 (.slice A n c) n xs) (hn : n ≤ 1000) (hN : ∀ k cs, Blk w k StrT cs → ¬ N k) : Row w N A xs := by
  have hl := h.1
  rw [Nat.mul_one] at hl
  rcases h.2 with ⟨e, h0⟩ | ⟨g, cap, cur, e, _, hh, hnc, _, hcs, ht⟩
  · rw [List.eq_nil_of_length_eq_zero (by omega : xs.length = 0)]
    exact Row.nil_
  · simp only [Value.slice.injEq] at e
    obtain ⟨rfl, _, _⟩ := e
    have hb : Blk w g _ cur := hh
    refine ⟨by omega, .inr ⟨g, 0, rfl, hb.lt, hN g cur hb, fun j v hv => ?_⟩⟩
    rw [Nat.zero_add]
    refine (hb.cell j).trans ?_
    have hj : j < xs.length := (List.getElem?_eq_some_iff.1 hv).1
    have : (cur.toList.take (n * 1))[j]? = xs[j]? := by rw [ht]
    rw [List.getElem?_take, if_pos (by omega), hv] at this
    rw [← Array.getElem?_toList, this]
/-- In Add and Take: the item, the result that is told, beside the store. -/
structure AdS (w : World) (M : Nat → Prop) (t f m d : Nat) (fv : Value) (V : List Txt) (s : Sp.Sto) (b0 b1 : Nat) (X : Array Value) (W : World) : Prop where
  st : StAt W (fun k => M k ∨ k = b1) t f m d fv V s
  ck : Chg (TwoM t d) w W
  bx : Blk W b0 ItemT X
  bz : Blk W b1 ItemT itZ0
  ge : w.heap.size ≤ b0 ∧ w.heap.size ≤ b1
section
variable {w W W' : World} {M : Nat → Prop} {t f m d : Nat} {fv : Value} {V : List Txt} {s s' : Sp.Sto} {b0 b1 : Nat} {X : Array Value}
theorem AdS.turn (h : AdS w M t f m d fv V s b0 b1 X W) (hs : StAt W' (fun k => M k ∨ k = b1) t f m d fv V s') (hk : Chg (TwoM t d) W W') : AdS w M t f m d fv V s' b0 b1 X W' :=
  have hn := h.st.not_kind (ty := ItemT) (by decide)
  ⟨hs, h.ck.trans hk, h.bx.chg hk (hn _ _ h.bx), h.bz.chg hk (hn _ _ h.bz), h.ge⟩
theorem AdS.go (h : AdS w M t f m d fv V s b0 b1 X W) (hb : Below W.heap.size W W') : AdS w M t f m d fv V s b0 b1 X W' :=
  h.turn (h.st.go hb) (Chg.of_below hb)
theorem AdS.new_ (h : StAt w M t f m d fv V s) (X : Array Value) : AdS w M t f m d fv V s w.heap.size (w.heap.size + 1) X ((w.alloc (.cells X ItemT)).alloc (.cells itZ0 ItemT)) := by
  have e1 : (w.alloc (.cells X ItemT)).heap.size = w.heap.size + 1 := by simp
  have hb : Below w.heap.size w ((w.alloc (.cells X ItemT)).alloc (.cells itZ0 ItemT)) := ((Below.refl _ _).alloc (Nat.le_refl _) _).alloc (by rw [e1]; omega) _
  have h2 := Blk.new (w.alloc (.cells X ItemT)) ItemT itZ0
  rw [e1] at h2
  exact ⟨h.newMs hb fun k e => by rw [World.size_alloc, e1]; subst e; omega, Chg.of_below hb, (Blk.new w ItemT X).alloc _, h2, ⟨by omega, by omega⟩⟩
theorem AdS.done (h : AdS w M t f m d fv V s b0 b1 X W) (cs : Array Value) (hM : M t ∧ M d) : StAt (W.setRow b1 cs) M t f m d fv V s ∧ Chg (TwoM t d) w (W.setRow b1 cs) :=
  ⟨(h.st.one h.bz (.inr rfl) (chg_setRowN (Chg.refl (OneM _) _) (.inl rfl) _)).oldMs hM, chg_setRowN h.ck (.inr h.ge.2) _⟩
theorem own_tk {w : World} {base : Nat} {A : Option Addr} {n c : Nat} {l : List Txt} (h : w.ownsRow base StrT 1 (.slice A n c) n (l.map tv)) (hn : n ≤ 1000) : TxK w A l := by
  refine ⟨own_rowT h hn (fun _ _ _ h => h), fun b off e hl => ?_⟩
  rcases h.2 with ⟨e2, _⟩ | ⟨g, cap, cur, e2, _, hh, _⟩
  · simp only [Value.slice.injEq] at e2
    rw [e] at e2
    cases e2.1
  · simp only [Value.slice.injEq] at e2
    rw [e] at e2
    have e3 := e2.1
    simp only [Option.some.injEq, Addr.mk.injEq] at e3
    exact ⟨cur, by rw [e3.1]; exact hh⟩
theorem DuI.row {l : List Txt} {kind dup : Int} {A : Option Addr} {n : Nat} {g : Nat} {cs ds : Array Value} (h : DuI l kind A n dup W) (hg : Blk W g ItemT ds) : DuI l kind A n dup (W.setRow g cs) :=
  h.chg (chg_setRowN (Chg.refl (OneM g) W) (.inl rfl) cs) fun k cs' hb e => by
    have e : k = g := e
    subst e
    exact hb.not_ (by decide) _ hg
end
set_option maxRecDepth 100000 in
set_option maxHeartbeats 1600000 in
theorem add_new (M : Nat → Prop) (t f m d : Nat) (fv : Value) (V : List Txt) (s : Sp.Sto) (k : Txt) (l : List Txt) (kind : Int) (A : Option Addr) (n c : Nat) (dup : Int) (v : Txt) (w : World) (h : StAt w M t f m d fv V s) (hV : V.length ≤ 400) (hd : Sp.DuSt l s) (hi : DuI l kind A n dup w) (hs : Sp.SrtV l) (hne : l ≠ []) (h12 : l.length < 12) (hv : 1 ≤ v.length ∧ v.length ≤ 12) (hno : Sp.hasV l v = false) :
    Calls Tryz.prog 50 #[.pointer (some ⟨t, 0, none⟩), .agg (itA k kind A n c dup), .string ⟨v.toArray⟩] w fun e w' => ∃ x, e = .returned (.tuple #[x, .nilIface]) ∧ DuR M t f m d fv V k (Sp.insT v l) w' x ∧ Chg (TwoM t d) w w' := by
  obtain rfl := hi.nz hne
  obtain rfl := hi.dp
  have HN := Lib.hid (AdS.new_ h (itA k 3 A n c (Sp.duP l)))
  have HMM := Lib.hid h.hM
  have HI0 := Lib.hid (fun W (hk : Chg (TwoM t d) w W) => hi.chg hk (h.not_kind (by decide)))
  have hve : v.isEmpty = false := by
    rcases v with _ | _
    · simp at hv
    · rfl
  clear h hi
  go_enter Tryz.func50, Tryz.ntmps50
  go_upto_region 1 with fail
  refine wp_gen _ HN.out ?_
  intro w2 hw2
  have S2 := Lib.hid hw2
  clear hw2 HN
  have hkd : w2.cell? ⟨w.heap.size, 1, none⟩ = some (.int .i64 3) := S2.out.bx.cell 1
  have HVC := Lib.hid (duVals_any _ t f m d fv V s k l 3 A n c (Sp.duP l) w2 S2.out.st hd (HI0.out _ S2.out.ck) hne (by omega))
  go_upto_region 8 with (first
    | (refine wpList_row ItemT _ rfl w.heap.size rfl rfl ItemT _ (0, 0) _ S2.out.bx Tryz.underlying90 rfl rfl ?_)
    | (go_at_call 51; refine HVC.out.mono ?_; rintro e w3 ⟨A1, cA1, rfl, ho3, hb3⟩; have HO := Lib.hid ho3; have HB3 := Lib.hid hb3; clear ho3 hb3))
  have hpl := Sp.plc_le l v
  have S3 := Lib.hid (S2.out.go HB3.out)
  have HT3 := Lib.hid (own_rowT (N := NoM) HO.out (by omega) (fun _ _ _ h => h))
  have HPC := Lib.hid (place_any l v A1 cA1 w3 HT3.out)
  rw [hno] at HPC
  go_upto_region 13 with (go_at_call 81; refine HPC.out.mono ?_; rintro e w4 ⟨rfl, hb4⟩; have HB4 := Lib.hid hb4; clear hb4)
  have hB24 := HB3.out.trans (HB4.out.mono HB3.out.size)
  have HO4 := Lib.hid (own_chg2 (S := NoM) HO.out (Chg.of_below HB4.out) (fun _ _ h => h))
  have S4 := Lib.hid (S3.out.go HB4.out)
  clear HO S3 HT3 HPC HB3 HB4 HVC hkd
  obtain ⟨w3', rfl⟩ : ∃ W, W = w4 := ⟨_, rfl⟩
  have hz23 : w2.heap.size ≤ w3'.heap.size := hB24.size
  have hx2 : w.heap.size < w2.heap.size := S2.out.bx.lt
  refine wp_region_in 12 7 (fun W => Below w2.heap.size w3' W) (by kernel_rfl) rfl ?_
  refine wpIn_takeV 0 [7] (.pointer (some ⟨t, 0, none⟩)) rfl (by kernel_rfl) (by kernel_rfl) (by kernel_rfl) (by kernel_rfl) (by kernel_rfl) (by kernel_rfl) (by kernel_rfl) (by rfl) (fun _ _ _ h => h) (Below.refl w2.heap.size w3').drew (fun W hW => by go_simp; all_goals first | with_reducible rfl | rfl | omega) ?_
  try simp only [List.getElem_toArray, List.getElem_cons_zero, List.getElem_cons_succ, Act.put, List.setIfInBounds_toArray, List.set_cons_succ, List.set_cons_zero]
  refine wpIn_takeV 1 [7] (.agg (itA k 3 A n c (Sp.duP l))) rfl (by kernel_rfl) (by kernel_rfl) (by kernel_rfl) (by kernel_rfl) (by kernel_rfl) (by kernel_rfl) (by kernel_rfl) (by rfl) (fun _ _ _ h => h) (Below.refl w2.heap.size w3').drew (fun W hW => exec_item _ rfl w.heap.size rfl _ (S4.out.bx.below hW hx2) rfl) ?_
  try simp only [List.getElem_toArray, List.getElem_cons_zero, List.getElem_cons_succ, Act.put, List.setIfInBounds_toArray, List.set_cons_succ, List.set_cons_zero]
  refine wpIn_takeV 2 [6, 7] (.slice A1 l.length cA1) rfl (by kernel_rfl) (by kernel_rfl) (by kernel_rfl) (by kernel_rfl) (by kernel_rfl) (by kernel_rfl) (by kernel_rfl) (by rfl) (fun _ _ _ h => h) (Below.refl w2.heap.size w3').drew (fun W hW => by go_simp; all_goals first | with_reducible rfl | rfl | omega) ?_
  try simp only [List.getElem_toArray, List.getElem_cons_zero, List.getElem_cons_succ, Act.put, List.setIfInBounds_toArray, List.set_cons_succ, List.set_cons_zero]
  refine wpIn_takeV 3 [6, 7] (.int .i64 (Sp.plc l v : Int)) rfl (by kernel_rfl) (by kernel_rfl) (by kernel_rfl) (by kernel_rfl) (by kernel_rfl) (by kernel_rfl) (by kernel_rfl) (by rfl) (fun _ _ _ h => h) (Below.refl w2.heap.size w3').drew (fun W hW => by go_simp; all_goals first | with_reducible rfl | rfl | omega) ?_
  try simp only [List.getElem_toArray, List.getElem_cons_zero, List.getElem_cons_succ, Act.put, List.setIfInBounds_toArray, List.set_cons_succ, List.set_cons_zero]
  refine wpIn_takeV 4 [5, 6, 7] (.string ⟨v.toArray⟩) rfl (by kernel_rfl) (by kernel_rfl) (by kernel_rfl) (by kernel_rfl) (by kernel_rfl) (by kernel_rfl) (by kernel_rfl) (by rfl) (fun _ _ _ h => h) (Below.refl w2.heap.size w3').drew (fun W hW => by go_simp; all_goals first | with_reducible rfl | rfl | omega) ?_
  try simp only [List.getElem_toArray, List.getElem_cons_zero, List.getElem_cons_succ, Act.put, List.setIfInBounds_toArray, List.set_cons_succ, List.set_cons_zero]
  refine wpIn_one 5 rfl (by kernel_rfl) (fun _ => (Below.refl w2.heap.size w3').drew) (by rfl) ?_
  go_simp
  have hB5 : Below w2.heap.size w3' (w3'.drew.alloc (.cells #[.string ⟨v.toArray⟩] StrT)) := (Below.refl w2.heap.size w3').drew.alloc (by show w2.heap.size ≤ w3'.heap.size; exact hz23) _
  try simp only [List.getElem_toArray, List.getElem_cons_zero, List.getElem_cons_succ, Act.put, List.setIfInBounds_toArray, List.set_cons_succ, List.set_cons_zero]
  refine wpIn_one 6 rfl (by kernel_rfl) (fun _ => hB5) (by rfl) ?_
  go_simp
  refine (insS_any (B := w2.heap.size) v (Sp.plc l v) (Sp.plc_le l v) (own_chg2 (S := NoM) HO4.out (Chg.of_below ((Below.refl w3'.heap.size w3').drew.alloc (Nat.le_refl _) (.cells #[.string ⟨v.toArray⟩] StrT))) (fun _ _ h => h)) (by rw [World.size_alloc]; show w2.heap.size ≤ w3'.heap.size + 1; omega) w3'.heap.size (Blk.new w3'.drew StrT #[.string ⟨v.toArray⟩]) (fun j hj e => by have := own_lt HO4.out j hj; omega) (by omega)).mono ?_
  rintro e w6 ⟨vr, rfl, ho6, hb6⟩
  obtain ⟨A6, c6, rfl⟩ := own_slice ho6
  have hB6 : Below w2.heap.size w3' w6 := hB5.trans hb6
  have hlen6 : (Sp.insT v l).length = l.length + 1 := Sp.insT_len v l
  have S6 := Lib.hid (S2.out.go (hB24.trans hB6))
  have HT6 := Lib.hid (own_tk ho6 (by omega))
  clear ho6 hb6
  try simp only [List.getElem_toArray, List.getElem_cons_zero, List.getElem_cons_succ, Act.put, List.setIfInBounds_toArray, List.set_cons_succ, List.set_cons_zero]
  refine wpIn_one 7 rfl (by kernel_rfl) (fun _ => hB6) (by rfl) ?_
  go_simp
  rw [← hlen6]
  refine (with_any _ t f m d fv V s k l 3 A n c (Sp.insT v l) A6 c6 w6 S6.out.st hV hd (by intro e; have := congrArg List.length e; rw [hlen6] at this; simp at this) (Sp.insT_srt hs hv hno) (by rw [hlen6]; omega) HT6.out).mono ?_
  rintro e w7 ⟨vv, rfl, ⟨kind', A', n', c', dup', s', rfl, hI', hD', hst'⟩, hk7⟩
  have S7 := Lib.hid (S6.out.turn hst' hk7)
  have HI := Lib.hid hI'
  have HD := Lib.hid hD'
  clear hst' hk7 hI' hD' S6
  try simp only [List.getElem_toArray, List.getElem_cons_zero, List.getElem_cons_succ, Act.put, List.setIfInBounds_toArray, List.set_cons_succ, List.set_cons_zero]
  refine wpIn_two 8 9 rfl rfl (by kernel_rfl) (fun h => Bool.noConfusion (show true = false from h)) (by rfl) (by rfl) ?_ ?_
  · go_simp
    try simp only [List.getElem_toArray, List.getElem_cons_zero, List.getElem_cons_succ, Act.put, List.setIfInBounds_toArray, List.set_cons_succ, List.set_cons_zero]
    refine wpIn_one 9 rfl (by kernel_rfl) (fun h => Bool.noConfusion (show true = false from h)) (by rfl) ?_
    go_simp
    try simp only [List.getElem_toArray, List.getElem_cons_zero, List.getElem_cons_succ, Act.put, List.setIfInBounds_toArray, List.set_cons_succ, List.set_cons_zero]
    refine wpIn_one 10 rfl (by kernel_rfl) (fun h => Bool.noConfusion (show true = false from h)) (by rfl) ?_
    refine wp_store_row ItemT _ _ rfl (w.heap.size + 1) (itA k kind' A' n' c' dup') rfl rfl ItemT _ S7.out.bz (by kernel_rfl) rfl (itA_all _ _ _ _ _ _) ?_
    try simp only [List.getElem_toArray, List.getElem_cons_zero, List.getElem_cons_succ, Act.put, List.setIfInBounds_toArray, List.set_cons_succ, List.set_cons_zero]
    refine wpIn_one 11 rfl (by kernel_rfl) (fun h => Bool.noConfusion (show true = false from h)) (by rfl) ?_
    go_simp
    refine wpIn_done (by kernel_rfl) (by kernel_rfl) ?_ _
    simp only [Exit.then]
    go_wp2_with fail
    obtain ⟨z0, z1, z2, z3, z4, z5, z6, z7, z8, z9⟩ := (S7.out.bz.row (ds := itA k kind' A' n' c' dup')).at10.1
    obtain ⟨hfs, hfk⟩ := S7.out.done (itA k kind' A' n' c' dup') HMM.out
    refine bodyPost_ret (v := .tuple #[.agg (itA k kind' A' n' c' dup'), .nilIface]) (by simp [results, Tryz.results50, go_sem, z0, z1, z2, z3, z4, z5, z6, z7, z8, z9]) rfl ⟨_, rfl, ⟨kind', A', n', c', dup', s', rfl, HI.out.row S7.out.bz, HD.out, hfs⟩, hfk⟩
  · go_simp
    try simp only [List.getElem_toArray, List.getElem_cons_zero, List.getElem_cons_succ, Act.put, List.setIfInBounds_toArray, List.set_cons_succ, List.set_cons_zero]
    refine wpIn_one 8 rfl (by kernel_rfl) (fun h => Bool.noConfusion (show true = false from h)) (by rfl) ?_
    go_simp
    try simp only [List.getElem_toArray, List.getElem_cons_zero, List.getElem_cons_succ, Act.put, List.setIfInBounds_toArray, List.set_cons_succ, List.set_cons_zero]
    refine wpIn_one 10 rfl (by kernel_rfl) (fun h => Bool.noConfusion (show true = false from h)) (by rfl) ?_
    refine wp_store_row ItemT _ _ rfl (w.heap.size + 1) (itA k kind' A' n' c' dup') rfl rfl ItemT _ S7.out.bz (by kernel_rfl) rfl (itA_all _ _ _ _ _ _) ?_
    try simp only [List.getElem_toArray, List.getElem_cons_zero, List.getElem_cons_succ, Act.put, List.setIfInBounds_toArray, List.set_cons_succ, List.set_cons_zero]
    refine wpIn_one 11 rfl (by kernel_rfl) (fun h => Bool.noConfusion (show true = false from h)) (by rfl) ?_
    go_simp
    refine wpIn_done (by kernel_rfl) (by kernel_rfl) ?_ _
    simp only [Exit.then]
    go_wp2_with fail
    obtain ⟨z0, z1, z2, z3, z4, z5, z6, z7, z8, z9⟩ := (S7.out.bz.row (ds := itA k kind' A' n' c' dup')).at10.1
    obtain ⟨hfs, hfk⟩ := S7.out.done (itA k kind' A' n' c' dup') HMM.out
    refine bodyPost_ret (v := .tuple #[.agg (itA k kind' A' n' c' dup'), .nilIface]) (by simp [results, Tryz.results50, go_sem, z0, z1, z2, z3, z4, z5, z6, z7, z8, z9]) rfl ⟨_, rfl, ⟨kind', A', n', c', dup', s', rfl, HI.out.row S7.out.bz, HD.out, hfs⟩, hfk⟩
end Go.Proofs.YtkcfmjlcijhieaaGreat
namespace Go.Proofs.YtkcfmjlcijhieaaGreat
open Go.RowKit
attribute [local go_sem low] mk_extract
attribute [local go_sem] After.cell After.frozen mk_extract_end ByteArray.mk_append_mk
set_option maxRecDepth 100000 in
set_option maxHeartbeats 1600000 in
theorem rdValsO_any (g : Nat) (s : Txt) (bad : Bool) (w : World) (hs : s.length ≤ 4611686018427387904) (hc : CutAt w g s bad) :
    Calls Tryz.prog 123 #[.agg #[.pointer (some ⟨g, 0, none⟩)]] w fun e w' => ∃ A c, e = .returned (.slice A (Sp.Cut.vals ⟨s, bad⟩).1.length c) ∧
      w'.ownsRow w.heap.size StrT 1 (.slice A (Sp.Cut.vals ⟨s, bad⟩).1.length c) (Sp.Cut.vals ⟨s, bad⟩).1.length ((Sp.Cut.vals ⟨s, bad⟩).1.map tv) ∧ (Sp.Cut.vals ⟨s, bad⟩).1.length ≤ 1073741824 ∧ CutAt w' g (Sp.Cut.vals ⟨s, bad⟩).2.s (Sp.Cut.vals ⟨s, bad⟩).2.bad ∧ Chg (OneM g) w w' := by
  have Hc := Lib.hid hc
  have hg := hc.lt
  clear hc
  have hmf : ∀ (fn : Fn) (first cap : Array Value) (w : World), (Instr.makeFunc fn first cap).run Tryz.prog w = .ok (.func fn first cap) w := fun _ _ _ _ => rfl
  obtain ⟨hr0, hr1⟩ := Sp.Cut.num_rng ⟨s, bad⟩
  go_enter Tryz.func123, Tryz.ntmps123
  go_wp2
  have hcl := Lib.hid (Sp.Cut.rest_len ⟨s, bad⟩ 8)
  go_region_held3 (fun w' => w'.cell? ⟨w.heap.size, 0, none⟩ = some (.pointer (some ⟨g, 0, none⟩))) (first | exact hbox2 | exact hbox1 | (simp [go_sem]; done)) (first
    | (go_at_call 117; refine (rdNum_any g s bad _ hs ?_).mono ?_; exact (Hc.out.alloc _).alloc _; rintro e w1 ⟨rfl, hc1, hk1⟩; have hI0 := Lib.hid (ValsI.start (c1 := (Sp.Cut.num ⟨s, bad⟩).2) hg (Chg.of_drew hk1) hc1 (Nat.le_trans hcl.out hs)); have hbox1 : w1.cell? ⟨w.heap.size, 0, none⟩ = some (.pointer (some ⟨g, 0, none⟩)) := by have := hI0.out.box.cell 0; simpa using this)
    | (go_at_call 118; refine (each_any _ hr0 hr1 g 146 _ (callFunc_vals _) (ValsI g (w.heap.size + 1) w.heap.size (w.heap.size + 2) w (Sp.Cut.num ⟨s, bad⟩).2) (fun k c w h => h.cut) (fun k c w w' h hb => h.below hb) (fun k c w2 hk hb h => h.next (by omega) (by omega) (by omega) (by omega) (by omega) hb) (Sp.Cut.num ⟨s, bad⟩).2 _ hI0.out).mono ?_; rintro e w2 ⟨rfl, k, c, hI, hkn, hend⟩; have hbox2 : w2.cell? ⟨w.heap.size, 0, none⟩ = some (.pointer (some ⟨g, 0, none⟩)) := by have := hI.box.cell 0; simpa using this))
  all_goals
    obtain ⟨l, v, he, hl, hL, ho⟩ := hI.ex
    obtain ⟨A, cp, rfl⟩ := own_form ho
    have HE := Lib.hid (show Sp.Cut.vals ⟨s, bad⟩ = (l, c) by
      unfold Sp.Cut.vals
      rw [Sp.eachN_end (k := k) (by omega) (by
        rcases hend with h | h
        · exact .inl (by omega)
        · exact .inr (by rw [he]; exact h)), he])
    have HT := Lib.hid ho
    have HLn := Lib.hid (show l.length ≤ 1073741824 by omega)
    have HC := Lib.hid hI.cut
    have HK := Lib.hid hI.chg
    have hL2 := hL.cell 0
    simp at hL2
    clear hI he hend ho hL
    go_wp2
    go_ret
    rw [HE.out]
    refine ⟨A, cp, rfl, own_base HT.out (by omega), HLn.out, HC.out, HK.out.mono (fun i hi h => ?_)⟩
    rcases h with h | h
    · exact h
    · omega
theorem own_set1 {w : World} {base g o n : Nat} {e : TypeId} {size : Nat} {v u : Value} {xs : List Value} (h : w.ownsRow base e size v n xs) (hg : g < base) : (w.setCell ⟨g, o, none⟩ u).ownsRow base e size v n xs :=
  own_chg2 h (Chg.set1 w g o u) fun k hk e => by
    have := (h.lt k hk).1
    have e : k = g := e
    omega
set_option maxRecDepth 100000 in
set_option maxHeartbeats 1600000 in
theorem rdPage4O (g : Nat) (c : Sp.Cut) (w : World) (hs : c.s.length ≤ 4611686018427387904) (hc : CutAt w g c.s c.bad) (hkd : c.num.1 = 4) :
    Calls Tryz.prog 93 #[.agg #[.pointer (some ⟨g, 0, none⟩)]] w fun e w' => ∃ r, e = .returned (.agg (pageV c.page.1 r).toArray) ∧ w'.ownsRow w.heap.size StrT 1 (.slice r.V c.page.1.vals.length r.v) c.page.1.vals.length (c.page.1.vals.map tv) ∧ (∀ M : Nat → Prop, (∀ k, w.heap.size ≤ k → ¬ M k) → PageRd w' M c.page.1 r) ∧ CutAt w' g c.page.2.s c.page.2.bad ∧ Chg (OneM g) w w' := by
  have Hc := Lib.hid hc
  have hg := hc.lt
  have hn0 : ¬ w.heap.size = g := by omega
  have hn1 : ¬ w.heap.size + 1 = g := by omega
  have l1 := Nat.le_trans c.num_len hs
  have HI := Lib.hid (show c.page = (⟨c.num.1, [], [], [], [], c.num.2.vals.1, [], 0, Sp.mt0⟩, c.num.2.vals.2) by unfold Sp.Cut.page; rw [if_neg (by omega), if_neg (by omega), if_neg (by omega), if_pos hkd])
  have hmf : ∀ (fn : Fn) (first cap : Array Value) (w : World), (Instr.makeFunc fn first cap).run Tryz.prog w = .ok (.func fn first cap) w := fun _ _ _ _ => rfl
  clear hc
  have B0 := Lib.hid ((Blk.new w 152 #[.pointer (some ⟨g, 0, none⟩)]).alloc (.cells #[.int .i64 0, .slice none 0 0, .slice none 0 0, .slice none 0 0, .string ⟨#[]⟩, .slice none 0 0, .slice none 0 0, .int .i64 0, .int .u64 0, .int .i64 0, .int .i64 0, .int .i64 0, .int .i64 0, .int .i64 0] PageT))
  have L0 := Lib.hid (blk_second w (.cells #[.pointer (some ⟨g, 0, none⟩)] 152) PageT #[.int .i64 0, .slice none 0 0, .slice none 0 0, .slice none 0 0, .string ⟨#[]⟩, .slice none 0 0, .slice none 0 0, .int .i64 0, .int .u64 0, .int .i64 0, .int .i64 0, .int .i64 0, .int .i64 0, .int .i64 0])
  have b0 := B0.out.at1
  have e1 : (c.num.1 == 1) = false := by rw [beq_eq_false_iff_ne]; omega
  have e2 : (c.num.1 == 2) = false := by rw [beq_eq_false_iff_ne]; omega
  have e3 : (c.num.1 == 3) = false := by rw [beq_eq_false_iff_ne]; omega
  have e4 : (c.num.1 == 4) = true := by rw [beq_iff_eq]; omega
  have HKD := Lib.hid hkd
  clear hkd
  go_enter Tryz.func93, Tryz.ntmps93
  go_wp2_with fail
  refine (rdNum_any g c.s c.bad _ hs ((Hc.out.alloc _).alloc _)).mono ?_
  rintro e w1 ⟨rfl, hc1, hk1⟩
  have B1 := Lib.hid ((B0.out.chg hk1 hn0).alloc (.cells #[.int .i64 c.num.1, .slice none 0 0, .slice none 0 0, .slice none 0 0, .string ⟨#[]⟩, .slice none 0 0, .slice none 0 0, .int .i64 0, .int .u64 0, .int .i64 0, .int .i64 0, .int .i64 0, .int .i64 0, .int .i64 0] PageT))
  have L1 := Lib.hid ((L0.out.chg hk1 hn1).alloc (.cells #[.int .i64 c.num.1, .slice none 0 0, .slice none 0 0, .slice none 0 0, .string ⟨#[]⟩, .slice none 0 0, .slice none 0 0, .int .i64 0, .int .u64 0, .int .i64 0, .int .i64 0, .int .i64 0, .int .i64 0, .int .i64 0] PageT))
  have b1 := (B0.out.chg hk1 hn0).at1
  have X1 := Lib.hid (Blk.new w1 PageT #[.int .i64 c.num.1, .slice none 0 0, .slice none 0 0, .slice none 0 0, .string ⟨#[]⟩, .slice none 0 0, .slice none 0 0, .int .i64 0, .int .u64 0, .int .i64 0, .int .i64 0, .int .i64 0, .int .i64 0, .int .i64 0])
  have Hc1 := Lib.hid (hc1.alloc (.cells #[.int .i64 c.num.1, .slice none 0 0, .slice none 0 0, .slice none 0 0, .string ⟨#[]⟩, .slice none 0 0, .slice none 0 0, .int .i64 0, .int .u64 0, .int .i64 0, .int .i64 0, .int .i64 0, .int .i64 0, .int .i64 0] PageT))
  have hz1 := hk1.size
  simp only [World.size_alloc] at hz1
  have hw1 : w.heap.size < w1.heap.size := by omega
  have hX : ¬ w1.heap.size = g := by omega
  have K1 := Lib.hid ((Chg.trans (((Chg.refl (OneM g) w).alloc _).alloc _) hk1).alloc (.cells #[.int .i64 c.num.1, .slice none 0 0, .slice none 0 0, .slice none 0 0, .string ⟨#[]⟩, .slice none 0 0, .slice none 0 0, .int .i64 0, .int .u64 0, .int .i64 0, .int .i64 0, .int .i64 0, .int .i64 0, .int .i64 0] PageT))
  clear hc1 hk1
  go_wp2_with fail
  refine (rdValsO_any g c.num.2.s c.num.2.bad _ l1 Hc1.out).mono ?_
  rintro e w2 ⟨A, cp, rfl, ht2, hln2, hc2, hk2⟩
  have HLN := Lib.hid hln2
  clear hln2
  obtain ⟨bs, hbs, HT2⟩ : ∃ bs, w1.heap.size < bs ∧ Hid (w2.ownsRow bs StrT 1 (.slice A c.num.2.vals.1.length cp) c.num.2.vals.1.length (c.num.2.vals.1.map tv)) := ⟨_, (by simp), Lib.hid ht2⟩
  clear ht2
  have B2 := Lib.hid (B1.out.chg hk2 hn0)
  have L2 := Lib.hid (L1.out.chg hk2 hn1)
  have X2 := Lib.hid (X1.out.chg hk2 hX)
  have b2 := B2.out.at1
  obtain ⟨⟨xa2, xb2, xc2, xd2, xe2, xf2, xg2, xh2, xi2, xj2, xk2, xl2, xm2, xn2⟩, ya2, yb2, yc2, yd2, ye2, yf2, yg2, yh2, yi2, yj2, yk2, yl2, ym2, yn2⟩ := X2.out.at14
  have Hc2 := Lib.hid hc2
  have K2 := Lib.hid (K1.out.trans hk2)
  have hxz2 : w1.heap.size < w2.heap.size := by have := hk2.size; simp only [World.size_alloc, World.size_setCell] at this; omega
  clear hc2 hk2
  have B2 := Lib.hid (B2.out.far (p := ⟨w1.heap.size, 5, none⟩) (by simp only; omega) (.slice A c.num.2.vals.1.length cp))
  have L2 := Lib.hid (L2.out.far (p := ⟨w1.heap.size, 5, none⟩) (by simp only; omega) (.slice A c.num.2.vals.1.length cp))
  have X2 := Lib.hid (X2.out.set_ 5 (.slice A c.num.2.vals.1.length cp))
  have Hc2 := Lib.hid (Hc2.out.far (p := ⟨w1.heap.size, 5, none⟩) (fun e => hX e.symm) (.slice A c.num.2.vals.1.length cp))
  have K2 := Lib.hid (K2.out.setCell (p := ⟨w1.heap.size, 5, none⟩) (.inr (by simp only; omega)) (.slice A c.num.2.vals.1.length cp))
  obtain ⟨⟨za, zb, zc, zd, ze, zf, zg, zh, zi, zj, zk, zl, zm, zn⟩, qa, qb, qc, qd, qe, qf, qg, qh, qi, qj, qk, ql, qm, qn⟩ := L2.out.at14
  go_wp2
  refine bodyPost_ret (v := .agg (pageV ⟨c.num.1, [], [], [], [], c.num.2.vals.1, [], 0, Sp.mt0⟩ ⟨none, none, none, A, none, 0, 0, 0, cp, 0⟩).toArray) (by simp [results, Tryz.results93, go_sem, za, zb, zc, zd, ze, zf, zg, zh, zi, zj, zk, zl, zm, zn, qa, qb, qc, qd, qe, qf, qg, qh, qi, qj, qk, ql, qm, qn, pageV, mtV, Sp.mt0, Sp.root0]) rfl ?_
  generalize hW : World.setCell _ _ _ = W
  have hown : W.ownsRow bs StrT 1 (.slice A c.num.2.vals.1.length cp) c.num.2.vals.1.length (c.num.2.vals.1.map tv) := by
    rw [← hW]
    iterate 15 (refine own_set1 ?_ (by omega))
    exact HT2.out
  refine ⟨⟨none, none, none, A, none, 0, 0, 0, cp, 0⟩, by rw [HI.out], ?_, ?_, ?_, ?_⟩
  · rw [HI.out]
    exact own_base (base := bs) hown (by omega)
  · intro M hM
    rw [HI.out]
    exact ⟨Items.nil_, Row.nil_, Row.nil_, (TRow.of_own hown (by rw [List.length_map]; exact Nat.le_trans (show c.num.2.vals.1.length ≤ 1073741824 from HLN.out) (by decide))).row (fun k hk => hM k (by omega)), Frees.nil_, by simp [Sp.mt0]⟩
  · rw [HI.out, ← hW]
    unfold CutAt; iterate 14 (refine Blk.far ?_ (fun e => hn1 e.symm) _)
    exact Hc2.out
  · rw [← hW]
    iterate 14 (refine Chg.setCell ?_ (.inr (by simp only; omega)) _)
    exact K2.out
end Go.Proofs.YtkcfmjlcijhieaaGreat
namespace Go.Proofs.YtkcfmjlcijhieaaGreat
open Go.RowKit
attribute [local go_sem low] mk_extract
attribute [local go_sem] After.cell After.frozen mk_extract_end ByteArray.mk_append_mk
theorem Sp.Cut.page_kind (c : Sp.Cut) : c.page.1.kind = c.num.1 := by
  unfold Sp.Cut.page
  repeat' split
  all_goals rfl
set_option maxRecDepth 100000 in
set_option maxHeartbeats 1600000 in
theorem read4O (b0 : UInt8) (s0 s : Txt) (w : World) (hs : s.length ≤ 4611686018427387904) (HS0 : Hid (s = b0 :: s0)) (HBB : Hid (Sp.bytes (Sp.parse s) = s)) (HK4 : Hid ((Sp.Cut.u64 ⟨s, false⟩).2.num.1 = 4)) :
    Calls Tryz.prog 63 #[.string ⟨s.toArray⟩] w fun e w' => ∃ r, e = .returned (.tuple #[.agg (pageV (Sp.parse s) r).toArray, .nilIface]) ∧ w'.ownsRow w.heap.size StrT 1 (.slice r.V (Sp.parse s).vals.length r.v) (Sp.parse s).vals.length ((Sp.parse s).vals.map tv) ∧ Below w.heap.size w w' := by
  have H0 := Lib.hid (Sp.Cut.u64_len ⟨s, false⟩)
  go_enter Tryz.func63, Tryz.ntmps63
  go_wp2_with (go_at_call 91; refine (cutNew_any s _).mono ?_; rintro e w1 ⟨rfl, hw1⟩)
  have B0 := Lib.hid (((Blk.new w PageT (zPage 0)).alloc (.cells #[.string ⟨s.toArray⟩, badV false] 182)).alloc (.cells #[.pointer (some ⟨w.heap.size + 1, 0, none⟩)] 152))
  have C0 := Lib.hid ((blk_second w (.cells (zPage 0) PageT) 182 #[.string ⟨s.toArray⟩, badV false]).alloc (.cells #[.pointer (some ⟨w.heap.size + 1, 0, none⟩)] 152))
  have R0 := Lib.hid (Blk.new ((w.alloc (.cells (zPage 0) PageT)).alloc (.cells #[.string ⟨s.toArray⟩, badV false] 182)) 152 #[.pointer (some ⟨w.heap.size + 1, 0, none⟩)])
  have K0 := Lib.hid ((((Chg.refl (OneM (w.heap.size + 1)) w).alloc (.cells (zPage 0) PageT)).alloc (.cells #[.string ⟨s.toArray⟩, badV false] 182)).alloc (.cells #[.pointer (some ⟨w.heap.size + 1, 0, none⟩)] 152))
  refine (cutNum_any (w.heap.size + 1) s false _ hs C0.out).mono ?_
  rintro e w1 ⟨rfl, hc1, hk1⟩
  have hz1 := hk1.size
  simp only [World.size_alloc] at hz1
  have hk1z := hz1
  have B1 := Lib.hid (B0.out.chg hk1 (by unfold OneM; omega))
  have R1 := Lib.hid (R0.out.chg hk1 (by unfold OneM; simp))
  have r1 := R1.out.at1
  simp only [World.size_alloc] at r1
  have K1 := Lib.hid (K0.out.trans hk1)
  have C1 := Lib.hid (show CutAt w1 (w.heap.size + 1) (Sp.Cut.u64 ⟨s, false⟩).2.s (Sp.Cut.u64 ⟨s, false⟩).2.bad from hc1)
  clear hc1 hk1
  go_wp2_with fail
  refine (rdPage4O (w.heap.size + 1) (Sp.Cut.u64 ⟨s, false⟩).2 _ (Nat.le_trans H0.out hs) C1.out HK4.out).mono ?_
  rintro e w2 ⟨r, rfl, ho2, hp, hc2, hk2⟩
  replace ho2 := own_base (base' := w.heap.size + 1) ho2 (by have := hk1z; omega)
  rw [show (Sp.Cut.u64 ⟨s, false⟩).2.page.1 = Sp.parse s from rfl] at *
  have hz2 := hk2.size
  have K2 := Lib.hid (K1.out.trans hk2)
  have B2 := Lib.hid (B1.out.chg hk2 (by unfold OneM; omega))
  have HP := Lib.hid (fun M h => (hp M h).chg ((Chg.refl M w2).alloc (.cells (pageV (Sp.parse s) r).toArray PageT)))
  have HO := Lib.hid (show Sp.readOk s = (decide (s ≠ []) && decide (Sp.bytes (Sp.parse s) = s)) from rfl)
  have HRV := Lib.hid (show readV s = fun r => if Sp.readOk s then .tuple #[.agg (pageV (Sp.parse s) r).toArray, .nilIface] else .tuple #[.agg (pageV Sp.pg0 r).toArray, .iface 55 (.int .i64 12)] from rfl)
  have HRP := Lib.hid (show readPg s = if Sp.readOk s then Sp.parse s else Sp.pg0 from rfl)
  have hs0 := HS0.out
  have hok : Sp.readOk s = decide (Sp.bytes (Sp.parse s) = s) := by unfold Sp.readOk; simp [hs0]
  have HOK := Lib.hid hok
  clear hok HK4
  clear HS0
  subst hs0
  have hsz2 : w.heap.size < w2.heap.size := by omega
  have hq0 := hp
  have HPP := Lib.hid (rfl : Sp.parse (b0 :: s0) = Sp.parse (b0 :: s0))
  generalize hpp : Sp.parse (b0 :: s0) = p at *
  have HPE := Lib.hid hpp
  clear hpp HPP
  have B3 := Lib.hid (B2.out.alloc (.cells #[.int .i64 p.kind, .slice r.I p.items.length r.i, .slice r.K p.keys.length r.k, .slice r.D p.kids.length r.d, .string ⟨p.text.toArray⟩, .slice r.V p.vals.length r.v, .slice r.F p.free.length r.f, .int .i64 p.next, .int .u64 p.mt.txn, .int .i64 p.mt.main.page, .int .i64 p.mt.main.count, .int .i64 p.mt.main.flags, .int .i64 p.mt.free, .int .i64 p.mt.last] PageT))
  have P3 := Lib.hid (Blk.new w2 PageT #[.int .i64 p.kind, .slice r.I p.items.length r.i, .slice r.K p.keys.length r.k, .slice r.D p.kids.length r.d, .string ⟨p.text.toArray⟩, .slice r.V p.vals.length r.v, .slice r.F p.free.length r.f, .int .i64 p.next, .int .u64 p.mt.txn, .int .i64 p.mt.main.page, .int .i64 p.mt.main.count, .int .i64 p.mt.main.flags, .int .i64 p.mt.free, .int .i64 p.mt.last])
  have K3 := Lib.hid (K2.out.alloc (.cells #[.int .i64 p.kind, .slice r.I p.items.length r.i, .slice r.K p.keys.length r.k, .slice r.D p.kids.length r.d, .string ⟨p.text.toArray⟩, .slice r.V p.vals.length r.v, .slice r.F p.free.length r.f, .int .i64 p.next, .int .u64 p.mt.txn, .int .i64 p.mt.main.page, .int .i64 p.mt.main.count, .int .i64 p.mt.main.flags, .int .i64 p.mt.free, .int .i64 p.mt.last] PageT))
  have HP := Lib.hid (fun M h => (hp M h).chg ((Chg.refl M w2).alloc (.cells #[.int .i64 p.kind, .slice r.I p.items.length r.i, .slice r.K p.keys.length r.k, .slice r.D p.kids.length r.d, .string ⟨p.text.toArray⟩, .slice r.V p.vals.length r.v, .slice r.F p.free.length r.f, .int .i64 p.next, .int .u64 p.mt.txn, .int .i64 p.mt.main.page, .int .i64 p.mt.main.count, .int .i64 p.mt.main.flags, .int .i64 p.mt.free, .int .i64 p.mt.last] PageT)))
  have hsz3 : w2.heap.size < (w2.alloc (.cells #[.int .i64 p.kind, .slice r.I p.items.length r.i, .slice r.K p.keys.length r.k, .slice r.D p.kids.length r.d, .string ⟨p.text.toArray⟩, .slice r.V p.vals.length r.v, .slice r.F p.free.length r.f, .int .i64 p.next, .int .u64 p.mt.txn, .int .i64 p.mt.main.page, .int .i64 p.mt.main.count, .int .i64 p.mt.main.flags, .int .i64 p.mt.free, .int .i64 p.mt.last] PageT)).heap.size := by simp
  have HO3 := Lib.hid (own_chg2 (S := NoM) ho2 ((Chg.refl NoM w2).alloc (.cells #[.int .i64 p.kind, .slice r.I p.items.length r.i, .slice r.K p.keys.length r.k, .slice r.D p.kids.length r.d, .string ⟨p.text.toArray⟩, .slice r.V p.vals.length r.v, .slice r.F p.free.length r.f, .int .i64 p.next, .int .u64 p.mt.txn, .int .i64 p.mt.main.page, .int .i64 p.mt.main.count, .int .i64 p.mt.main.flags, .int .i64 p.mt.free, .int .i64 p.mt.last] PageT)) (fun _ _ h => h))
  clear hp hq0 hc2 hk2 B2 K2 ho2
  have hb := HBB.out
  have HOK := Lib.hid (HOK.out.trans (decide_eq_true hb))
  simp only [pageV, mtV]
  go_upto_region 4 with fail
  generalize w2.alloc (.cells #[.int .i64 p.kind, .slice r.I p.items.length r.i, .slice r.K p.keys.length r.k, .slice r.D p.kids.length r.d, .string ⟨p.text.toArray⟩, .slice r.V p.vals.length r.v, .slice r.F p.free.length r.f, .int .i64 p.next, .int .u64 p.mt.txn, .int .i64 p.mt.main.page, .int .i64 p.mt.main.count, .int .i64 p.mt.main.flags, .int .i64 p.mt.free, .int .i64 p.mt.last] PageT) = w3 at *
  have hlw := P3.out.lt
  obtain ⟨⟨uua, uub, uuc, uud, uue, uuf, uug, uuh, uui, uuj, uuk, uul, uum, uun⟩, vva, vvb, vvc, vvd, vve, vvf, vvg, vvh, vvi, vvj, vvk, vvl, vvm, vvn⟩ := P3.out.at14
  go_wp2_with (go_at_call 94; refine (bytes_any (M := NoM) p r _ (HP.out _ (fun _ _ h => h))).mono ?_; rintro e w4 ⟨rfl, hb4⟩; have K4 := Lib.hid (Chg.trans K3.out (.of_below hb4)); have hz4 := hb4.size; have HO4 := Lib.hid (own_chg2 (S := NoM) HO3.out (.of_below hb4) (fun _ _ h => h)); have B4 := Lib.hid (B3.out.below hb4 B3.out.lt); have P4 := Lib.hid (P3.out.below hb4 P3.out.lt); have HP4 := Lib.hid (fun M h => (HP.out M h).chg (.of_below hb4)); obtain ⟨⟨za, zb, zc, zd, ze, zf, zg, zh, zi, zj, zk, zl, zm, zn⟩, qa, qb, qc, qd, qe, qf, qg, qh, qi, qj, qk, ql, qm, qn⟩ := B4.out.at14; obtain ⟨⟨xa, xb, xc, xd, xe, xf, xg, xh, xi, xj, xk, xl, xm, xn⟩, ya, yb, yc, yd, ye, yf, yg, yh, yi, yj, yk, yl, ym, yn⟩ := P4.out.at14; clear hb4 B3 P3 uua uub uuc uud uue uuf uug uuh uui uuj uuk uul uum uun vva vvb vvc vvd vve vvf vvg vvh vvi vvj vvk vvl vvm vvn)
  go_wp2
  refine bodyPost_ret (v := .tuple #[.agg (pageV p r).toArray, .nilIface]) (by simp [results, Tryz.results63, go_sem, za, zb, zc, zd, ze, zf, zg, zh, zi, zj, zk, zl, zm, zn, qa, qb, qc, qd, qe, qf, qg, qh, qi, qj, qk, ql, qm, qn, pageV, mtV]) rfl ⟨r, by rw [HPE.out], ?_, ?_⟩
  · rw [HPE.out]
    refine own_base (base := w.heap.size + 1) ?_ (by omega)
    iterate 14 (refine own_set1 ?_ (by omega))
    exact HO4.out
  refine Chg.below (S := OneM (w.heap.size + 1)) ?_ (Nat.le_refl _) (fun k hk e => by unfold OneM at e; omega)
  iterate 14 (refine Chg.setCell ?_ (.inr (by simp only; omega)) _)
  exact K4.out
theorem read4_any (s : Txt) (p : Sp.Page) (w : World) (hs : s.length ≤ 4611686018427387904) (hp4 : p.kind = 4) (hpr : Sp.readF s = (p, none)) :
    Calls Tryz.prog 63 #[.string ⟨s.toArray⟩] w fun e w' => ∃ r, e = .returned (.tuple #[.agg (pageV p r).toArray, .nilIface]) ∧ w'.ownsRow w.heap.size StrT 1 (.slice r.V p.vals.length r.v) p.vals.length (p.vals.map tv) ∧ Below w.heap.size w w' := by
  unfold Sp.readF at hpr
  by_cases ho : Sp.readOk s = true
  · rw [if_pos ho] at hpr
    injection hpr with hpr _
    subst hpr
    unfold Sp.readOk at ho
    rw [Bool.and_eq_true, decide_eq_true_eq, decide_eq_true_eq] at ho
    rcases s with _ | ⟨b0, s0⟩
    · exact absurd rfl ho.1
    · exact read4O b0 s0 _ w hs (Lib.hid rfl) (Lib.hid ho.2) (Lib.hid ((Sp.Cut.page_kind _).symm.trans hp4))
  · rw [if_neg ho] at hpr
    injection hpr with _ hpr
    cases hpr
set_option maxRecDepth 100000 in
set_option maxHeartbeats 1600000 in
theorem stoRead4O (M : Nat → Prop) (t f m d : Nat) (fv : Value) (V : List Txt) (s : Sp.Sto) (i : Int) (w : World) (hs : StAt w M t f m d fv V s) (hn : V.length ≤ 400) (h2 : 2 ≤ i) (h4 : i < s.most) (hm : s.most ≤ 400) (hno : Sp.lookD s.d i = none) (p : Sp.Page) (hp4 : p.kind = 4) (hpr : Sp.readF (Sp.atV V i) = (p, none)) :
    Calls Tryz.prog 37 #[.pointer (some ⟨t, 0, none⟩), .int .i64 i] w fun e w' => ∃ r, e = .returned (.tuple #[.agg (pageV p r).toArray, .nilIface]) ∧ w'.ownsRow w.heap.size StrT 1 (.slice r.V p.vals.length r.v) p.vals.length (p.vals.map tv) ∧ Below w.heap.size w w' := by
  have hal : Below w.heap.size w (w.alloc (.cells pgZ0 PageT)) := (Below.refl _ _).alloc (Nat.le_refl _) _
  have HRD := Lib.hid (fun W => read4_any (Sp.atV V i) p W (atV_sz V i hs.fa.sz) hp4 hpr)
  have HS := Lib.hid (hs.go hal)
  obtain ⟨uf, ua, hbt, _, _⟩ := HS.out.bt
  have c0 : (w.alloc (.cells pgZ0 PageT)).cell? ⟨t, 0, none⟩ = some (.pointer (some ⟨f, 0, none⟩)) := hbt.cell 0
  have c1 : (w.alloc (.cells pgZ0 PageT)).cell? ⟨t, 1, none⟩ = some (.map (some d)) := hbt.cell 1
  have c5 : (w.alloc (.cells pgZ0 PageT)).cell? ⟨t, 5, none⟩ = some (.int .i64 s.most) := hbt.cell 5
  obtain ⟨D, hD, hP⟩ := HS.out.dm
  have hlk := hD.lookP i
  have e : Sp.lookD D i = none := by
    rcases hP.look i with ⟨_, e⟩ | ⟨p, r, e, _⟩
    · exact e
    · rw [hno] at e; cases e
  rw [e] at hlk
  simp only [Option.getD_none, Option.isSome_none] at hlk
  have HBT := Lib.hid hbt
  have HZ := Lib.hid (Blk.new w PageT pgZ0)
  have HSZ := Lib.hid (atV_sz V i hs.fa.sz)
  have HAL := Lib.hid hal
  have hlt2 : ¬ (i < 2) := by omega
  have h400 : ¬ (s.most ≤ i) := by omega
  have hd1 : d < (w.alloc (.cells pgZ0 PageT)).heap.size := hD.lt
  clear hs hal hD hP hbt e hno hpr hp4
  simp only [pgZ0] at *
  go_enter Tryz.func37, Tryz.ntmps37
  go_upto_region 5 with (refine wpList_new PageT _ _ rfl rfl rfl rfl rfl rfl _ rfl (of_decide_eq_true (by kernel_rfl)) (by kernel_rfl) (by kernel_rfl) (by kernel_rfl) ?_)
  have hal2 : Below (w.alloc (.cells pgZ0 PageT)).heap.size (w.alloc (.cells pgZ0 PageT)) ((w.alloc (.cells pgZ0 PageT)).alloc (.cells pgZ0 PageT)) := (Below.refl _ _).alloc (Nat.le_refl _) _
  have HS2 := Lib.hid (HS.out.go hal2)
  have HZ2 := Lib.hid (HZ.out.below hal2 HZ.out.lt)
  have HAL2 := Lib.hid (HAL.out.trans (hal2.mono HAL.out.size))
  have e0 := (HBT.out.below hal2 HBT.out.lt).cell 0
  simp at e0
  clear c0 c1 c5 hlk HS HZ HAL hal2 hd1 HBT
  simp only [pgZ0] at *
  generalize ((w.alloc (.cells _ PageT)).alloc (.cells _ PageT)) = W2 at *
  go_wp2_with (first
    | (go_at_call 41; refine (fileRead_any f m fv V i _ HS2.out.fa (by omega)).mono ?_; rintro e w2 ⟨rfl, rfl⟩)
    | (go_at_call 63; refine (HRD.out _).mono ?_; rintro e w3 ⟨r, rfl, hr, hb3⟩)
    | (refine wpList_store_row rfl PageT _ _ rfl w.heap.size _ rfl rfl PageT _ (HZ2.out.below hb3 HZ2.out.lt) (by kernel_rfl) rfl (pageV_all0 p r) ?_))
  obtain ⟨⟨z0, z1, z2, z3, z4, z5, z6, z7, z8, z9, z10, z11, z12, z13⟩, _⟩ := ((HZ2.out.below hb3 HZ2.out.lt).row (ds := #[.int .i64 p.kind, .slice r.I p.items.length r.i, .slice r.K p.keys.length r.k, .slice r.D p.kids.length r.d, .string ⟨p.text.toArray⟩, .slice r.V p.vals.length r.v, .slice r.F p.free.length r.f, .int .i64 p.next, .int .u64 p.mt.txn, .int .i64 p.mt.main.page, .int .i64 p.mt.main.count, .int .i64 p.mt.main.flags, .int .i64 p.mt.free, .int .i64 p.mt.last])).at14
  have hge : w.heap.size ≤ W2.heap.size := HAL2.out.size
  have hb4 : Below w.heap.size w (w3.setRow w.heap.size (pageV p r).toArray) := below_setRow (HAL2.out.trans (hb3.mono hge)) (Nat.le_refl _) _
  refine bodyPost_ret (v := .tuple #[.agg (pageV p r).toArray, .nilIface]) (by simp [results, Tryz.results37, go_sem, pageV, mtV, z0, z1, z2, z3, z4, z5, z6, z7, z8, z9, z10, z11, z12, z13]) rfl ⟨r, rfl, ?_, hb4⟩
  exact own_base (own_setT hr (HZ2.out.below hb3 HZ2.out.lt) (by decide) (chg_setRow0 w3 w.heap.size _)) hge
end Go.Proofs.YtkcfmjlcijhieaaGreat
