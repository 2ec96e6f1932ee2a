/- Many values of a key: one more. Many values of a key: one more, that may not be, that is there, that is too many; the first one. Many values of a key: one taken. -/
import Derived.Test.YtkcfmjlcijhieaaGreatQPDBack04
set_option linter.unusedSimpArgs false
set_option linter.unusedVariables false
namespace Go.Proofs.YtkcfmjlcijhieaaGreat
open Go.RowKit
attribute [local go_sem low] mk_extract
attribute [local go_sem] After.cell After.frozen mk_extract_end ByteArray.mk_append_mk
theorem own_rowT {w : World} {base : Nat} {N : Nat → Prop} {A : Option Addr} {n c : Nat} {xs : List Value} (h : w.ownsRow base StrT 1 (.slice A n c) n xs) (hn : n ≤ 1000) (hN : ∀ k cs, Blk w k StrT cs → ¬ N k) : Row w N A xs := by
  have hl := h.1
  rw [Nat.mul_one] at hl
  rcases h.2 with ⟨e, h0⟩ | ⟨g, cap, cur, e, _, hh, hnc, _, hcs, ht⟩
  · rw [List.eq_nil_of_length_eq_zero (by omega : xs.length = 0)]
    exact Row.nil_
  · simp only [Value.slice.injEq] at e
    obtain ⟨rfl, _, _⟩ := e
    have hb : Blk w g _ cur := hh
    refine ⟨by omega, .inr ⟨g, 0, rfl, hb.lt, hN g cur hb, fun j v hv => ?_⟩⟩
    rw [Nat.zero_add]
    refine (hb.cell j).trans ?_
    have hj : j < xs.length := (List.getElem?_eq_some_iff.1 hv).1
    have : (cur.toList.take (n * 1))[j]? = xs[j]? := by rw [ht]
    rw [List.getElem?_take, if_pos (by omega), hv] at this
    rw [← Array.getElem?_toList, this]
/-- In Add and Take: the item, the result that is told, beside the store. -/
structure AdS (w : World) (M : Nat → Prop) (t f m d : Nat) (fv : Value) (V : List Txt) (s : Sp.Sto) (b0 b1 : Nat) (X : Array Value) (W : World) : Prop where
  st : StAt W (fun k => M k ∨ k = b1) t f m d fv V s
  ck : Chg (TwoM t d) w W
  bx : Blk W b0 ItemT X
  bz : Blk W b1 ItemT itZ0
  ge : w.heap.size ≤ b0 ∧ w.heap.size ≤ b1
section
variable {w W W' : World} {M : Nat → Prop} {t f m d : Nat} {fv : Value} {V : List Txt} {s s' : Sp.Sto} {b0 b1 : Nat} {X : Array Value}
theorem AdS.turn (h : AdS w M t f m d fv V s b0 b1 X W) (hs : StAt W' (fun k => M k ∨ k = b1) t f m d fv V s') (hk : Chg (TwoM t d) W W') : AdS w M t f m d fv V s' b0 b1 X W' :=
  have hn := h.st.not_kind (ty := ItemT) (by decide)
  ⟨hs, h.ck.trans hk, h.bx.chg hk (hn _ _ h.bx), h.bz.chg hk (hn _ _ h.bz), h.ge⟩
theorem AdS.go (h : AdS w M t f m d fv V s b0 b1 X W) (hb : Below W.heap.size W W') : AdS w M t f m d fv V s b0 b1 X W' :=
  h.turn (h.st.go hb) (Chg.of_below hb)
theorem AdS.new_ (h : StAt w M t f m d fv V s) (X : Array Value) : AdS w M t f m d fv V s w.heap.size (w.heap.size + 1) X ((w.alloc (.cells X ItemT)).alloc (.cells itZ0 ItemT)) := by
  have e1 : (w.alloc (.cells X ItemT)).heap.size = w.heap.size + 1 := by simp
  have hb : Below w.heap.size w ((w.alloc (.cells X ItemT)).alloc (.cells itZ0 ItemT)) := ((Below.refl _ _).alloc (Nat.le_refl _) _).alloc (by rw [e1]; omega) _
  have h2 := Blk.new (w.alloc (.cells X ItemT)) ItemT itZ0
  rw [e1] at h2
  exact ⟨h.newMs hb fun k e => by rw [World.size_alloc, e1]; subst e; omega, Chg.of_below hb, (Blk.new w ItemT X).alloc _, h2, ⟨by omega, by omega⟩⟩
theorem AdS.done (h : AdS w M t f m d fv V s b0 b1 X W) (cs : Array Value) (hM : M t ∧ M d) : StAt (W.setRow b1 cs) M t f m d fv V s ∧ Chg (TwoM t d) w (W.setRow b1 cs) :=
  ⟨(h.st.one h.bz (.inr rfl) (chg_setRowN (Chg.refl (OneM _) _) (.inl rfl) _)).oldMs hM, chg_setRowN h.ck (.inr h.ge.2) _⟩
theorem own_tk {w : World} {base : Nat} {A : Option Addr} {n c : Nat} {l : List Txt} (h : w.ownsRow base StrT 1 (.slice A n c) n (l.map tv)) (hn : n ≤ 1000) : TxK w A l := by
  refine ⟨own_rowT h hn (fun _ _ _ h => h), fun b off e hl => ?_⟩
  rcases h.2 with ⟨e2, _⟩ | ⟨g, cap, cur, e2, _, hh, _⟩
  · simp only [Value.slice.injEq] at e2
    rw [e] at e2
    cases e2.1
  · simp only [Value.slice.injEq] at e2
    rw [e] at e2
    have e3 := e2.1
    simp only [Option.some.injEq, Addr.mk.injEq] at e3
    exact ⟨cur, by rw [e3.1]; exact hh⟩
theorem DuI.row {l : List Txt} {kind dup : Int} {A : Option Addr} {n : Nat} {g : Nat} {cs ds : Array Value} (h : DuI l kind A n dup W) (hg : Blk W g ItemT ds) : DuI l kind A n dup (W.setRow g cs) :=
  h.chg (chg_setRowN (Chg.refl (OneM g) W) (.inl rfl) cs) fun k cs' hb e => by
    have e : k = g := e
    subst e
    exact hb.not_ (by decide) _ hg
end
set_option maxRecDepth 100000 in
set_option maxHeartbeats 1600000 in
theorem add_new (M : Nat → Prop) (t f m d : Nat) (fv : Value) (V : List Txt) (s : Sp.Sto) (k : Txt) (l : List Txt) (kind : Int) (A : Option Addr) (n c : Nat) (dup : Int) (v : Txt) (w : World) (h : StAt w M t f m d fv V s) (hV : V.length ≤ 400) (hd : Sp.DuSt l s) (hi : DuI l kind A n dup w) (hs : Sp.SrtV l) (hne : l ≠ []) (h12 : l.length < 12) (hv : 1 ≤ v.length ∧ v.length ≤ 12) (hno : Sp.hasV l v = false) :
    Calls Tryz.prog 50 #[.pointer (some ⟨t, 0, none⟩), .agg (itA k kind A n c dup), .string ⟨v.toArray⟩] w fun e w' => ∃ x, e = .returned (.tuple #[x, .nilIface]) ∧ DuR M t f m d fv V k (Sp.insT v l) w' x ∧ Chg (TwoM t d) w w' := by
  obtain rfl := hi.nz hne
  obtain rfl := hi.dp
  have HN := Lib.hid (AdS.new_ h (itA k 3 A n c (Sp.duP l)))
  have HMM := Lib.hid h.hM
  have HI0 := Lib.hid (fun W (hk : Chg (TwoM t d) w W) => hi.chg hk (h.not_kind (by decide)))
  have hve : v.isEmpty = false := by
    rcases v with _ | _
    · simp at hv
    · rfl
  clear h hi
  go_enter Tryz.func50, Tryz.ntmps50
  go_upto_region 1 with fail
  refine wp_gen _ HN.out ?_
  intro w2 hw2
  have S2 := Lib.hid hw2
  clear hw2 HN
  have hkd : w2.cell? ⟨w.heap.size, 1, none⟩ = some (.int .i64 3) := S2.out.bx.cell 1
  have HVC := Lib.hid (duVals_any _ t f m d fv V s k l 3 A n c (Sp.duP l) w2 S2.out.st hd (HI0.out _ S2.out.ck) hne (by omega))
  go_upto_region 8 with (first
    | (refine wpList_row ItemT _ rfl w.heap.size rfl rfl ItemT _ (0, 0) _ S2.out.bx Tryz.underlying90 rfl rfl ?_)
    | (go_at_call 51; refine HVC.out.mono ?_; rintro e w3 ⟨A1, cA1, rfl, ho3, hb3⟩; have HO := Lib.hid ho3; have HB3 := Lib.hid hb3; clear ho3 hb3))
  have hpl := Sp.plc_le l v
  have S3 := Lib.hid (S2.out.go HB3.out)
  have HT3 := Lib.hid (own_rowT (N := NoM) HO.out (by omega) (fun _ _ _ h => h))
  have HPC := Lib.hid (place_any l v A1 cA1 w3 HT3.out)
  rw [hno] at HPC
  go_upto_region 13 with (go_at_call 81; refine HPC.out.mono ?_; rintro e w4 ⟨rfl, hb4⟩; have HB4 := Lib.hid hb4; clear hb4)
  have hB24 := HB3.out.trans (HB4.out.mono HB3.out.size)
  have HO4 := Lib.hid (own_chg2 (S := NoM) HO.out (Chg.of_below HB4.out) (fun _ _ h => h))
  have S4 := Lib.hid (S3.out.go HB4.out)
  clear HO S3 HT3 HPC HB3 HB4 HVC hkd
  obtain ⟨w3', rfl⟩ : ∃ W, W = w4 := ⟨_, rfl⟩
  have hz23 : w2.heap.size ≤ w3'.heap.size := hB24.size
  have hx2 : w.heap.size < w2.heap.size := S2.out.bx.lt
  refine wp_region_in 12 7 (fun W => Below w2.heap.size w3' W) (by kernel_rfl) rfl ?_
  refine wpIn_takeV 0 [7] (.pointer (some ⟨t, 0, none⟩)) rfl (by kernel_rfl) (by kernel_rfl) (by kernel_rfl) (by kernel_rfl) (by kernel_rfl) (by kernel_rfl) (by kernel_rfl) (by rfl) (fun _ _ _ h => h) (Below.refl w2.heap.size w3').drew (fun W hW => by go_simp; all_goals first | with_reducible rfl | rfl | omega) ?_
  try simp only [List.getElem_toArray, List.getElem_cons_zero, List.getElem_cons_succ, Act.put, List.setIfInBounds_toArray, List.set_cons_succ, List.set_cons_zero]
  refine wpIn_takeV 1 [7] (.agg (itA k 3 A n c (Sp.duP l))) rfl (by kernel_rfl) (by kernel_rfl) (by kernel_rfl) (by kernel_rfl) (by kernel_rfl) (by kernel_rfl) (by kernel_rfl) (by rfl) (fun _ _ _ h => h) (Below.refl w2.heap.size w3').drew (fun W hW => exec_item _ rfl w.heap.size rfl _ (S4.out.bx.below hW hx2) rfl) ?_
  try simp only [List.getElem_toArray, List.getElem_cons_zero, List.getElem_cons_succ, Act.put, List.setIfInBounds_toArray, List.set_cons_succ, List.set_cons_zero]
  refine wpIn_takeV 2 [6, 7] (.slice A1 l.length cA1) rfl (by kernel_rfl) (by kernel_rfl) (by kernel_rfl) (by kernel_rfl) (by kernel_rfl) (by kernel_rfl) (by kernel_rfl) (by rfl) (fun _ _ _ h => h) (Below.refl w2.heap.size w3').drew (fun W hW => by go_simp; all_goals first | with_reducible rfl | rfl | omega) ?_
  try simp only [List.getElem_toArray, List.getElem_cons_zero, List.getElem_cons_succ, Act.put, List.setIfInBounds_toArray, List.set_cons_succ, List.set_cons_zero]
  refine wpIn_takeV 3 [6, 7] (.int .i64 (Sp.plc l v : Int)) rfl (by kernel_rfl) (by kernel_rfl) (by kernel_rfl) (by kernel_rfl) (by kernel_rfl) (by kernel_rfl) (by kernel_rfl) (by rfl) (fun _ _ _ h => h) (Below.refl w2.heap.size w3').drew (fun W hW => by go_simp; all_goals first | with_reducible rfl | rfl | omega) ?_
  try simp only [List.getElem_toArray, List.getElem_cons_zero, List.getElem_cons_succ, Act.put, List.setIfInBounds_toArray, List.set_cons_succ, List.set_cons_zero]
  refine wpIn_takeV 4 [5, 6, 7] (.string ⟨v.toArray⟩) rfl (by kernel_rfl) (by kernel_rfl) (by kernel_rfl) (by kernel_rfl) (by kernel_rfl) (by kernel_rfl) (by kernel_rfl) (by rfl) (fun _ _ _ h => h) (Below.refl w2.heap.size w3').drew (fun W hW => by go_simp; all_goals first | with_reducible rfl | rfl | omega) ?_
  try simp only [List.getElem_toArray, List.getElem_cons_zero, List.getElem_cons_succ, Act.put, List.setIfInBounds_toArray, List.set_cons_succ, List.set_cons_zero]
  refine wpIn_one 5 rfl (by kernel_rfl) (fun _ => (Below.refl w2.heap.size w3').drew) (by rfl) ?_
  go_simp
  have hB5 : Below w2.heap.size w3' (w3'.drew.alloc (.cells #[.string ⟨v.toArray⟩] StrT)) := (Below.refl w2.heap.size w3').drew.alloc (by show w2.heap.size ≤ w3'.heap.size; exact hz23) _
  try simp only [List.getElem_toArray, List.getElem_cons_zero, List.getElem_cons_succ, Act.put, List.setIfInBounds_toArray, List.set_cons_succ, List.set_cons_zero]
  refine wpIn_one 6 rfl (by kernel_rfl) (fun _ => hB5) (by rfl) ?_
  go_simp
  refine (insS_any (B := w2.heap.size) v (Sp.plc l v) (Sp.plc_le l v) (own_chg2 (S := NoM) HO4.out (Chg.of_below ((Below.refl w3'.heap.size w3').drew.alloc (Nat.le_refl _) (.cells #[.string ⟨v.toArray⟩] StrT))) (fun _ _ h => h)) (by rw [World.size_alloc]; show w2.heap.size ≤ w3'.heap.size + 1; omega) w3'.heap.size (Blk.new w3'.drew StrT #[.string ⟨v.toArray⟩]) (fun j hj e => by have := own_lt HO4.out j hj; omega) (by omega)).mono ?_
  rintro e w6 ⟨vr, rfl, ho6, hb6⟩
  obtain ⟨A6, c6, rfl⟩ := own_slice ho6
  have hB6 : Below w2.heap.size w3' w6 := hB5.trans hb6
  have hlen6 : (Sp.insT v l).length = l.length + 1 := Sp.insT_len v l
  have S6 := Lib.hid (S2.out.go (hB24.trans hB6))
  have HT6 := Lib.hid (own_tk ho6 (by omega))
  clear ho6 hb6
  try simp only [List.getElem_toArray, List.getElem_cons_zero, List.getElem_cons_succ, Act.put, List.setIfInBounds_toArray, List.set_cons_succ, List.set_cons_zero]
  refine wpIn_one 7 rfl (by kernel_rfl) (fun _ => hB6) (by rfl) ?_
  go_simp
  rw [← hlen6]
  refine (with_any _ t f m d fv V s k l 3 A n c (Sp.insT v l) A6 c6 w6 S6.out.st hV hd (by intro e; have := congrArg List.length e; rw [hlen6] at this; simp at this) (Sp.insT_srt hs hv hno) (by rw [hlen6]; omega) HT6.out).mono ?_
  rintro e w7 ⟨vv, rfl, ⟨kind', A', n', c', dup', s', rfl, hI', hD', hst'⟩, hk7⟩
  have S7 := Lib.hid (S6.out.turn hst' hk7)
  have HI := Lib.hid hI'
  have HD := Lib.hid hD'
  clear hst' hk7 hI' hD' S6
  try simp only [List.getElem_toArray, List.getElem_cons_zero, List.getElem_cons_succ, Act.put, List.setIfInBounds_toArray, List.set_cons_succ, List.set_cons_zero]
  refine wpIn_two 8 9 rfl rfl (by kernel_rfl) (fun h => Bool.noConfusion (show true = false from h)) (by rfl) (by rfl) ?_ ?_
  · go_simp
    try simp only [List.getElem_toArray, List.getElem_cons_zero, List.getElem_cons_succ, Act.put, List.setIfInBounds_toArray, List.set_cons_succ, List.set_cons_zero]
    refine wpIn_one 9 rfl (by kernel_rfl) (fun h => Bool.noConfusion (show true = false from h)) (by rfl) ?_
    go_simp
    try simp only [List.getElem_toArray, List.getElem_cons_zero, List.getElem_cons_succ, Act.put, List.setIfInBounds_toArray, List.set_cons_succ, List.set_cons_zero]
    refine wpIn_one 10 rfl (by kernel_rfl) (fun h => Bool.noConfusion (show true = false from h)) (by rfl) ?_
    refine wp_store_row ItemT _ _ rfl (w.heap.size + 1) (itA k kind' A' n' c' dup') rfl rfl ItemT _ S7.out.bz (by kernel_rfl) rfl (itA_all _ _ _ _ _ _) ?_
    try simp only [List.getElem_toArray, List.getElem_cons_zero, List.getElem_cons_succ, Act.put, List.setIfInBounds_toArray, List.set_cons_succ, List.set_cons_zero]
    refine wpIn_one 11 rfl (by kernel_rfl) (fun h => Bool.noConfusion (show true = false from h)) (by rfl) ?_
    go_simp
    refine wpIn_done (by kernel_rfl) (by kernel_rfl) ?_ _
    simp only [Exit.then]
    go_wp2_with fail
    obtain ⟨z0, z1, z2, z3, z4, z5, z6, z7, z8, z9⟩ := (S7.out.bz.row (ds := itA k kind' A' n' c' dup')).at10.1
    obtain ⟨hfs, hfk⟩ := S7.out.done (itA k kind' A' n' c' dup') HMM.out
    refine bodyPost_ret (v := .tuple #[.agg (itA k kind' A' n' c' dup'), .nilIface]) (by simp [results, Tryz.results50, go_sem, z0, z1, z2, z3, z4, z5, z6, z7, z8, z9]) rfl ⟨_, rfl, ⟨kind', A', n', c', dup', s', rfl, HI.out.row S7.out.bz, HD.out, hfs⟩, hfk⟩
  · go_simp
    try simp only [List.getElem_toArray, List.getElem_cons_zero, List.getElem_cons_succ, Act.put, List.setIfInBounds_toArray, List.set_cons_succ, List.set_cons_zero]
    refine wpIn_one 8 rfl (by kernel_rfl) (fun h => Bool.noConfusion (show true = false from h)) (by rfl) ?_
    go_simp
    try simp only [List.getElem_toArray, List.getElem_cons_zero, List.getElem_cons_succ, Act.put, List.setIfInBounds_toArray, List.set_cons_succ, List.set_cons_zero]
    refine wpIn_one 10 rfl (by kernel_rfl) (fun h => Bool.noConfusion (show true = false from h)) (by rfl) ?_
    refine wp_store_row ItemT _ _ rfl (w.heap.size + 1) (itA k kind' A' n' c' dup') rfl rfl ItemT _ S7.out.bz (by kernel_rfl) rfl (itA_all _ _ _ _ _ _) ?_
    try simp only [List.getElem_toArray, List.getElem_cons_zero, List.getElem_cons_succ, Act.put, List.setIfInBounds_toArray, List.set_cons_succ, List.set_cons_zero]
    refine wpIn_one 11 rfl (by kernel_rfl) (fun h => Bool.noConfusion (show true = false from h)) (by rfl) ?_
    go_simp
    refine wpIn_done (by kernel_rfl) (by kernel_rfl) ?_ _
    simp only [Exit.then]
    go_wp2_with fail
    obtain ⟨z0, z1, z2, z3, z4, z5, z6, z7, z8, z9⟩ := (S7.out.bz.row (ds := itA k kind' A' n' c' dup')).at10.1
    obtain ⟨hfs, hfk⟩ := S7.out.done (itA k kind' A' n' c' dup') HMM.out
    refine bodyPost_ret (v := .tuple #[.agg (itA k kind' A' n' c' dup'), .nilIface]) (by simp [results, Tryz.results50, go_sem, z0, z1, z2, z3, z4, z5, z6, z7, z8, z9]) rfl ⟨_, rfl, ⟨kind', A', n', c', dup', s', rfl, HI.out.row S7.out.bz, HD.out, hfs⟩, hfk⟩
end Go.Proofs.YtkcfmjlcijhieaaGreat
namespace Go.Proofs.YtkcfmjlcijhieaaGreat
open Go.RowKit
attribute [local go_sem low] mk_extract
attribute [local go_sem] After.cell After.frozen mk_extract_end ByteArray.mk_append_mk
set_option maxRecDepth 100000 in
set_option maxHeartbeats 1600000 in
theorem add_no0 (M : Nat → Prop) (t f m d : Nat) (fv : Value) (V : List Txt) (s : Sp.Sto) (k : Txt) (l : List Txt) (kind : Int) (A : Option Addr) (n c : Nat) (dup : Int) (v : Txt) (w : World) (h : StAt w M t f m d fv V s) (hv : v = []) :
    Calls Tryz.prog 50 #[.pointer (some ⟨t, 0, none⟩), .agg (itA k kind A n c dup), .string ⟨v.toArray⟩] w fun e w' => e = .returned (.tuple #[.agg (itA k kind A n c dup), erO (some 22)]) ∧ StAt w' M t f m d fv V s ∧ Chg (TwoM t d) w w' := by
  have HN := Lib.hid (AdS.new_ h (itA k kind A n c dup))
  have HMM := Lib.hid h.hM
  subst hv
  clear h
  go_enter Tryz.func50, Tryz.ntmps50
  go_upto_region 1 with fail
  refine wp_gen _ HN.out ?_
  intro w2 hw2
  have S2 := Lib.hid hw2
  clear hw2 HN
  go_wp2_with (first
    | (refine wpList_row ItemT _ rfl w.heap.size rfl rfl ItemT _ (0, 0) _ S2.out.bx Tryz.underlying90 rfl rfl ?_)
    | (refine wpList_store_row rfl ItemT _ _ rfl (w.heap.size + 1) _ rfl rfl ItemT _ S2.out.bz (by kernel_rfl) rfl (itA_all _ _ _ _ _ _) ?_))
  obtain ⟨z0, z1, z2, z3, z4, z5, z6, z7, z8, z9⟩ := (S2.out.bz.row (ds := itA k kind A n c dup)).at10.1
  obtain ⟨hfs, hfk⟩ := S2.out.done (itA k kind A n c dup) HMM.out
  refine bodyPost_ret (v := .tuple #[.agg (itA k kind A n c dup), erO (some 22)]) (by simp [results, Tryz.results50, go_sem, erO, z0, z1, z2, z3, z4, z5, z6, z7, z8, z9]) rfl ⟨rfl, hfs, hfk⟩
set_option maxRecDepth 100000 in
set_option maxHeartbeats 1600000 in
theorem add_no1 (M : Nat → Prop) (t f m d : Nat) (fv : Value) (V : List Txt) (s : Sp.Sto) (k : Txt) (l : List Txt) (kind : Int) (A : Option Addr) (n c : Nat) (dup : Int) (v : Txt) (w : World) (h : StAt w M t f m d fv V s) (hv : 12 < v.length) :
    Calls Tryz.prog 50 #[.pointer (some ⟨t, 0, none⟩), .agg (itA k kind A n c dup), .string ⟨v.toArray⟩] w fun e w' => e = .returned (.tuple #[.agg (itA k kind A n c dup), erO (some 22)]) ∧ StAt w' M t f m d fv V s ∧ Chg (TwoM t d) w w' := by
  have HN := Lib.hid (AdS.new_ h (itA k kind A n c dup))
  have HMM := Lib.hid h.hM
  have hve : v.isEmpty = false := by
    rcases v with _ | _
    · simp at hv
    · rfl
  clear h
  go_enter Tryz.func50, Tryz.ntmps50
  go_upto_region 1 with fail
  refine wp_gen _ HN.out ?_
  intro w2 hw2
  have S2 := Lib.hid hw2
  clear hw2 HN
  go_wp2_with (first
    | (refine wpList_row ItemT _ rfl w.heap.size rfl rfl ItemT _ (0, 0) _ S2.out.bx Tryz.underlying90 rfl rfl ?_)
    | (refine wpList_store_row rfl ItemT _ _ rfl (w.heap.size + 1) _ rfl rfl ItemT _ S2.out.bz (by kernel_rfl) rfl (itA_all _ _ _ _ _ _) ?_))
  obtain ⟨z0, z1, z2, z3, z4, z5, z6, z7, z8, z9⟩ := (S2.out.bz.row (ds := itA k kind A n c dup)).at10.1
  obtain ⟨hfs, hfk⟩ := S2.out.done (itA k kind A n c dup) HMM.out
  refine bodyPost_ret (v := .tuple #[.agg (itA k kind A n c dup), erO (some 22)]) (by simp [results, Tryz.results50, go_sem, erO, z0, z1, z2, z3, z4, z5, z6, z7, z8, z9]) rfl ⟨rfl, hfs, hfk⟩
set_option maxRecDepth 100000 in
set_option maxHeartbeats 1600000 in
theorem add_has (M : Nat → Prop) (t f m d : Nat) (fv : Value) (V : List Txt) (s : Sp.Sto) (k : Txt) (l : List Txt) (kind : Int) (A : Option Addr) (n c : Nat) (dup : Int) (v : Txt) (w : World) (h : StAt w M t f m d fv V s) (hd : Sp.DuSt l s) (hi : DuI l kind A n dup w) (hne : l ≠ []) (h12 : l.length ≤ 12) (hv : 1 ≤ v.length ∧ v.length ≤ 12) (hno : Sp.hasV l v = true) :
    Calls Tryz.prog 50 #[.pointer (some ⟨t, 0, none⟩), .agg (itA k kind A n c dup), .string ⟨v.toArray⟩] w fun e w' => e = .returned (.tuple #[.agg (itA k kind A n c dup), erO (some 20)]) ∧ StAt w' M t f m d fv V s ∧ Chg (TwoM t d) w w' := by
  obtain rfl := hi.nz hne
  obtain rfl := hi.dp
  have HI0 := Lib.hid (fun W (hk : Chg (TwoM t d) w W) => hi.chg hk (h.not_kind (by decide)))
  have HN := Lib.hid (AdS.new_ h (itA k 3 A n c (Sp.duP l)))
  have HMM := Lib.hid h.hM
  have hve : v.isEmpty = false := by
    rcases v with _ | _
    · simp at hv
    · rfl
  clear h hi
  go_enter Tryz.func50, Tryz.ntmps50
  go_upto_region 1 with fail
  refine wp_gen _ HN.out ?_
  intro w2 hw2
  have S2 := Lib.hid hw2
  clear hw2 HN
  have hkd : w2.cell? ⟨w.heap.size, 1, none⟩ = some (.int .i64 3) := S2.out.bx.cell 1
  have HVC := Lib.hid (duVals_any _ t f m d fv V s k l 3 A n c (Sp.duP l) w2 S2.out.st hd (HI0.out _ S2.out.ck) hne (by omega))
  go_upto_region 8 with (first
    | (refine wpList_row ItemT _ rfl w.heap.size rfl rfl ItemT _ (0, 0) _ S2.out.bx Tryz.underlying90 rfl rfl ?_)
    | (go_at_call 51; refine HVC.out.mono ?_; rintro e w3 ⟨A1, cA1, rfl, ho3, hb3⟩; have HO := Lib.hid ho3; have HB3 := Lib.hid hb3; clear ho3 hb3))
  have hpl := Sp.plc_le l v
  have S3 := Lib.hid (S2.out.go HB3.out)
  have HT3 := Lib.hid (own_rowT (N := NoM) HO.out (by omega) (fun _ _ _ h => h))
  have HPC := Lib.hid (place_any l v A1 cA1 w3 HT3.out)
  rw [hno] at HPC
  go_upto_region 9 with (go_at_call 81; refine HPC.out.mono ?_; rintro e w4 ⟨rfl, hb4⟩; have HB4 := Lib.hid hb4; clear hb4)
  have hB24 := HB3.out.trans (HB4.out.mono HB3.out.size)
  have HO4 := Lib.hid (own_chg2 (S := NoM) HO.out (Chg.of_below HB4.out) (fun _ _ h => h))
  have S4 := Lib.hid (S3.out.go HB4.out)
  clear HO S3 HT3 HPC HB3 HB4 HVC hkd
  go_wp2_with (first
    | (refine wpList_row ItemT _ rfl w.heap.size rfl rfl ItemT _ (0, 0) _ S4.out.bx Tryz.underlying90 rfl rfl ?_)
    | (refine wpList_store_row rfl ItemT _ _ rfl (w.heap.size + 1) _ rfl rfl ItemT _ S4.out.bz (by kernel_rfl) rfl (itA_all _ _ _ _ _ _) ?_))
  obtain ⟨z0, z1, z2, z3, z4, z5, z6, z7, z8, z9⟩ := (S4.out.bz.row (ds := itA k 3 A n c (Sp.duP l))).at10.1
  obtain ⟨hfs, hfk⟩ := S4.out.done (itA k 3 A n c (Sp.duP l)) HMM.out
  refine bodyPost_ret (v := .tuple #[.agg (itA k 3 A n c (Sp.duP l)), erO (some 20)]) (by simp [results, Tryz.results50, go_sem, erO, z0, z1, z2, z3, z4, z5, z6, z7, z8, z9]) rfl ⟨rfl, hfs, hfk⟩
set_option maxRecDepth 100000 in
set_option maxHeartbeats 1600000 in
theorem add_full (M : Nat → Prop) (t f m d : Nat) (fv : Value) (V : List Txt) (s : Sp.Sto) (k : Txt) (l : List Txt) (kind : Int) (A : Option Addr) (n c : Nat) (dup : Int) (v : Txt) (w : World) (h : StAt w M t f m d fv V s) (hd : Sp.DuSt l s) (hi : DuI l kind A n dup w) (hne : l ≠ []) (h12 : l.length ≤ 12) (hv : 1 ≤ v.length ∧ v.length ≤ 12) (hful : 12 ≤ l.length) (hno : Sp.hasV l v = false) :
    Calls Tryz.prog 50 #[.pointer (some ⟨t, 0, none⟩), .agg (itA k kind A n c dup), .string ⟨v.toArray⟩] w fun e w' => e = .returned (.tuple #[.agg (itA k kind A n c dup), erO (some 28)]) ∧ StAt w' M t f m d fv V s ∧ Chg (TwoM t d) w w' := by
  obtain rfl := hi.nz hne
  obtain rfl := hi.dp
  have HI0 := Lib.hid (fun W (hk : Chg (TwoM t d) w W) => hi.chg hk (h.not_kind (by decide)))
  have HN := Lib.hid (AdS.new_ h (itA k 3 A n c (Sp.duP l)))
  have HMM := Lib.hid h.hM
  have hve : v.isEmpty = false := by
    rcases v with _ | _
    · simp at hv
    · rfl
  clear h hi
  go_enter Tryz.func50, Tryz.ntmps50
  go_upto_region 1 with fail
  refine wp_gen _ HN.out ?_
  intro w2 hw2
  have S2 := Lib.hid hw2
  clear hw2 HN
  have hkd : w2.cell? ⟨w.heap.size, 1, none⟩ = some (.int .i64 3) := S2.out.bx.cell 1
  have HVC := Lib.hid (duVals_any _ t f m d fv V s k l 3 A n c (Sp.duP l) w2 S2.out.st hd (HI0.out _ S2.out.ck) hne (by omega))
  go_upto_region 8 with (first
    | (refine wpList_row ItemT _ rfl w.heap.size rfl rfl ItemT _ (0, 0) _ S2.out.bx Tryz.underlying90 rfl rfl ?_)
    | (go_at_call 51; refine HVC.out.mono ?_; rintro e w3 ⟨A1, cA1, rfl, ho3, hb3⟩; have HO := Lib.hid ho3; have HB3 := Lib.hid hb3; clear ho3 hb3))
  have hpl := Sp.plc_le l v
  have S3 := Lib.hid (S2.out.go HB3.out)
  have HT3 := Lib.hid (own_rowT (N := NoM) HO.out (by omega) (fun _ _ _ h => h))
  have HPC := Lib.hid (place_any l v A1 cA1 w3 HT3.out)
  rw [hno] at HPC
  go_upto_region 9 with (go_at_call 81; refine HPC.out.mono ?_; rintro e w4 ⟨rfl, hb4⟩; have HB4 := Lib.hid hb4; clear hb4)
  have hB24 := HB3.out.trans (HB4.out.mono HB3.out.size)
  have HO4 := Lib.hid (own_chg2 (S := NoM) HO.out (Chg.of_below HB4.out) (fun _ _ h => h))
  have S4 := Lib.hid (S3.out.go HB4.out)
  clear HO S3 HT3 HPC HB3 HB4 HVC hkd
  go_wp2_with (first
    | (refine wpList_row ItemT _ rfl w.heap.size rfl rfl ItemT _ (0, 0) _ S4.out.bx Tryz.underlying90 rfl rfl ?_)
    | (refine wpList_store_row rfl ItemT _ _ rfl (w.heap.size + 1) _ rfl rfl ItemT _ S4.out.bz (by kernel_rfl) rfl (itA_all _ _ _ _ _ _) ?_))
  obtain ⟨z0, z1, z2, z3, z4, z5, z6, z7, z8, z9⟩ := (S4.out.bz.row (ds := itA k 3 A n c (Sp.duP l))).at10.1
  obtain ⟨hfs, hfk⟩ := S4.out.done (itA k 3 A n c (Sp.duP l)) HMM.out
  refine bodyPost_ret (v := .tuple #[.agg (itA k 3 A n c (Sp.duP l)), erO (some 28)]) (by simp [results, Tryz.results50, go_sem, erO, z0, z1, z2, z3, z4, z5, z6, z7, z8, z9]) rfl ⟨rfl, hfs, hfk⟩
set_option maxRecDepth 100000 in
set_option maxHeartbeats 1600000 in
theorem add_first (M : Nat → Prop) (t f m d : Nat) (fv : Value) (V : List Txt) (s : Sp.Sto) (k : Txt) (kind : Int) (A : Option Addr) (n c : Nat) (dup : Int) (v : Txt) (w : World) (h : StAt w M t f m d fv V s) (hd : Sp.DuSt [] s) (hi : DuI [] kind A n dup w) (hv : 1 ≤ v.length ∧ v.length ≤ 12) :
    Calls Tryz.prog 50 #[.pointer (some ⟨t, 0, none⟩), .agg (itA k kind A n c dup), .string ⟨v.toArray⟩] w fun e w' => ∃ x, e = .returned (.tuple #[x, .nilIface]) ∧ DuR M t f m d fv V k [v] w' x ∧ Chg (TwoM t d) w w' := by
  obtain rfl := hi.z rfl
  have HN := Lib.hid (AdS.new_ h (itA k 0 A n c dup))
  have HMM := Lib.hid h.hM
  have hve : v.isEmpty = false := by
    rcases v with _ | _
    · simp at hv
    · rfl
  clear h hi
  go_enter Tryz.func50, Tryz.ntmps50
  go_upto_region 1 with fail
  refine wp_gen _ HN.out ?_
  intro w2 hw2
  have S2 := Lib.hid hw2
  clear hw2 HN
  have hkd : w2.cell? ⟨w.heap.size, 1, none⟩ = some (.int .i64 0) := S2.out.bx.cell 1
  have hky : w2.cell? ⟨w.heap.size, 0, none⟩ = some (.string ⟨k.toArray⟩) := S2.out.bx.cell 0
  have S5 := Lib.hid (S2.out.go ((Below.refl _ _).alloc (Nat.le_refl _) (.cells #[.string ⟨v.toArray⟩] StrT)))
  have hbv := Blk.new w2 StrT #[.string ⟨v.toArray⟩]
  have HBV := Lib.hid hbv
  have HT := Lib.hid (show TxK (w2.alloc (.cells #[.string ⟨v.toArray⟩] StrT)) (some ⟨w2.heap.size, 0, none⟩) [v] from
    ⟨⟨by simp, .inr ⟨w2.heap.size, 0, rfl, hbv.lt, fun h => h, fun j u hu => by
      rw [Nat.zero_add]
      refine (hbv.cell j).trans ?_
      rcases j with _ | j
      · exact hu
      · simp at hu⟩⟩, fun b off e _ => by
      simp only [Option.some.injEq, Addr.mk.injEq] at e
      rw [← e.1]
      exact ⟨_, hbv⟩⟩)
  clear hbv
  go_wp2_with (refine wpList_store_row rfl ItemT _ _ rfl (w.heap.size + 1) _ rfl rfl ItemT _ S5.out.bz (by kernel_rfl) rfl (itA_all k 3 (some ⟨w2.heap.size, 0, none⟩) 1 1 0) ?_)
  obtain ⟨z0, z1, z2, z3, z4, z5, z6, z7, z8, z9⟩ := (S5.out.bz.row (ds := itA k 3 (some ⟨w2.heap.size, 0, none⟩) 1 1 0)).at10.1
  obtain ⟨hfs, hfk⟩ := S5.out.done (itA k 3 (some ⟨w2.heap.size, 0, none⟩) 1 1 0) HMM.out
  have hI : DuI [v] 3 (some ⟨w2.heap.size, 0, none⟩) 1 0 (w2.alloc (.cells #[.string ⟨v.toArray⟩] StrT)) := ⟨fun e => (by cases e), fun _ => rfl, rfl, fun _ => ⟨rfl, HT.out⟩, fun e => by simp at e⟩
  have hD : Sp.DuSt [v] s := ⟨hd.ok, hd.most, fun _ => hd.few (by simp), fun e => by simp at e⟩
  refine bodyPost_ret (v := .tuple #[.agg (itA k 3 (some ⟨w2.heap.size, 0, none⟩) 1 1 0), .nilIface]) (by simp [results, Tryz.results50, go_sem, z0, z1, z2, z3, z4, z5, z6, z7, z8, z9]) rfl ⟨_, rfl, ⟨3, _, 1, 1, 0, s, rfl, hI.row S5.out.bz, hD, hfs⟩, hfk⟩
end Go.Proofs.YtkcfmjlcijhieaaGreat
namespace Go.Proofs.YtkcfmjlcijhieaaGreat
open Go.RowKit
attribute [local go_sem low] mk_extract
attribute [local go_sem] After.cell After.frozen mk_extract_end ByteArray.mk_append_mk
set_option maxRecDepth 100000 in
set_option maxHeartbeats 1600000 in
theorem take_none (M : Nat → Prop) (t f m d : Nat) (fv : Value) (V : List Txt) (s : Sp.Sto) (k : Txt) (l : List Txt) (kind : Int) (A : Option Addr) (n c : Nat) (dup : Int) (v : Txt) (w : World) (h : StAt w M t f m d fv V s) (hd : Sp.DuSt l s) (hi : DuI l kind A n dup w) (hne : l ≠ []) (h12 : l.length ≤ 12) (hno : Sp.hasV l v = false) :
    Calls Tryz.prog 52 #[.pointer (some ⟨t, 0, none⟩), .agg (itA k kind A n c dup), .string ⟨v.toArray⟩] w fun e w' => e = .returned (.tuple #[.agg (itA k kind A n c dup), erO (some 21)]) ∧ StAt w' M t f m d fv V s ∧ Chg (TwoM t d) w w' := by
  obtain rfl := hi.nz hne
  obtain rfl := hi.dp
  have HI0 := Lib.hid (fun W (hk : Chg (TwoM t d) w W) => hi.chg hk (h.not_kind (by decide)))
  have HN := Lib.hid (AdS.new_ h (itA k 3 A n c (Sp.duP l)))
  have HMM := Lib.hid h.hM
  clear h hi
  go_enter Tryz.func52, Tryz.ntmps52
  go_upto_region 1 with fail
  refine wp_gen _ HN.out ?_
  intro w2 hw2
  have S2 := Lib.hid hw2
  clear hw2 HN
  have hkd : w2.cell? ⟨w.heap.size, 1, none⟩ = some (.int .i64 3) := S2.out.bx.cell 1
  have HVC := Lib.hid (duVals_any _ t f m d fv V s k l 3 A n c (Sp.duP l) w2 S2.out.st hd (HI0.out _ S2.out.ck) hne (by omega))
  go_upto_region 4 with (first
    | (refine wpList_row ItemT _ rfl w.heap.size rfl rfl ItemT _ (0, 0) _ S2.out.bx Tryz.underlying90 rfl rfl ?_)
    | (go_at_call 51; refine HVC.out.mono ?_; rintro e w3 ⟨A1, cA1, rfl, ho3, hb3⟩; have HO := Lib.hid ho3; have HB3 := Lib.hid hb3; clear ho3 hb3))
  have hpl := Sp.plc_le l v
  have S3 := Lib.hid (S2.out.go HB3.out)
  have HT3 := Lib.hid (own_rowT (N := NoM) HO.out (by omega) (fun _ _ _ h => h))
  have HPC := Lib.hid (place_any l v A1 cA1 w3 HT3.out)
  rw [hno] at HPC
  go_upto_region 5 with (go_at_call 81; refine HPC.out.mono ?_; rintro e w4 ⟨rfl, hb4⟩; have HB4 := Lib.hid hb4; clear hb4)
  have hB24 := HB3.out.trans (HB4.out.mono HB3.out.size)
  have HO4 := Lib.hid (own_chg2 (S := NoM) HO.out (Chg.of_below HB4.out) (fun _ _ h => h))
  have S4 := Lib.hid (S3.out.go HB4.out)
  clear HO S3 HT3 HPC HB3 HB4 HVC hkd
  go_wp2_with (first
    | (refine wpList_row ItemT _ rfl w.heap.size rfl rfl ItemT _ (0, 0) _ S4.out.bx Tryz.underlying90 rfl rfl ?_)
    | (refine wpList_store_row rfl ItemT _ _ rfl (w.heap.size + 1) _ rfl rfl ItemT _ S4.out.bz (by kernel_rfl) rfl (itA_all _ _ _ _ _ _) ?_))
  obtain ⟨z0, z1, z2, z3, z4, z5, z6, z7, z8, z9⟩ := (S4.out.bz.row (ds := itA k 3 A n c (Sp.duP l))).at10.1
  obtain ⟨hfs, hfk⟩ := S4.out.done (itA k 3 A n c (Sp.duP l)) HMM.out
  refine bodyPost_ret (v := .tuple #[.agg (itA k 3 A n c (Sp.duP l)), erO (some 21)]) (by simp [results, Tryz.results52, go_sem, erO, z0, z1, z2, z3, z4, z5, z6, z7, z8, z9]) rfl ⟨rfl, hfs, hfk⟩
set_option maxRecDepth 100000 in
set_option maxHeartbeats 1600000 in
theorem take_last (M : Nat → Prop) (t f m d : Nat) (fv : Value) (V : List Txt) (s : Sp.Sto) (k : Txt) (l : List Txt) (kind : Int) (A : Option Addr) (n c : Nat) (dup : Int) (v : Txt) (w : World) (h : StAt w M t f m d fv V s) (hd : Sp.DuSt l s) (hi : DuI l kind A n dup w) (hne : l ≠ []) (h12 : l.length ≤ 12) (hone : l.length = 1) (hno : Sp.hasV l v = true) :
    Calls Tryz.prog 52 #[.pointer (some ⟨t, 0, none⟩), .agg (itA k kind A n c dup), .string ⟨v.toArray⟩] w fun e w' => ∃ x, e = .returned (.tuple #[x, .nilIface]) ∧ DuR M t f m d fv V k [] w' x ∧ Chg (TwoM t d) w w' := by
  obtain rfl := hi.nz hne
  obtain rfl := hi.dp
  have HI0 := Lib.hid (fun W (hk : Chg (TwoM t d) w W) => hi.chg hk (h.not_kind (by decide)))
  have HN := Lib.hid (AdS.new_ h (itA k 3 A n c (Sp.duP l)))
  have HMM := Lib.hid h.hM
  have HONE := Lib.hid hone
  clear h hi hone
  go_enter Tryz.func52, Tryz.ntmps52
  go_upto_region 1 with fail
  refine wp_gen _ HN.out ?_
  intro w2 hw2
  have S2 := Lib.hid hw2
  clear hw2 HN
  have hkd : w2.cell? ⟨w.heap.size, 1, none⟩ = some (.int .i64 3) := S2.out.bx.cell 1
  have HVC := Lib.hid (duVals_any _ t f m d fv V s k l 3 A n c (Sp.duP l) w2 S2.out.st hd (HI0.out _ S2.out.ck) hne (by omega))
  go_upto_region 4 with (first
    | (refine wpList_row ItemT _ rfl w.heap.size rfl rfl ItemT _ (0, 0) _ S2.out.bx Tryz.underlying90 rfl rfl ?_)
    | (go_at_call 51; refine HVC.out.mono ?_; rintro e w3 ⟨A1, cA1, rfl, ho3, hb3⟩; have HO := Lib.hid ho3; have HB3 := Lib.hid hb3; clear ho3 hb3))
  have hpl := Sp.plc_le l v
  have S3 := Lib.hid (S2.out.go HB3.out)
  have HT3 := Lib.hid (own_rowT (N := NoM) HO.out (by omega) (fun _ _ _ h => h))
  have HPC := Lib.hid (place_any l v A1 cA1 w3 HT3.out)
  rw [hno] at HPC
  go_upto_region 5 with (go_at_call 81; refine HPC.out.mono ?_; rintro e w4 ⟨rfl, hb4⟩; have HB4 := Lib.hid hb4; clear hb4)
  have hB24 := HB3.out.trans (HB4.out.mono HB3.out.size)
  have HO4 := Lib.hid (own_chg2 (S := NoM) HO.out (Chg.of_below HB4.out) (fun _ _ h => h))
  have S4 := Lib.hid (S3.out.go HB4.out)
  clear HO S3 HT3 HPC HB3 HB4 HVC hkd
  have hone := HONE.out
  have hky : w4.cell? ⟨w.heap.size, 0, none⟩ = some (.string ⟨k.toArray⟩) := S4.out.bx.cell 0
  go_wp2_with (refine wpList_store_row rfl ItemT _ _ rfl (w.heap.size + 1) _ rfl rfl ItemT _ S4.out.bz (by kernel_rfl) rfl (itA_all k 0 none 0 0 0) ?_)
  obtain ⟨z0, z1, z2, z3, z4, z5, z6, z7, z8, z9⟩ := (S4.out.bz.row (ds := itA k 0 none 0 0 0)).at10.1
  obtain ⟨hfs, hfk⟩ := S4.out.done (itA k 0 none 0 0 0) HMM.out
  have hD : Sp.DuSt [] s := ⟨hd.ok, hd.most, fun _ => hd.few (by omega), fun e => by simp at e⟩
  refine bodyPost_ret (v := .tuple #[.agg (itA k 0 none 0 0 0), .nilIface]) (by simp [results, Tryz.results52, go_sem, z0, z1, z2, z3, z4, z5, z6, z7, z8, z9]) rfl ⟨_, rfl, ⟨0, none, 0, 0, 0, s, rfl, DuI.nil, hD, hfs⟩, hfk⟩
set_option maxRecDepth 100000 in
set_option maxHeartbeats 1600000 in
theorem take_more (M : Nat → Prop) (t f m d : Nat) (fv : Value) (V : List Txt) (s : Sp.Sto) (k : Txt) (l : List Txt) (kind : Int) (A : Option Addr) (n c : Nat) (dup : Int) (v : Txt) (w : World) (h : StAt w M t f m d fv V s) (hV : V.length ≤ 400) (hd : Sp.DuSt l s) (hi : DuI l kind A n dup w) (hne : l ≠ []) (h12 : l.length ≤ 12) (hs : Sp.SrtV l) (hone : 1 < l.length) (hno : Sp.hasV l v = true) :
    Calls Tryz.prog 52 #[.pointer (some ⟨t, 0, none⟩), .agg (itA k kind A n c dup), .string ⟨v.toArray⟩] w fun e w' => ∃ x, e = .returned (.tuple #[x, .nilIface]) ∧ DuR M t f m d fv V k (l.eraseIdx (Sp.plc l v)) w' x ∧ Chg (TwoM t d) w w' := by
  obtain rfl := hi.nz hne
  obtain rfl := hi.dp
  have HI0 := Lib.hid (fun W (hk : Chg (TwoM t d) w W) => hi.chg hk (h.not_kind (by decide)))
  have HN := Lib.hid (AdS.new_ h (itA k 3 A n c (Sp.duP l)))
  have HMM := Lib.hid h.hM
  have hplt : Sp.plc l v < l.length := by
    unfold Sp.hasV at hno
    rw [Bool.and_eq_true] at hno
    exact of_decide_eq_true hno.1
  clear h hi
  go_enter Tryz.func52, Tryz.ntmps52
  go_upto_region 1 with fail
  refine wp_gen _ HN.out ?_
  intro w2 hw2
  have S2 := Lib.hid hw2
  clear hw2 HN
  have hkd : w2.cell? ⟨w.heap.size, 1, none⟩ = some (.int .i64 3) := S2.out.bx.cell 1
  have HVC := Lib.hid (duVals_any _ t f m d fv V s k l 3 A n c (Sp.duP l) w2 S2.out.st hd (HI0.out _ S2.out.ck) hne (by omega))
  go_upto_region 4 with (first
    | (refine wpList_row ItemT _ rfl w.heap.size rfl rfl ItemT _ (0, 0) _ S2.out.bx Tryz.underlying90 rfl rfl ?_)
    | (go_at_call 51; refine HVC.out.mono ?_; rintro e w3 ⟨A1, cA1, rfl, ho3, hb3⟩; have HO := Lib.hid ho3; have HB3 := Lib.hid hb3; clear ho3 hb3))
  have hpl := hplt
  have S3 := Lib.hid (S2.out.go HB3.out)
  have HT3 := Lib.hid (own_rowT (N := NoM) HO.out (by omega) (fun _ _ _ h => h))
  have HPC := Lib.hid (place_any l v A1 cA1 w3 HT3.out)
  rw [hno] at HPC
  go_upto_region 9 with (go_at_call 81; refine HPC.out.mono ?_; rintro e w4 ⟨rfl, hb4⟩; have HB4 := Lib.hid hb4; clear hb4)
  have hB24 := HB3.out.trans (HB4.out.mono HB3.out.size)
  have HO4 := Lib.hid (own_chg2 (S := NoM) HO.out (Chg.of_below HB4.out) (fun _ _ h => h))
  have S4 := Lib.hid (S3.out.go HB4.out)
  clear HO S3 HT3 HPC HB3 HB4 HVC hkd
  obtain ⟨w3', rfl⟩ : ∃ W, W = w4 := ⟨_, rfl⟩
  have hz23 : w2.heap.size ≤ w3'.heap.size := hB24.size
  have hx2 : w.heap.size < w2.heap.size := S2.out.bx.lt
  refine wp_region_in 12 7 (fun W => Below w2.heap.size w3' W) (by kernel_rfl) rfl ?_
  refine wpIn_takeV 0 [7] (.pointer (some ⟨t, 0, none⟩)) rfl (by kernel_rfl) (by kernel_rfl) (by kernel_rfl) (by kernel_rfl) (by kernel_rfl) (by kernel_rfl) (by kernel_rfl) (by rfl) (fun _ _ _ h => h) (Below.refl w2.heap.size w3').drew (fun W hW => by go_simp; all_goals first | with_reducible rfl | rfl | omega) ?_
  try simp only [List.getElem_toArray, List.getElem_cons_zero, List.getElem_cons_succ, Act.put, List.setIfInBounds_toArray, List.set_cons_succ, List.set_cons_zero]
  refine wpIn_takeV 1 [7] (.agg (itA k 3 A n c (Sp.duP l))) rfl (by kernel_rfl) (by kernel_rfl) (by kernel_rfl) (by kernel_rfl) (by kernel_rfl) (by kernel_rfl) (by kernel_rfl) (by rfl) (fun _ _ _ h => h) (Below.refl w2.heap.size w3').drew (fun W hW => exec_item _ rfl w.heap.size rfl _ (S4.out.bx.below hW hx2) rfl) ?_
  try simp only [List.getElem_toArray, List.getElem_cons_zero, List.getElem_cons_succ, Act.put, List.setIfInBounds_toArray, List.set_cons_succ, List.set_cons_zero]
  refine wpIn_takeV 2 [6, 7] (.slice A1 l.length cA1) rfl (by kernel_rfl) (by kernel_rfl) (by kernel_rfl) (by kernel_rfl) (by kernel_rfl) (by kernel_rfl) (by kernel_rfl) (by rfl) (fun _ _ _ h => h) (Below.refl w2.heap.size w3').drew (fun W hW => by go_simp; all_goals first | with_reducible rfl | rfl | omega) ?_
  try simp only [List.getElem_toArray, List.getElem_cons_zero, List.getElem_cons_succ, Act.put, List.setIfInBounds_toArray, List.set_cons_succ, List.set_cons_zero]
  refine wpIn_takeV 3 [6, 7] (.int .i64 (Sp.plc l v : Int)) rfl (by kernel_rfl) (by kernel_rfl) (by kernel_rfl) (by kernel_rfl) (by kernel_rfl) (by kernel_rfl) (by kernel_rfl) (by rfl) (fun _ _ _ h => h) (Below.refl w2.heap.size w3').drew (fun W hW => by go_simp; all_goals first | with_reducible rfl | rfl | omega) ?_
  try simp only [List.getElem_toArray, List.getElem_cons_zero, List.getElem_cons_succ, Act.put, List.setIfInBounds_toArray, List.set_cons_succ, List.set_cons_zero]
  refine wpIn_takeV 4 [5, 6, 7] (.int .i64 (Sp.plc l v : Int)) rfl (by kernel_rfl) (by kernel_rfl) (by kernel_rfl) (by kernel_rfl) (by kernel_rfl) (by kernel_rfl) (by kernel_rfl) (by rfl) (fun _ _ _ h => h) (Below.refl w2.heap.size w3').drew (fun W hW => by go_simp; all_goals first | with_reducible rfl | rfl | omega) ?_
  try simp only [List.getElem_toArray, List.getElem_cons_zero, List.getElem_cons_succ, Act.put, List.setIfInBounds_toArray, List.set_cons_succ, List.set_cons_zero]
  refine wpIn_takeV 5 [6, 7] (.int .i64 ((Sp.plc l v : Int) + 1)) rfl (by kernel_rfl) (by kernel_rfl) (by kernel_rfl) (by kernel_rfl) (by kernel_rfl) (by kernel_rfl) (by kernel_rfl) (by rfl) (fun _ _ _ h => h) (Below.refl w2.heap.size w3').drew (fun W hW => by have hw : IntKind.i64.wrap ((Sp.plc l v : Int) + 1) = (Sp.plc l v : Int) + 1 := (by simp only [IntKind.wrap_i64]; omega); go_simp; all_goals first | with_reducible rfl | rfl | omega) ?_
  try simp only [List.getElem_toArray, List.getElem_cons_zero, List.getElem_cons_succ, Act.put, List.setIfInBounds_toArray, List.set_cons_succ, List.set_cons_zero]
  refine wpIn_one 6 rfl (by kernel_rfl) (fun _ => (Below.refl w2.heap.size w3').drew) (by rfl) ?_
  go_simp
  refine (delS_any (B := w2.heap.size) (Sp.plc l v) hpl (own_chg2 (S := NoM) HO4.out (Chg.of_below (Below.refl w3'.heap.size w3').drew) (fun _ _ h => h)) (by show w2.heap.size ≤ w3'.heap.size; omega)).mono ?_
  rintro e w6 ⟨vr, rfl, ho6, hb6⟩
  obtain ⟨A6, c6, rfl⟩ := own_slice ho6
  have hB6 : Below w2.heap.size w3' w6 := Below.trans (Below.refl w2.heap.size w3').drew hb6
  have hlen6 : (l.eraseIdx (Sp.plc l v)).length = l.length - 1 := by rw [List.length_eraseIdx, if_pos hpl]
  have S6 := Lib.hid (S2.out.go (hB24.trans hB6))
  have HT6 := Lib.hid (own_tk ho6 (by omega))
  clear ho6 hb6
  try simp only [List.getElem_toArray, List.getElem_cons_zero, List.getElem_cons_succ, Act.put, List.setIfInBounds_toArray, List.set_cons_succ, List.set_cons_zero]
  refine wpIn_one 7 rfl (by kernel_rfl) (fun _ => hB6) (by rfl) ?_
  go_simp
  rw [← hlen6]
  refine (with_any _ t f m d fv V s k l 3 A n c (l.eraseIdx (Sp.plc l v)) A6 c6 w6 S6.out.st hV hd (by intro e; have := congrArg List.length e; rw [hlen6] at this; simp at this; omega) (Sp.era_srt hs _) (by rw [hlen6]; omega) HT6.out).mono ?_
  rintro e w7 ⟨vv, rfl, ⟨kind', A', n', c', dup', s', rfl, hI', hD', hst'⟩, hk7⟩
  have S7 := Lib.hid (S6.out.turn hst' hk7)
  have HI := Lib.hid hI'
  have HD := Lib.hid hD'
  clear hst' hk7 hI' hD' S6
  try simp only [List.getElem_toArray, List.getElem_cons_zero, List.getElem_cons_succ, Act.put, List.setIfInBounds_toArray, List.set_cons_succ, List.set_cons_zero]
  refine wpIn_two 8 9 rfl rfl (by kernel_rfl) (fun h => Bool.noConfusion (show true = false from h)) (by rfl) (by rfl) ?_ ?_
  · go_simp
    try simp only [List.getElem_toArray, List.getElem_cons_zero, List.getElem_cons_succ, Act.put, List.setIfInBounds_toArray, List.set_cons_succ, List.set_cons_zero]
    refine wpIn_one 9 rfl (by kernel_rfl) (fun h => Bool.noConfusion (show true = false from h)) (by rfl) ?_
    go_simp
    try simp only [List.getElem_toArray, List.getElem_cons_zero, List.getElem_cons_succ, Act.put, List.setIfInBounds_toArray, List.set_cons_succ, List.set_cons_zero]
    refine wpIn_one 10 rfl (by kernel_rfl) (fun h => Bool.noConfusion (show true = false from h)) (by rfl) ?_
    refine wp_store_row ItemT _ _ rfl (w.heap.size + 1) (itA k kind' A' n' c' dup') rfl rfl ItemT _ S7.out.bz (by kernel_rfl) rfl (itA_all _ _ _ _ _ _) ?_
    try simp only [List.getElem_toArray, List.getElem_cons_zero, List.getElem_cons_succ, Act.put, List.setIfInBounds_toArray, List.set_cons_succ, List.set_cons_zero]
    refine wpIn_one 11 rfl (by kernel_rfl) (fun h => Bool.noConfusion (show true = false from h)) (by rfl) ?_
    go_simp
    refine wpIn_done (by kernel_rfl) (by kernel_rfl) ?_ _
    simp only [Exit.then]
    go_wp2_with fail
    obtain ⟨z0, z1, z2, z3, z4, z5, z6, z7, z8, z9⟩ := (S7.out.bz.row (ds := itA k kind' A' n' c' dup')).at10.1
    obtain ⟨hfs, hfk⟩ := S7.out.done (itA k kind' A' n' c' dup') HMM.out
    refine bodyPost_ret (v := .tuple #[.agg (itA k kind' A' n' c' dup'), .nilIface]) (by simp [results, Tryz.results52, go_sem, z0, z1, z2, z3, z4, z5, z6, z7, z8, z9]) rfl ⟨_, rfl, ⟨kind', A', n', c', dup', s', rfl, HI.out.row S7.out.bz, HD.out, hfs⟩, hfk⟩
  · go_simp
    try simp only [List.getElem_toArray, List.getElem_cons_zero, List.getElem_cons_succ, Act.put, List.setIfInBounds_toArray, List.set_cons_succ, List.set_cons_zero]
    refine wpIn_one 8 rfl (by kernel_rfl) (fun h => Bool.noConfusion (show true = false from h)) (by rfl) ?_
    go_simp
    try simp only [List.getElem_toArray, List.getElem_cons_zero, List.getElem_cons_succ, Act.put, List.setIfInBounds_toArray, List.set_cons_succ, List.set_cons_zero]
    refine wpIn_one 10 rfl (by kernel_rfl) (fun h => Bool.noConfusion (show true = false from h)) (by rfl) ?_
    refine wp_store_row ItemT _ _ rfl (w.heap.size + 1) (itA k kind' A' n' c' dup') rfl rfl ItemT _ S7.out.bz (by kernel_rfl) rfl (itA_all _ _ _ _ _ _) ?_
    try simp only [List.getElem_toArray, List.getElem_cons_zero, List.getElem_cons_succ, Act.put, List.setIfInBounds_toArray, List.set_cons_succ, List.set_cons_zero]
    refine wpIn_one 11 rfl (by kernel_rfl) (fun h => Bool.noConfusion (show true = false from h)) (by rfl) ?_
    go_simp
    refine wpIn_done (by kernel_rfl) (by kernel_rfl) ?_ _
    simp only [Exit.then]
    go_wp2_with fail
    obtain ⟨z0, z1, z2, z3, z4, z5, z6, z7, z8, z9⟩ := (S7.out.bz.row (ds := itA k kind' A' n' c' dup')).at10.1
    obtain ⟨hfs, hfk⟩ := S7.out.done (itA k kind' A' n' c' dup') HMM.out
    refine bodyPost_ret (v := .tuple #[.agg (itA k kind' A' n' c' dup'), .nilIface]) (by simp [results, Tryz.results52, go_sem, z0, z1, z2, z3, z4, z5, z6, z7, z8, z9]) rfl ⟨_, rfl, ⟨kind', A', n', c', dup', s', rfl, HI.out.row S7.out.bz, HD.out, hfs⟩, hfk⟩
end Go.Proofs.YtkcfmjlcijhieaaGreat
