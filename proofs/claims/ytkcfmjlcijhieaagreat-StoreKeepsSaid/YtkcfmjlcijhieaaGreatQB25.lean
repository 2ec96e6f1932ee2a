/- The known store of law 8. A file of no pages; a store over it. New numbers, in plain Lean. -/
import Derived.Test.YtkcfmjlcijhieaaGreatQB15
import Derived.Test.YtkcfmjlcijhieaaGreatQB16
import Derived.Test.YtkcfmjlcijhieaaGreatQB20
import Derived.Test.YtkcfmjlcijhieaaGreatQB23
import Derived.Test.YtkcfmjlcijhieaaGreatQB24
import Derived.Maps.Own
set_option linter.unusedSimpArgs false
set_option linter.unusedVariables false
namespace Go.Proofs.YtkcfmjlcijhieaaGreat
open Go.RowKit
attribute [local go_sem low] mk_extract
attribute [local go_sem] After.cell After.frozen mk_extract_end ByteArray.mk_append_mk
/-- The known store, so far. -/
structure KnS (w : World) (M : Nat → Prop) (t f m d : Nat) (fv : Value) (s : Sp.Sto) (W : World) : Prop where
  st : StAt W M t f m d fv Sp.kV s
  ok : s.Ok
  hb : Below w.heap.size w W
  ht : w.heap.size ≤ t ∧ w.heap.size ≤ d
theorem KnS.step {w W W' : World} {M : Nat → Prop} {t f m d : Nat} {fv : Value} {s s' : Sp.Sto} (h : KnS w M t f m d fv s W) (hs : StAt W' M t f m d fv Sp.kV s') (ho : s'.Ok) (hk : Chg (TwoM t d) W W') : KnS w M t f m d fv s' W' :=
  ⟨hs, ho, h.hb.trans (hk.below h.hb.size fun k hk' e => by
    have := h.ht
    rcases e with rfl | rfl <;> omega), h.ht⟩
theorem KnS.go {w W W' : World} {M : Nat → Prop} {t f m d : Nat} {fv : Value} {s : Sp.Sto} (h : KnS w M t f m d fv s W) (hb : Below W.heap.size W W') : KnS w M t f m d fv s W' :=
  ⟨h.st.go hb, h.ok, h.hb.trans (hb.mono h.hb.size), h.ht⟩
theorem kV_txts (W : World) : Txts (W.alloc (.cells #[.string ⟨#[]⟩, .string ⟨#[]⟩, .string ⟨(Sp.bytes (Sp.lfPg [97])).toArray⟩, .string ⟨(Sp.bytes (Sp.lfPg [98])).toArray⟩] StrT)) NoM (some ⟨W.heap.size, 0, none⟩) Sp.kV := by
  have hb := Blk.new W StrT #[.string ⟨#[]⟩, .string ⟨#[]⟩, .string ⟨(Sp.bytes (Sp.lfPg [97])).toArray⟩, .string ⟨(Sp.bytes (Sp.lfPg [98])).toArray⟩]
  refine ⟨by simp [Sp.kV], .inr ⟨W.heap.size, 0, rfl, hb.lt, fun h => h, fun j v hv => ?_⟩⟩
  rw [Nat.zero_add]
  refine (hb.cell j).trans ?_
  rcases j with _ | _ | _ | _ | j
  · exact hv
  · exact hv
  · exact hv
  · exact hv
  · simp [Sp.kV] at hv
theorem three_iv (W : World) : IV (W.alloc (.cells #[.int .i64 3] IntT)) (.slice (some ⟨W.heap.size, 0, none⟩) 1 1) [3] := by
  have hb := Blk.new W IntT #[.int .i64 3]
  refine ⟨⟨_, 1, rfl, .inr ⟨W.heap.size, 0, rfl, fun j hj => ?_⟩⟩, by simp⟩
  rw [Nat.zero_add]
  have hj : j < 1 := hj
  obtain rfl : j = 0 := by omega
  exact hb.cell 0
theorem own_ivb8 {w : World} {base : Nat} {A : Option Addr} {n c : Nat} {L : List Int} (h : w.ownsRow base IntT 1 (.slice A n c) L.length (L.map iv)) (hn : L.length ≤ 1000) : Ints w NoM A L := by
  rcases h.2 with ⟨e, h0⟩ | ⟨g, cap, cur, e, _, hh, hnc, _, hcs, ht⟩
  · rw [List.eq_nil_of_length_eq_zero h0]
    exact Row.nil_
  · simp only [Value.slice.injEq] at e
    obtain ⟨rfl, _, _⟩ := e
    have hb : Blk w g IntT cur := hh
    refine ⟨by rw [List.length_map]; omega, .inr ⟨g, 0, rfl, hb.lt, fun h => h, fun j v hv => ?_⟩⟩
    rw [Nat.zero_add]
    refine (hb.cell j).trans ?_
    have hj : j < L.length := by have := (List.getElem?_eq_some_iff.1 hv).1; simpa using this
    have : (cur.toList.take (L.length * 1))[j]? = (L.map iv)[j]? := by rw [ht]
    rw [List.getElem?_take, if_pos (by omega), hv] at this
    rw [← Array.getElem?_toList, this]
theorem lit345 (W : World) : Ints (W.alloc (.cells #[.int .i64 3, .int .i64 4, .int .i64 5] IntT)) NoM (some ⟨W.heap.size, 0, none⟩) [3, 4, 5] := by
  have hb := Blk.new W IntT #[.int .i64 3, .int .i64 4, .int .i64 5]
  refine ⟨by simp, .inr ⟨W.heap.size, 0, rfl, hb.lt, fun h => h, fun j v hv => ?_⟩⟩
  rw [Nat.zero_add]
  refine (hb.cell j).trans ?_
  rcases j with _ | _ | _ | j
  · exact hv
  · exact hv
  · exact hv
  · simp at hv
theorem lit2 (W : World) : Ints (W.alloc (.cells #[.int .i64 2] IntT)) NoM (some ⟨W.heap.size, 0, none⟩) [2] := by
  have hb := Blk.new W IntT #[.int .i64 2]
  refine ⟨by simp, .inr ⟨W.heap.size, 0, rfl, hb.lt, fun h => h, fun j v hv => ?_⟩⟩
  rw [Nat.zero_add]
  refine (hb.cell j).trans ?_
  rcases j with _ | j
  · exact hv
  · simp at hv
theorem wpList_gen8 {P : Program} {ops rest : _} {a : Act} {w : World} {Q : Exit → Act → World → Prop} (R : World → Prop) (hR : R w) (h : ∀ W, R W → wpList P ops Q rest a W) : wpList P ops Q rest a w := h w hR
theorem knGen {w wd we : World} {M : Nat → Prop} {t f m d : Nat} {fv : Value} {s : Sp.Sto} {x y : Nat} {i j : Nat} {u v : Value} (S : KnS w M t f m d fv s wd) (hb : Below wd.heap.size wd we) (hx : x < wd.heap.size) (hy : y < wd.heap.size)
    (cx : wd.cell? ⟨x, i, none⟩ = some u) (cy : wd.cell? ⟨y, j, none⟩ = some v) (cs : Array Value) :
    (fun W => KnS w M t f m d fv s W ∧ W.cell? ⟨x, i, none⟩ = some u ∧ W.cell? ⟨y, j, none⟩ = some v) (we.alloc (.cells cs PageT)) := by
  have h : Below wd.heap.size wd (we.alloc (.cells cs PageT)) := hb.alloc hb.size _
  exact ⟨S.go h, (h.cell (p := ⟨x, i, none⟩) hx).trans cx, (h.cell (p := ⟨y, j, none⟩) hy).trans cy⟩
set_option maxRecDepth 100000 in
set_option maxHeartbeats 1600000 in
theorem known8_any (w : World) : Calls Tryz.prog 27 #[] w fun e w' => e = .returned (.bool true) ∧ Below w.heap.size w w' := by
  go_enter Tryz.func27, Tryz.ntmps27
  go_upto_region 2 with (first
    | (go_at_call_of 30 (Value.string ⟨#[97]⟩); refine (leaf_any [97] _).mono ?_; rintro e w1 ⟨r1, rfl, hp1, hb1⟩; have HP1 := Lib.hid hp1; have HB1 := Lib.hid hb1; clear hp1 hb1)
    | (go_at_call_of 30 (Value.string ⟨#[98]⟩); refine (leaf_any [98] _).mono ?_; rintro e w3 ⟨r3, rfl, hp3, hb3⟩; have HP3 := Lib.hid hp3; have HB3 := Lib.hid hb3; clear hp3 hb3)
    | (go_at_call 18; refine (dBytes_any (Sp.lfPg [97]) r1 _ HP1.out).mono ?_; rintro e w2 ⟨rfl, hb2⟩; have HB2 := Lib.hid hb2; clear hb2 HP1)
    | (go_at_call 18; refine (dBytes_any (Sp.lfPg [98]) r3 _ HP3.out).mono ?_; rintro e w4 ⟨rfl, hb4⟩; have HB4 := Lib.hid hb4; clear hb4 HP3)
    | (go_at_call 20; refine (fileNew_any Sp.kV w4.heap.size 0 4 _ (kV_txts w4) (by decide) (by decide) Sp.kV_sz).mono ?_; rintro e w5 ⟨f, fv, m, rfl, hf, _, _, _, hb5⟩; have HF := Lib.hid hf; have HB5 := Lib.hid hb5; clear hf hb5))
  have z1 := HB1.out.size
  have z2 := HB2.out.size
  have z3 := HB3.out.size
  have z4 := HB4.out.size
  have HA5 := Lib.hid ((((HB1.out.trans (HB2.out.mono z1)).trans (HB3.out.mono (by omega))).trans (HB4.out.mono (by omega))).trans ((((Below.refl w4.heap.size w4).alloc (Nat.le_refl _) (.cells #[.string ⟨#[]⟩, .string ⟨#[]⟩, .string ⟨(Sp.bytes (Sp.lfPg [97])).toArray⟩, .string ⟨(Sp.bytes (Sp.lfPg [98])).toArray⟩] StrT)).trans (HB5.out.mono (by simp))).mono (by omega)))
  have z5 := HA5.out.size
  clear HB1 HB2 HB3 HB4 HB5 z1 z2 z3 z4
  go_upto_region 3 with (go_at_call 28; refine (stoNew_any f m fv Sp.kV 4 6 (.slice (some ⟨w5.heap.size, 0, none⟩) 1 1) [3] _ (HF.out.go ((Below.refl _ _).alloc (Nat.le_refl _) _)) (three_iv w5)).mono ?_; rintro e w6 ⟨t, d, M, rfl, hst, hM, hb6, ht, hd⟩; have HST := Lib.hid hst; have HB6 := Lib.hid hb6; clear hst hb6 hM)
  have S0 := Lib.hid (show KnS w M t f m d fv Sp.kS0 w6 from by
    rw [← Sp.k_new]
    rw [World.size_alloc] at ht hd
    exact ⟨HST.out, Sp.Sto.new_ok 4 6 [3], HA5.out.trans (((Below.refl w5.heap.size w5).alloc (Nat.le_refl _) _).mono z5 |>.trans (HB6.out.mono (by rw [World.size_alloc]; omega))), ⟨by omega, by omega⟩⟩)
  clear HST HB6 HA5 HF z5 ht hd
  have HTM := Lib.hid (fun (W : World) (hW : KnS w M t f m d fv Sp.kS0 W) k (hk : TwoM t d k) => (show k < W.heap.size from by
    rcases hk with rfl | rfl
    · exact hW.st.lt _ hW.st.hM.1
    · exact hW.st.lt _ hW.st.hM.2))
  go_upto_region 6 with (first
    | (go_at_call 30; refine (leaf_any [99] _).mono ?_; rintro e w7 ⟨r7, rfl, hp7, hb7⟩; have HP7 := Lib.hid hp7; have HB7 := Lib.hid hb7; clear hp7 hb7)
    | (go_at_call 29; refine (stoAdd_any M t f m d fv Sp.kV Sp.kS0 (Sp.lfPg [99]) r7 w7 (S0.out.go HB7.out).st S0.out.ok HP7.out (fun k hk => HTM.out w6 S0.out k hk)).mono ?_; rintro e w8 ⟨rfl, hst8, hk8⟩; rw [Sp.k_add] at hst8; rw [Sp.k_add]; have S1 := Lib.hid ((S0.out.go HB7.out).step hst8 (show Sp.kS1.Ok from by have := S0.out.ok.add (Sp.lfPg [99]); rw [Sp.k_add] at this; exact this) hk8); clear hst8 hk8; simp only [erO]))
  clear HP7 HB7 HTM S0
  go_upto_region 7 with (go_at_call 39; refine (stoTouch_any M t f m d fv Sp.kV Sp.kS1 2 w8 S1.out.st S1.out.ok (by decide)).mono ?_; rintro e w9 ⟨rfl, hst9, hk9⟩; rw [Sp.k_t1] at hst9; rw [Sp.k_t1]; have S2 := Lib.hid (S1.out.step hst9 (show Sp.kS2.Ok from by have := S1.out.ok.touch Sp.kV 2; rw [Sp.k_t1] at this; exact this) hk9); clear hst9 hk9; simp only [erO])
  clear S1
  go_upto_region 8 with (go_at_call 39; refine (stoTouch_any M t f m d fv Sp.kV Sp.kS2 2 w9 S2.out.st S2.out.ok (by decide)).mono ?_; rintro e wa ⟨rfl, hsta, hka⟩; rw [Sp.k_t2] at hsta; rw [Sp.k_t2]; have S3 := Lib.hid (S2.out.step hsta (show Sp.kS3.Ok from by have := S2.out.ok.touch Sp.kV 2; rw [Sp.k_t2] at this; exact this) hka); clear hsta hka; simp only [erO])
  clear S2
  go_upto_region 9 with (first
    | (go_at_call 37; refine (stoRead_any M t f m d fv Sp.kV Sp.kS3 4 wa S3.out.st S3.out.ok (by decide)).mono ?_; rintro e wb ⟨rb, rfl, hpb, hbb⟩; rw [Sp.k_rd] at hpb; rw [Sp.k_rd, pv14]; have HPB := Lib.hid hpb; have HBB := Lib.hid hbb; clear hpb hbb; simp only [erO])
    | (refine wpList_new PageT _ _ rfl rfl rfl rfl rfl rfl _ rfl (of_decide_eq_true (by kernel_rfl)) (by kernel_rfl) (by kernel_rfl) (by kernel_rfl) ?_))
  have hbk := Blk.new wb PageT #[.int .i64 (Sp.lfPg [97]).kind, .slice rb.I (Sp.lfPg [97]).items.length rb.i, .slice rb.K (Sp.lfPg [97]).keys.length rb.k, .slice rb.D (Sp.lfPg [97]).kids.length rb.d, .string ⟨(Sp.lfPg [97]).text.toArray⟩, .slice rb.V (Sp.lfPg [97]).vals.length rb.v, .slice rb.F (Sp.lfPg [97]).free.length rb.f, .int .i64 (Sp.lfPg [97]).next, .int .u64 (Sp.lfPg [97]).mt.txn, .int .i64 (Sp.lfPg [97]).mt.main.page, .int .i64 (Sp.lfPg [97]).mt.main.count, .int .i64 (Sp.lfPg [97]).mt.main.flags, .int .i64 (Sp.lfPg [97]).mt.free, .int .i64 (Sp.lfPg [97]).mt.last]
  have hbz : Below wb.heap.size wb (wb.alloc (.cells #[.int .i64 (Sp.lfPg [97]).kind, .slice rb.I (Sp.lfPg [97]).items.length rb.i, .slice rb.K (Sp.lfPg [97]).keys.length rb.k, .slice rb.D (Sp.lfPg [97]).kids.length rb.d, .string ⟨(Sp.lfPg [97]).text.toArray⟩, .slice rb.V (Sp.lfPg [97]).vals.length rb.v, .slice rb.F (Sp.lfPg [97]).free.length rb.f, .int .i64 (Sp.lfPg [97]).next, .int .u64 (Sp.lfPg [97]).mt.txn, .int .i64 (Sp.lfPg [97]).mt.main.page, .int .i64 (Sp.lfPg [97]).mt.main.count, .int .i64 (Sp.lfPg [97]).mt.main.flags, .int .i64 (Sp.lfPg [97]).mt.free, .int .i64 (Sp.lfPg [97]).mt.last] PageT)) := (Below.refl _ _).alloc (Nat.le_refl _) _
  have HBK := Lib.hid hbk
  have HPB2 := Lib.hid (HPB.out.go hbz)
  have S4 := Lib.hid ((S3.out.go HBB.out).go hbz)
  have HTM := Lib.hid (show ∀ k, TwoM t d k → k < wa.heap.size from fun k hk => by
    rcases hk with rfl | rfl
    · exact S3.out.st.lt _ S3.out.st.hM.1
    · exact S3.out.st.lt _ S3.out.st.hM.2)
  have HZB := Lib.hid (show wa.heap.size ≤ wb.heap.size from HBB.out.size)
  clear hbk hbz HPB HBB S3
  generalize wb.alloc (.cells #[.int .i64 (Sp.lfPg [97]).kind, .slice rb.I (Sp.lfPg [97]).items.length rb.i, .slice rb.K (Sp.lfPg [97]).keys.length rb.k, .slice rb.D (Sp.lfPg [97]).kids.length rb.d, .string ⟨(Sp.lfPg [97]).text.toArray⟩, .slice rb.V (Sp.lfPg [97]).vals.length rb.v, .slice rb.F (Sp.lfPg [97]).free.length rb.f, .int .i64 (Sp.lfPg [97]).next, .int .u64 (Sp.lfPg [97]).mt.txn, .int .i64 (Sp.lfPg [97]).mt.main.page, .int .i64 (Sp.lfPg [97]).mt.main.count, .int .i64 (Sp.lfPg [97]).mt.main.flags, .int .i64 (Sp.lfPg [97]).mt.free, .int .i64 (Sp.lfPg [97]).mt.last] PageT) = wc at *
  go_upto_region 10 with (go_at_call 29; refine (stoAdd_any M t f m d fv Sp.kV Sp.kS3 Sp.pg0 refs0 wc S4.out.st S4.out.ok (pageRd0 wc (TwoM t d) refs0) (fun k h => h)).mono ?_; rintro e wd ⟨rfl, hstd, hkd⟩; rw [Sp.k_bad] at hstd; rw [Sp.k_bad]; have S5 := Lib.hid (S4.out.step hstd S4.out.ok hkd); have HKD := Lib.hid hkd; clear hstd hkd; simp only [erO])
  have HBK2 := Lib.hid (HBK.out.chg HKD.out (fun e => by
    have := HTM.out _ e
    have := HZB.out
    omega))
  have HPB3 := Lib.hid (HPB2.out.chg (HKD.out.mono fun k _ e => HTM.out k e))
  clear HBK HPB2 S4 HKD HTM HZB
  obtain ⟨b, off, hbI, hblt, hit⟩ := HPB3.out.items.at_ (k := 0) (by decide)
  obtain ⟨V1, c1, hat, _⟩ := hit 0 (by decide)
  have hkey : wd.cell? ⟨b, off, none⟩ = some (.string ⟨#[97]⟩) := by
    have := hat.c0
    rw [Nat.zero_mul, Nat.add_zero] at this
    exact this
  have HKEY := Lib.hid hkey
  have hIs : wd.cell? ⟨wb.heap.size, 1, none⟩ = some (.slice (some ⟨b, off, none⟩) 1 rb.i) := by
    have := HBK2.out.cell 1
    rw [hbI] at this
    exact this
  have HIS := Lib.hid hIs
  have HBL := Lib.hid HBK2.out.lt
  have HBL2 := Lib.hid hblt
  clear hbI hit hat hkey hIs HPB3 HBK2 hblt
  have HDI := Lib.hid Sp.k_dirty
  go_wp2_with (first
    | (go_at_call 37; refine (stoRead_any M t f m d fv Sp.kV Sp.kS3 1 wd S5.out.st S5.out.ok (by decide)).mono ?_; rintro e we ⟨re, rfl, hpe, hbe⟩; rw [Sp.k_one, pv14]; have HBE := Lib.hid hbe; clear hpe hbe; simp only [erO]; have HG6 := Lib.hid (knGen S5.out HBE.out HBL.out HBL2.out HIS.out HKEY.out #[.int .i64 Sp.pg0.kind, .slice re.I Sp.pg0.items.length re.i, .slice re.K Sp.pg0.keys.length re.k, .slice re.D Sp.pg0.kids.length re.d, .string ⟨Sp.pg0.text.toArray⟩, .slice re.V Sp.pg0.vals.length re.v, .slice re.F Sp.pg0.free.length re.f, .int .i64 Sp.pg0.next, .int .u64 Sp.pg0.mt.txn, .int .i64 Sp.pg0.mt.main.page, .int .i64 Sp.pg0.mt.main.count, .int .i64 Sp.pg0.mt.main.flags, .int .i64 Sp.pg0.mt.free, .int .i64 Sp.pg0.mt.last]))
    | (refine wpList_new PageT _ _ rfl rfl rfl rfl rfl rfl _ rfl (of_decide_eq_true (by kernel_rfl)) (by kernel_rfl) (by kernel_rfl) (by kernel_rfl) ?_; refine wpList_gen8 (fun W => KnS w M t f m d fv Sp.kS3 W ∧ W.cell? ⟨wb.heap.size, 1, none⟩ = some (.slice (some ⟨b, off, none⟩) 1 rb.i) ∧ W.cell? ⟨b, off, none⟩ = some (.string ⟨#[97]⟩)) HG6.out ?_; rintro wf ⟨hs6, hc1, hc2⟩; have S6 := Lib.hid hs6; clear hs6)
    | (go_at_call_of 26 (Value.iface 55 (Value.int IntKind.i64 10)); refine (errIs_same 10 _).mono ?_; rintro e wg ⟨rfl, rfl⟩)
    | (go_at_call_of 26 (Value.iface 55 (Value.int IntKind.i64 14)); refine (errIs_same 14 _).mono ?_; rintro e wg ⟨rfl, rfl⟩)
    | (go_at_call 31; refine (stoLast_any M t f m d fv Sp.kV Sp.kS3 _ S6.out.st).mono ?_; rintro e wg ⟨rfl, rfl⟩; rw [show Sp.kS3.last = 6 from rfl])
    | (go_at_call 36; refine (stoDirty_any M t f m d fv Sp.kV Sp.kS3 _ S6.out.st S6.out.ok).mono ?_; rintro e wh ⟨rd, rfl, hod, hbd⟩; rw [Sp.k_dirty] at hod; obtain ⟨Ad, cd, rfl⟩ := own_slice hod; have HOD := Lib.hid (own_ivb8 hod (by simp)); have S7 := Lib.hid (S6.out.go hbd); clear hod hbd)
    | (go_at_call_of 21 (Value.slice Ad 3 cd); refine (dSameInts [3, 4, 5] [3, 4, 5] Ad (some ⟨wh.heap.size, 0, none⟩) cd 3 _ (Ints.go HOD.out ((Below.refl _ _).alloc (Nat.le_refl _) _)) (lit345 wh)).mono ?_; rintro e wi ⟨rfl, hbi⟩; have S8 := Lib.hid (S7.out.go (((Below.refl wh.heap.size wh).alloc (Nat.le_refl _) _).trans (hbi.mono (by simp)))); clear hbi)
    | (go_at_call 35; refine (stoFreed_any M t f m d fv Sp.kV Sp.kS3 _ S8.out.st).mono ?_; rintro e wj ⟨rf, rfl, hof, hbf⟩; rw [show Sp.kS3.freed = [2] from rfl] at hof; obtain ⟨Af, cf, rfl⟩ := own_slice hof; have HOF := Lib.hid (own_ivb8 hof (by simp)); have S9 := Lib.hid (S8.out.go hbf); clear hof hbf)
    | (go_at_call_of 21 (Value.slice Af 1 cf); refine (dSameInts [2] [2] Af (some ⟨wj.heap.size, 0, none⟩) cf 1 _ (Ints.go HOF.out ((Below.refl _ _).alloc (Nat.le_refl _) _)) (lit2 wj)).mono ?_; rintro e wk ⟨rfl, hbk⟩; have Sa := Lib.hid (S9.out.go (((Below.refl wj.heap.size wj).alloc (Nat.le_refl _) _).trans (hbk.mono (by simp)))); clear hbk)
    | (go_at_call 32; refine (stoAvail_any M t f m d fv Sp.kV Sp.kS3 _ Sa.out.st).mono ?_; rintro e wl ⟨rv, rfl, hoa, hba⟩; rw [show Sp.kS3.avail = [] from rfl] at hoa; obtain ⟨Av, cv, rfl⟩ := own_slice hoa; have Sb := Lib.hid (Sa.out.go hba); clear hoa hba))
  go_ret
  exact ⟨by simp, Sb.out.hb⟩
end Go.Proofs.YtkcfmjlcijhieaaGreat
namespace Go.Proofs.YtkcfmjlcijhieaaGreat
open Go.RowKit
attribute [local go_sem low] mk_extract
attribute [local go_sem] After.cell After.frozen mk_extract_end ByteArray.mk_append_mk
set_option maxRecDepth 100000 in
set_option maxHeartbeats 1600000 in
theorem fileNew_nil (w : World) :
    Calls Tryz.prog 20 #[.slice none 0 0] w fun e w' => ∃ f v m, e = .returned (.pointer (some ⟨f, 0, none⟩)) ∧ FileAt w' f v m [] ∧ w.heap.size ≤ f ∧ w.heap.size ≤ m ∧ Below w.heap.size w w' := by
  have hmm := @run_makeMap Tryz.prog
  have HC := Lib.hid (fun W => cloneT_any (w := W) (M := NoM) (A := none) (l := []) 0 Row.nil_ (by simp))
  go_enter Tryz.func20, Tryz.ntmps20
  go_upto_region 2 with (go_at_call 66; refine (HC.out _).mono ?_; rintro e w1 ⟨A1, c1, rfl, ho, hb1⟩; have HO := Lib.hid ho; have HB := Lib.hid hb1; clear ho hb1)
  have HC2 := Lib.hid (fun W (h : Txts W NoM A1 []) => cloneT_any (w := W) (M := NoM) (A := A1) (l := []) c1 h (by simp))
  have hz1 := HB.out.size
  go_wp2_with (go_at_call 66; refine (HC2.out _ Row.nil_).mono ?_; rintro e w2 ⟨A2, c2, rfl, ho2, hb2⟩; have HO2 := Lib.hid ho2; have HB2 := Lib.hid hb2; clear ho2 hb2)
  go_ret
  have hz2 := HB2.out.size
  refine ⟨w2.heap.size + 1, .slice A1 0 c1, w2.heap.size, by simp, ⟨⟨.slice A2 0 c2, ?_⟩, ?_, ⟨#[], 0, ?_, by simp⟩, by simp⟩, by omega, by omega, ?_⟩
  · exact blk_second w2 _ _ _
  · have hal : Below w1.heap.size w1 ((w2.alloc (.map #[] 0)).alloc (.cells #[.slice A1 0 c1, .slice A2 0 c2, .map (some w2.heap.size)] FileT)) := (HB2.out.alloc hz2 _).alloc (by rw [World.size_alloc]; omega) _
    exact own_less (own_chg2 (S := NoM) HO.out (Chg.of_below hal) (fun _ _ h => h)) (Nat.zero_le _)
  · have := heap_alloc_new w2 (.map #[] 0)
    exact (((Below.refl _ _).alloc (Nat.le_refl _) _ : Below (w2.alloc (.map #[] 0)).heap.size (w2.alloc (.map #[] 0)) _).block _ (by rw [World.size_alloc]; omega)).trans this
  · exact ((HB.out.trans (HB2.out.mono hz1)).alloc (by omega) _).alloc (by rw [World.size_alloc]; omega) _
end Go.Proofs.YtkcfmjlcijhieaaGreat
namespace Go.Proofs.YtkcfmjlcijhieaaGreat
open Go.RowKit
attribute [local go_sem low] mk_extract
attribute [local go_sem] After.cell After.frozen mk_extract_end ByteArray.mk_append_mk
namespace Sp
/-- The numbers that some bits name. -/
def bitsTo (free i : Nat) : List Int := ((List.range i).filter fun j => free / 2 ^ j % 2 == 1).map fun j : Nat => 2 + (j : Int)
theorem bitsTo_zero (free : Nat) : bitsTo free 0 = [] := rfl
theorem bitsTo_yes {free i : Nat} (h : free / 2 ^ i % 2 = 1) : bitsTo free (i + 1) = bitsTo free i ++ [2 + (i : Int)] := by
  unfold bitsTo
  rw [List.range_succ, List.filter_append, List.map_append]
  simp [h]
theorem bitsTo_no {free i : Nat} (h : ¬ free / 2 ^ i % 2 = 1) : bitsTo free (i + 1) = bitsTo free i := by
  unfold bitsTo
  rw [List.range_succ, List.filter_append, List.map_append]
  simp [h]
theorem bitsTo_rng {free : Nat} : ∀ {i : Nat}, (bitsTo free i).Pairwise (· < ·) ∧ (∀ x ∈ bitsTo free i, 2 ≤ x ∧ x < 2 + (i : Int)) ∧ (bitsTo free i).length ≤ i
  | 0 => ⟨List.Pairwise.nil, ⟨fun x h => (by cases h), Nat.le_refl _⟩⟩
  | i + 1 => by
    obtain ⟨h1, h2, h3⟩ := bitsTo_rng (free := free) (i := i)
    by_cases h : free / 2 ^ i % 2 = 1
    · rw [bitsTo_yes h]
      refine ⟨List.pairwise_append.2 ⟨h1, List.pairwise_singleton _ _, fun x hx y hy => ?_⟩, fun x hx => ?_, by simp; omega⟩
      · rw [List.mem_singleton.1 hy]
        have := h2 x hx
        omega
      · rcases List.mem_append.1 hx with hx | hx
        · have := h2 x hx; omega
        · rw [List.mem_singleton.1 hx]; omega
    · rw [bitsTo_no h]
      exact ⟨h1, fun x hx => by have := h2 x hx; omega, by omega⟩
theorem insI_end {n : Int} {L : List Int} (h : ∀ x ∈ L, x < n) : insI n L = L ++ [n] := by
  have hn : n ∉ L := fun hn => by have := h n hn; omega
  have hp : posI n L = L.length := List.countP_eq_length.2 fun x hx => by simpa using h x hx
  unfold insI
  rw [if_neg hn, hp, List.take_length, List.drop_length]
theorem foldl_new {b : Int} : ∀ (L acc : List Int), (acc ++ L).Pairwise (· < ·) → (∀ x ∈ L, 2 ≤ x ∧ x < b) → L.foldl (newStep b) acc = acc ++ L
  | [], acc, _, _ => by simp
  | x :: L, acc, h, hb => by
    have h1 : ∀ y ∈ acc, y < x := fun y hy => (List.pairwise_append.1 h).2.2 y hy x (by simp)
    rw [List.foldl_cons, show newStep b acc x = acc ++ [x] from (if_pos (hb x (by simp))).trans (insI_end h1)]
    rw [foldl_new L (acc ++ [x]) (by simpa using h) fun y hy => hb y (by simp [hy])]
    simp
theorem runI_nil1 : runI [] 1 = none := rfl
theorem runI_cons1 (x : Int) (l : List Int) : runI (x :: l) 1 = some x := by
  have := runI_first (l := x :: l) (n := 1) (j := 0) (by omega) (by simp) (fun i hi => absurd hi (Nat.not_lt_zero _)) (runAt_iff.2 fun k hk => by
    obtain rfl : k = 0 := by omega
    simp)
  exact this
theorem dropI_cons1 {x : Int} {l : List Int} (h : (x :: l).Pairwise (· < ·)) : dropI (x :: l) x 1 = l := by
  obtain ⟨h1, _⟩ := List.pairwise_cons.1 h
  unfold dropI
  rw [List.filter_cons_of_neg (by simp), List.filter_eq_self.2]
  intro y hy
  have := h1 y hy
  rw [Bool.not_eq_true', decide_eq_false_iff_not]
  omega
theorem Sto.add_avail {s : Sto} {p : Page} {x : Int} {l : List Int} (h : s.avail = x :: l) (hp : isPage p = true) (hc : s.d.length < 120) (hr : Rise s.avail) : s.add p = ((x, none), { s with avail := l, d := putD s.d x p }) := by
  have e : s.numbers 1 = ((x, none), { s with avail := l }) := by
    unfold Sto.numbers
    rw [if_neg (by omega), h, runI_cons1]
    dsimp only
    rw [dropI_cons1 (h ▸ hr.1)]
  rw [s.add_yes p hp, e]
theorem Sto.add_last {s : Sto} {p : Page} (h : s.avail = []) (hp : isPage p = true) (hc : s.d.length < 120) (hl : s.last < s.most) : s.add p = ((s.last, none), { s with last := s.last + 1, d := putD s.d s.last p }) := by
  have e : s.numbers 1 = ((s.last, none), { s with last := s.last + 1 }) := by
    unfold Sto.numbers
    rw [if_neg (by omega), h, runI_nil1]
    dsimp only
    rw [if_neg (by omega), ← h]
  rw [s.add_yes p hp, e]
theorem Sto.add_full {s : Sto} {p : Page} (h : s.avail = []) (hp : isPage p = true) (hc : s.d.length < 120) (hl : s.most ≤ s.last) : s.add p = ((0, some 14), s) := by
  have e : s.numbers 1 = ((0, some 14), s) := by
    unfold Sto.numbers
    rw [if_neg (by omega), h, runI_nil1]
    dsimp only
    rw [if_pos (by omega)]
  rw [s.add_yes p hp, e]
end Sp
end Go.Proofs.YtkcfmjlcijhieaaGreat
