/- The first item that is wanted, from a key on: find.first. The document's List: all items of a tree. The document's List: all items of a tree: the walk. find.Above, Behind, Get. -/
import Derived.Test.YtmcpkhknjdiocaaGreatDoorQB24
import Derived.Test.YtmcpkhknjdiocaaGreatDoorQB25
import Derived.Test.YtmcpkhknjdiocaaGreatDoorQB31
import Derived.Test.YtmcpkhknjdiocaaGreatDoorQB32
set_option linter.unusedSimpArgs false
set_option linter.unusedVariables false
namespace Go.Proofs.YtmcpkhknjdiocaaGreatDoor
open Go.RowKit
attribute [local go_sem low] mk_extract
attribute [local go_sem] After.cell After.frozen mk_extract_end ByteArray.mk_append_mk
/-- A store over a file on which a tree is. -/
structure TrS (w : World) (t : Nat) (o : Option Sp.Rt) : Prop where
  ex : ∃ f m d last v V, St0 w t f m d last v V ∧ V.length ≤ 400 ∧ Sp.Rt.Filed V o
theorem TrS.go {w w' : World} {t : Nat} {o : Option Sp.Rt} (h : TrS w t o) (hb : Below w.heap.size w w') : TrS w' t o := by
  obtain ⟨f, m, d, last, v, V, h1, h2, h3⟩ := h.ex
  exact ⟨f, m, d, last, v, V, h1.go hb, h2, h3⟩
def itZ : Array Value := #[.string ⟨#[]⟩, .int .i64 0, .string ⟨#[]⟩, .int .i64 0, .int .i64 0, .slice none 0 0, .int .i64 0, .int .i64 0, .int .i64 0, .int .i64 0]
/-- What is told of an item that is sought. -/
def FindIs (B : Nat) (w : World) (e : Ending) (y : Option Sp.Item) : Prop := match y with
  | none => e = .returned (.tuple #[.agg itZ, .iface ErrT (.int .i64 21)])
  | some y => ∃ V c, e = .returned (.tuple #[.agg (itemV y V c).toArray, .nilIface]) ∧ ∀ M : Nat → Prop, (∀ k, B ≤ k → ¬ M k) → Txts w M V y.vals
/-- What first holds between its rounds. -/
structure FrS (w W : World) (t : Nat) (o : Option Sp.Rt) (bx : Nat) (key0 : Txt) : Prop where
  tr : TrS W t o
  bz : Blk W w.heap.size ItemT itZ
  bx : Blk W bx StrT #[.string ⟨key0.toArray⟩]
  hb : Below w.heap.size w W
theorem FrS.go {w W W' : World} {t : Nat} {o : Option Sp.Rt} {bx : Nat} {key0 : Txt} (h : FrS w W t o bx key0) (hb : Below W.heap.size W W') : FrS w W' t o bx key0 :=
  ⟨h.tr.go hb, h.bz.below hb h.bz.lt, h.bx.below hb h.bx.lt, h.hb.trans (hb.mono h.hb.size)⟩
/-- A wanted function: whatever is asked, so it answers. -/
def Wanting (fn bx : Nat) (key0 : Txt) (wk : Txt → Bool) : Prop := ∀ (W : World) (k : Txt), Blk W bx StrT #[.string ⟨key0.toArray⟩] → Calls Tryz.prog fn #[.string ⟨k.toArray⟩, .pointer (some ⟨bx, 0, none⟩)] W fun e w' => e = .returned (.bool (wk k)) ∧ Below W.heap.size W w'
theorem itemV_all0 (x : Sp.Item) (V : Option Addr) (c : Nat) : (itemV x V c).toArray.all (·.oneCell') = true := by
  rw [Array.all_eq_true_iff_forall_mem]
  intro u hu
  have hu : u ∈ itemV x V c := by simpa using hu
  simp only [itemV, List.mem_cons, List.not_mem_nil, or_false] at hu
  rcases hu with rfl | rfl | rfl | rfl | rfl | rfl | rfl | rfl | rfl | rfl <;> rfl
/-- What first holds at a leaf. -/
structure FpS (w W : World) (t : Nat) (o : Option Sp.Rt) (bx : Nat) (key0 : Txt) (b : Nat) (l0 : List Sp.Item) (r : Refs) (ib io : Nat) : Prop where
  l : FrS w W t o bx key0
  bp : Blk W b PageT (pageV (Sp.leafPg l0) r).toArray
  hib : ib < W.heap.size
  it : ∀ k, k < l0.length → ∃ V c, ItemAt W ib (io + k * 10) (l0.getD k Sp.item0) V c ∧ ∀ M : Nat → Prop, (∀ k, w.heap.size < k → ¬ M k) → Txts W M V (l0.getD k Sp.item0).vals
theorem FpS.go {w W W' : World} {t : Nat} {o : Option Sp.Rt} {bx : Nat} {key0 : Txt} {b : Nat} {l0 : List Sp.Item} {r : Refs} {ib io : Nat} (h : FpS w W t o bx key0 b l0 r ib io) (hb : Below W.heap.size W W') : FpS w W' t o bx key0 b l0 r ib io :=
  ⟨h.l.go hb, h.bp.below hb h.bp.lt, Nat.lt_of_lt_of_le h.hib hb.size, fun k hk => by
    obtain ⟨V, c, h1, h2⟩ := h.it k hk
    exact ⟨V, c, h1.keep fun j => hb.cell (p := ⟨ib, j, none⟩) h.hib, fun M hM => (h2 M hM).go hb⟩⟩
theorem FpS.start {w W W' : World} {t : Nat} {o : Option Sp.Rt} {bx : Nat} {key0 : Txt} {l0 : List Sp.Item} {r : Refs} (h : FrS w W t o bx key0) (hb : Below W.heap.size W W') (hr : ∀ M : Nat → Prop, (∀ k, W.heap.size ≤ k → ¬ M k) → PageRd W' M (Sp.leafPg l0) r) (h0 : 0 < l0.length) :
    ∃ ib io, r.I = some ⟨ib, io, none⟩ ∧ FpS w (W'.alloc (.cells (pageV (Sp.leafPg l0) r).toArray PageT)) t o bx key0 W'.heap.size l0 r ib io := by
  have hal : Below W'.heap.size W' (W'.alloc (.cells (pageV (Sp.leafPg l0) r).toArray PageT)) := (Below.refl _ _).alloc (Nat.le_refl _) _
  have hlt := h.bz.lt
  have hI : Items W' NoM r.I l0 := (hr NoM fun _ _ h => h).items
  obtain ⟨ib, io, hA, hib, hit⟩ := hI.at_ h0
  refine ⟨ib, io, hA, (h.go hb).go hal, Blk.new _ _ _, Nat.lt_of_lt_of_le hib hal.size, fun k hk => ?_⟩
  obtain ⟨V, c, h1, _⟩ := hit k hk
  refine ⟨V, c, h1.keep fun j => hal.cell (p := ⟨ib, j, none⟩) hib, fun M hM => ?_⟩
  obtain ⟨ib2, io2, hA2, _, hit2⟩ := (hr M fun k hk => hM k (by omega)).items.at_ h0
  rw [hA] at hA2
  obtain ⟨rfl, rfl⟩ : ib = ib2 ∧ io = io2 := by simpa using hA2
  obtain ⟨V2, c2, h3, h4⟩ := hit2 k hk
  have e := h1.c5.symm.trans h3.c5
  have e : V = V2 := by
    have := Option.some.inj e
    simp only [Value.slice.injEq] at this
    exact this.1
  rw [e]
  exact h4.go hal
/-- At an item of its own. -/
structure FxS (w W : World) (t : Nat) (o : Option Sp.Rt) (bx : Nat) (key0 : Txt) (b : Nat) (l0 : List Sp.Item) (r : Refs) (ib io bq : Nat) (y : Sp.Item) (V : Option Addr) (c : Nat) : Prop where
  p : FpS w W t o bx key0 b l0 r ib io
  by_ : Blk W bq ItemT (itemV y V c).toArray
  vs : ∀ M : Nat → Prop, (∀ k, w.heap.size < k → ¬ M k) → Txts W M V y.vals
theorem FxS.go {w W W' : World} {t : Nat} {o : Option Sp.Rt} {bx : Nat} {key0 : Txt} {b : Nat} {l0 : List Sp.Item} {r : Refs} {ib io bq : Nat} {y : Sp.Item} {V : Option Addr} {c : Nat} (h : FxS w W t o bx key0 b l0 r ib io bq y V c) (hb : Below W.heap.size W W') : FxS w W' t o bx key0 b l0 r ib io bq y V c :=
  ⟨h.p.go hb, h.by_.below hb h.by_.lt, fun M hM => (h.vs M hM).go hb⟩
set_option maxRecDepth 100000 in
set_option maxHeartbeats 1600000 in
theorem first_none (t fn bx : Nat) (key : Txt) (w : World) :
    Calls Tryz.prog 70 #[.pointer (some ⟨t, 0, none⟩), .int .i64 0, .string ⟨key.toArray⟩, .func (.func fn) #[] #[.pointer (some ⟨bx, 0, none⟩)]] w fun e w' => FindIs w.heap.size w' e none ∧ Below w.heap.size w w' := by
  have hal : Below w.heap.size w (w.alloc (.cells itZ ItemT)) := (Below.refl _ _).alloc (Nat.le_refl _) _
  have HZ := Lib.hid (Blk.new w ItemT itZ)
  simp only [itZ] at *
  go_enter Tryz.func70, Tryz.ntmps70
  go_wp2_with fail
  go_step3
  go_wp2_with (refine wpList_store_row rfl ItemT _ _ rfl w.heap.size _ rfl rfl ItemT _ HZ.out (by kernel_rfl) rfl (by rfl) ?_)
  try rw [Exit.noGoto_ret]
  obtain ⟨⟨z0, z1, z2, z3, z4, z5, z6, z7, z8, z9⟩, _⟩ := (HZ.out.row (ds := itZ)).at10
  refine bodyPost_ret (v := .tuple #[.agg itZ, .iface ErrT (.int .i64 21)]) (by simp [results, Tryz.results70, go_sem, itZ, z0, z1, z2, z3, z4, z5, z6, z7, z8, z9]) rfl ⟨rfl, hal⟩
set_option maxRecDepth 100000 in
set_option maxHeartbeats 1600000 in
theorem first_any (t fn bx : Nat) (o : Option Sp.Rt) (key0 key : Txt) (wk : Txt → Bool) (w : World) (hs : TrS w t o) (hbx : Blk w bx StrT #[.string ⟨key0.toArray⟩]) (hw : Sp.Wants (fun y => wk y.key) key) (hcf : ∀ args w, (callFunc fn args).run Tryz.prog w = .ok (.enter fn args) w) (CL : Wanting fn bx key0 wk) :
    Calls Tryz.prog 70 #[.pointer (some ⟨t, 0, none⟩), .int .i64 ((Sp.Rt.root o : Nat) : Int), .string ⟨key.toArray⟩, .func (.func fn) #[] #[.pointer (some ⟨bx, 0, none⟩)]] w fun e w' => FindIs w.heap.size w' e ((Sp.Rt.items o).find? fun y => wk y.key) ∧ Below w.heap.size w w' := by
  have hal : Below w.heap.size w (w.alloc (.cells itZ ItemT)) := (Below.refl _ _).alloc (Nat.le_refl _) _
  have S0 := Lib.hid (show FrS w (w.alloc (.cells itZ ItemT)) t o bx key0 from ⟨hs.go hal, Blk.new _ _ _, hbx.below hal hbx.lt, hal⟩)
  have HW := Lib.hid hw
  clear hbx hw hal
  rcases o with _ | o
  · exact first_none t fn bx key w
  obtain ⟨f, m, dd, last, v, V, hst, hnV, hfl⟩ := hs.ex
  obtain ⟨hfd, hok, hd8⟩ := hfl o rfl
  have hid2 : 2 ≤ Sp.T.id o.d o.t := hfd.root.1
  have hne : ¬ (((Sp.T.id o.d o.t : Nat) : Int) = 0) := by omega
  have hneb : (((Sp.T.id o.d o.t : Nat) : Int) == 0) = false := beq_eq_false_iff_ne.2 hne
  have hfs := Sp.FS.start hok HW.out
  rw [show Sp.Rt.root (some o) = Sp.T.id o.d o.t from rfl, show Sp.Rt.items (some o) = Sp.T.items o.d o.t from rfl]
  generalize hres : (Sp.T.items o.d o.t).find? (fun y => wk y.key) = res at *
  have HFS := Lib.hid hfs
  clear hfs hres HW hst hnV hfl hfd hok hd8 hs hid2
  simp only [itZ] at *
  go_enter Tryz.func70, Tryz.ntmps70
  go_upto_region 1 with fail
  refine wp_gen (fun W => FrS w W t (some o) bx key0) S0.out ?_
  clear S0
  intro w1 hS
  have S := Lib.hid hS
  clear hS
  go_wp2_with fail
  go_step3
  go_wp2_with fail
  go_step3
  go_wp2_with fail
  go_loopw [2, 19] (fun kv cv wr => ∃ (n q : Nat) (k : Txt), n + q = 1 ∧ kv = .string ⟨k.toArray⟩ ∧ cv = .int .i64 (q : Int) ∧ Hid (Sp.FS o.d o.t (fun y => wk y.key) res n k) ∧ Hid (FrS w wr t (some o) bx key0)) (fun _ cv _ => 2 - (intOf cv).toNat)
  case atStart => exact ⟨1, 0, key, by omega, rfl, rfl, HFS, S⟩
  case round =>
    obtain ⟨n, q, k, hn1, rfl, rfl, FSH, R⟩ := hrel
    clear HFS S
    obtain ⟨f, m, dd, last, v, V, hst, hnV, hfl⟩ := R.out.tr.ex
    obtain ⟨hfd, hok, hd8⟩ := hfl o rfl
    have hq4 : (q : Int) < 400 := by omega
    have h0 : 0 < (Sp.leafOf o.d o.t k []).1.length := by
      obtain ⟨A, B, _, _, e3, _⟩ := Sp.leaf_law o.d true o.t k [] hok
      exact List.length_pos_iff.2 e3
    have HST := Lib.hid hst
    have HFD := Lib.hid hfd
    have HOK := Lib.hid hok
    have HIT := Lib.hid (fun y => FSH.out.hit (y := y))
    have HMI := Lib.hid FSH.out.miss
    clear hst hfl hfd hok FSH
    go_upto_region 6 with (first
      | (go_at_call 102; refine (leaf_any t f m dd last v V o.d o.t k _ HST.out hnV HFD.out HOK.out hd8).mono ?_; rintro e w2 ⟨r, rfl, hr, hb2⟩; have HR := Lib.hid hr; clear hr)
      | (refine wpList_new PageT _ _ rfl rfl rfl rfl rfl rfl _ rfl (of_decide_eq_true (by kernel_rfl)) (by kernel_rfl) (by kernel_rfl) (by kernel_rfl) ?_))
    generalize (Sp.leafOf o.d o.t k []).1 = l0 at *
    generalize (Sp.leafOf o.d o.t k []).2 = bl at *
    have hlen : l0.length ≤ 288230376151711744 := (HR.out NoM (fun _ _ h => h)).items.len
    obtain ⟨ib, io, hA, hp⟩ := FpS.start R.out hb2 HR.out h0
    refine wp_gen (fun W => FpS w W t (some o) bx key0 w2.heap.size l0 r ib io) hp ?_
    clear HR hp HST HFD HOK
    generalize w2.heap.size = bp at *
    intro w3 hp
    have c1 : w3.cell? ⟨bp, 1, none⟩ = some (.slice (some ⟨ib, io, none⟩) l0.length r.i) := hA ▸ hp.bp.cell 1
    have P := Lib.hid hp
    clear hp hb2 R
    go_upto_region 9 with fail
    go_wp2_with fail
    go_loopw [36] (fun iv wr2 => ∃ m : Nat, m ≤ l0.length ∧ iv = .int .i64 (m : Int) ∧ Hid (∀ j, j < m → wk (l0.getD j Sp.item0).key = false) ∧ Hid (FpS w wr2 t (some o) bx key0 bp l0 r ib io)) (fun iv _ => l0.length - (intOf iv).toNat)
    case atStart => exact ⟨0, Nat.zero_le _, rfl, Lib.hid (fun j hj => absurd hj (by omega)), P⟩
    case round =>
      obtain ⟨m, hm, rfl, HNO, R⟩ := hrel
      clear P c1
      by_cases hlt : m < l0.length
      · obtain ⟨V', c', hi', ht'⟩ := R.out.it m hlt
        have HY := Lib.hid hi'
        have HT := Lib.hid ht'
        have HH := Lib.hid (fun (h : wk (l0.getD m Sp.item0).key = true) => HIT.out _ (Sp.find_hit (W := fun y => wk y.key) (d := Sp.item0) hlt HNO.out h))
        have HNX := Lib.hid (fun (h : wk (l0.getD m Sp.item0).key = false) => show ∀ j, j < m + 1 → wk (l0.getD j Sp.item0).key = false from fun j hj => by
          rcases Nat.lt_succ_iff_lt_or_eq.1 hj with h' | rfl
          · exact HNO.out j h'
          · exact h)
        clear hi' ht' HNO
        generalize l0.getD m Sp.item0 = y at *
        have hibw := R.out.hib
        go_upto_region 11 with (first
          | (refine wpList_at ItemT _ rfl ib (io + m * 10) rfl rfl (itemV y V' c').toArray _ (fun j v hv => HY.out.cells j v hv) Tryz.underlying83 rfl (by kernel_rfl) ?_)
          | (refine wpList_new ItemT _ _ rfl rfl rfl rfl rfl rfl _ rfl (of_decide_eq_true (by kernel_rfl)) (by kernel_rfl) (by kernel_rfl) (by kernel_rfl) ?_))
        have hal2 : Below wr.heap.size wr (wr.alloc (.cells (itemV y V' c').toArray ItemT)) := (Below.refl _ _).alloc (Nat.le_refl _) _
        refine wp_gen (fun W => FxS w W t (some o) bx key0 bp l0 r ib io wr.heap.size y V' c') ⟨R.out.go hal2, Blk.new _ _ _, fun M hM => (HT.out M hM).go hal2⟩ ?_
        clear HY HT R hal2 hibw
        generalize wr.heap.size = bq at *
        intro w4 hX
        have X := Lib.hid hX
        have y0 : w4.cell? ⟨bq, 0, none⟩ = some (.string ⟨y.key.toArray⟩) := hX.by_.cell 0
        clear hX
        rcases hq : wk y.key with _ | _
        · have HN2 := Lib.hid (HNX.out hq)
          have HQ := Lib.hid hq
          clear hq HNX HH
          as_aux_lemma =>
          go_wp2_with (refine (CL _ _ X.out.p.l.bx).mono ?_; rintro e w5 ⟨rfl, hb5⟩; rw [HQ.out]; replace X := Lib.hid (X.out.go hb5); clear y0)
          refine ⟨⟨m + 1, by omega, by go_num, HN2, Lib.hid X.out.p⟩, by simp [intOf]; omega⟩
        · have HR := Lib.hid (HH.out hq)
          have HQ := Lib.hid hq
          clear hq HNX HH
          as_aux_lemma =>
          go_wp2_with (first
            | (refine (CL _ _ X.out.p.l.bx).mono ?_; rintro e w5 ⟨rfl, hb5⟩; rw [HQ.out]; replace X := Lib.hid (X.out.go hb5); clear y0)
            | (refine wpList_row ItemT _ rfl bq rfl rfl ItemT _ (0, 0) _ X.out.by_ Tryz.underlying83 rfl (by kernel_rfl) ?_)
            | (refine wpList_store_row rfl ItemT _ _ rfl w.heap.size _ rfl rfl ItemT _ X.out.p.l.bz (by kernel_rfl) rfl (itemV_all0 y V' c') ?_))
          try rw [Exit.noGoto_ret]
          obtain ⟨⟨z0, z1, z2, z3, z4, z5, z6, z7, z8, z9⟩, _⟩ := (X.out.p.l.bz.row (ds := #[.string ⟨y.key.toArray⟩, .int .i64 y.kind, .string ⟨y.val.toArray⟩, .int .i64 y.run, .int .i64 y.len, .slice V' y.vals.length c', .int .i64 y.dup, .int .i64 y.root.page, .int .i64 y.root.count, .int .i64 y.root.flags])).at10
          have hb4 : Below w.heap.size w (w5.setRow w.heap.size (itemV y V' c').toArray) := below_setRow X.out.p.l.hb (Nat.le_refl _) _
          refine bodyPost_ret (v := .tuple #[.agg (itemV y V' c').toArray, .nilIface]) (by simp [results, Tryz.results70, go_sem, itemV, z0, z1, z2, z3, z4, z5, z6, z7, z8, z9]) rfl ⟨?_, hb4⟩
          rw [HR.out]
          refine ⟨V', c', rfl, fun M hM => ?_⟩
          have h1 := X.out.vs (fun k => M k ∨ k = w.heap.size) (fun k hk => by
            rintro (h | h)
            · exact hM k (by omega) h
            · omega)
          exact Row.anti (Row.chg h1 ((chg_setRow0 w5 w.heap.size _).mono (fun k _ h => .inr h))) (fun k h => .inl h)
      · obtain rfl : m = l0.length := by omega
        have hmi := HMI.out (Sp.find_miss (W := fun y => wk y.key) (d := Sp.item0) HNO.out)
        clear HNO HIT HMI
        have h400 : (q : Int) + 1 ≤ 400 := by omega
        rcases hmi with ⟨rfl, rfl⟩ | ⟨hb, n', rfl, hfs⟩
        · have hbz : Blk wr w.heap.size ItemT #[.string ⟨#[]⟩, .int .i64 0, .string ⟨#[]⟩, .int .i64 0, .int .i64 0, .slice none 0 0, .int .i64 0, .int .i64 0, .int .i64 0, .int .i64 0] := R.out.l.bz
          as_aux_lemma =>
          go_wp2_with (refine wpList_store_row rfl ItemT _ _ rfl w.heap.size _ rfl rfl ItemT _ hbz (by kernel_rfl) rfl (by kernel_rfl) ?_)
          try rw [Exit.noGoto_ret]
          obtain ⟨⟨z0, z1, z2, z3, z4, z5, z6, z7, z8, z9⟩, _⟩ := (hbz.row (ds := #[.string ⟨#[]⟩, .int .i64 0, .string ⟨#[]⟩, .int .i64 0, .int .i64 0, .slice none 0 0, .int .i64 0, .int .i64 0, .int .i64 0, .int .i64 0])).at10
          have hb4 : Below w.heap.size w (wr.setRow w.heap.size itZ) := below_setRow R.out.l.hb (Nat.le_refl _) _
          refine bodyPost_ret (v := .tuple #[.agg itZ, .iface ErrT (.int .i64 21)]) (by simp [results, Tryz.results70, go_sem, itZ, z0, z1, z2, z3, z4, z5, z6, z7, z8, z9]) rfl ⟨rfl, hb4⟩
        · have HF := Lib.hid hfs
          have hb0 : (bl == []) = false := beq_eq_false_iff_ne.2 hb
          have hb1 : (bl != []) = true := by simp [hb]
          have hbn : ¬ bl = [] := hb
          clear hfs hb
          as_aux_lemma =>
          go_wp2_with fail
          exact ⟨⟨n', q + 1, bl, by omega, rfl, by go_num, HF, Lib.hid R.out.l⟩, by simp [intOf]; omega⟩
end Go.Proofs.YtmcpkhknjdiocaaGreatDoor
namespace Go.Proofs.YtmcpkhknjdiocaaGreatDoor
open Go.RowKit
attribute [local go_sem low] mk_extract
attribute [local go_sem] After.cell After.frozen mk_extract_end ByteArray.mk_append_mk
/-- Items' cells, side by side. -/
theorem Items.flat {w : World} {M : Nat → Prop} {b off : Nat} : ∀ {l : List Sp.Item}, Items w M (some ⟨b, off, none⟩) l → ∃ xs, ItP w M l xs ∧ ∀ j u, xs[j]? = some u → w.cell? ⟨b, off + j, none⟩ = some u := by
  intro l h
  have : ∀ n, n ≤ l.length → ∃ xs, ItP w M (l.take n) xs ∧ ∀ j u, xs[j]? = some u → w.cell? ⟨b, off + j, none⟩ = some u := by
    intro n
    induction n with
    | zero => intro _; exact ⟨[], rfl, fun j u hu => by simp at hu⟩
    | succ n ih =>
      intro hn
      obtain ⟨xs, h1, h2⟩ := ih (by omega)
      obtain ⟨b', off', e, _, hc⟩ := h.at_ (k := n) (by omega)
      obtain ⟨rfl, rfl⟩ : b = b' ∧ off = off' := by simpa using e
      obtain ⟨V, c, hi, ht⟩ := hc n (by omega)
      refine ⟨xs ++ itemV (l.getD n Sp.item0) V c, ?_, fun j u hu => ?_⟩
      · rw [Sp.take_snoc (d := Sp.item0) (show n < l.length by omega)]
        exact h1.snoc ht
      · have hl := h1.len
        rw [List.length_take, Nat.min_eq_left (by omega)] at hl
        rcases Nat.lt_or_ge j xs.length with hj | hj
        · rw [List.getElem?_append_left hj] at hu
          exact h2 j u hu
        · rw [List.getElem?_append_right hj] at hu
          have := hi.cells (j - xs.length) u (by simpa using hu)
          rw [show off + n * 10 + (j - xs.length) = off + j by omega] at this
          exact this
  have := this l.length (Nat.le_refl _)
  rwa [List.take_length] at this
/-- What List holds between its rounds. -/
structure LiS (wS W : World) (L : List Sp.Page) (k : Nat) (v : Value) (l : List Sp.Item) : Prop where
  hb : Below wS.heap.size wS W
  own : ∃ ys, W.ownsRow wS.heap.size ItemT 10 v l.length ys ∧ ItP W (fun k => wS.heap.size ≤ k) l ys
  is : l = (L.take k).flatMap (·.items)
theorem LiS.go {wS W W' : World} {L : List Sp.Page} {k : Nat} {v : Value} {l : List Sp.Item} (h : LiS wS W L k v l) (hb : Below W.heap.size W W') : LiS wS W' L k v l := by
  obtain ⟨ys, h1, h2⟩ := h.own
  exact ⟨h.hb.trans (hb.mono h.hb.size), ⟨ys, own_chg2 (S := NoM) h1 (Chg.of_below hb) (fun _ _ h => h), h2.chg (Chg.of_below hb)⟩, h.is⟩
theorem LiS.next {wS W W' : World} {L : List Sp.Page} {k : Nat} {v v' : Value} {l : List Sp.Item} {ys zs : List Value} (h : LiS wS W L k v l) (hk : k < L.length) (h1 : W.ownsRow wS.heap.size ItemT 10 v l.length ys) (h2 : ItP W (fun k => wS.heap.size ≤ k) l ys)
    (hz : ItP W (fun k => wS.heap.size ≤ k) (L.getD k Sp.pg0).items zs) (ho : W'.ownsRow wS.heap.size ItemT 10 v' (l.length + (L.getD k Sp.pg0).items.length) (ys ++ zs)) (hg : W.grownBy W' v.ownBlock) : LiS wS W' L (k + 1) v' (l ++ (L.getD k Sp.pg0).items) := by
  have hk1 : Chg (fun k => wS.heap.size ≤ k) W W' := (Chg.of_grown (S := fun k => v.ownBlock = some k) hg (fun k hk => .inl hk)).mono fun k _ e => own_geB h1 k e
  refine ⟨h.hb.trans (grown_own h1 h.hb.size hg), ⟨ys ++ zs, by rw [List.length_append]; exact ho, (ItP.app hz h2).chg hk1⟩, ?_⟩
  rw [Sp.take_snoc (d := Sp.pg0) hk, List.flatMap_append, h.is]
  simp
theorem flat_snoc {α β : Type} (f : α → List β) (l : List α) (k : Nat) : ((l.take k).flatMap f).length ≤ (l.flatMap f).length := by
  conv => rhs; rw [← List.take_append_drop k l]
  rw [List.flatMap_append, List.length_append]
  omega
/-- A whole tree, on a file that the document's store is over. -/
structure DtS (w : World) (s : Nat) (o : Option Sp.Rt) : Prop where
  ex : ∃ f V, D0S w s f V ∧ V.length ≤ 400 ∧ Sp.Rt.Filed V o
theorem DtS.go {w w' : World} {s : Nat} {o : Option Sp.Rt} (h : DtS w s o) (hb : Below w.heap.size w w') : DtS w' s o := by
  obtain ⟨f, V, h1, h2, h3⟩ := h.ex
  exact ⟨f, V, h1.go hb, h2, h3⟩
namespace Sp
theorem T.leaves_len : ∀ (d : Nat) (t : T d), (T.leaves d t).length ≤ (T.ids d t).length
  | 0, t => Nat.le_refl _
  | d + 1, t => by
    show (t.2.flatMap fun c => T.leaves d c.2).length ≤ (t.1 :: t.2.flatMap fun c => T.ids d c.2).length
    rw [List.length_cons]
    have : ∀ l : List (Txt × T d), (l.flatMap fun c => T.leaves d c.2).length ≤ (l.flatMap fun c => T.ids d c.2).length := by
      intro l
      induction l with
      | nil => simp
      | cons c l ih =>
        have := T.leaves_len d c.2
        simp only [List.flatMap_cons, List.length_append]
        omega
    have := this t.2
    omega
theorem T.leaves_ne : ∀ (d : Nat) (t : T d) (top : Bool), T.Ok d top t → ∀ p ∈ T.leaves d t, p.items ≠ []
  | 0, t, top, h, p, hp => by
    obtain rfl : p = leafPg t.2 := by simpa [T.leaves] using hp
    have h1 : t.2 ≠ [] := T.Ok.ne (d := 0) h
    exact h1
  | d + 1, t, top, h, p, hp => by
    obtain ⟨id, cs⟩ := t
    obtain ⟨_, _, _, _, _, hkid⟩ := h
    obtain ⟨c, hc, hp⟩ := List.mem_flatMap.1 (show p ∈ cs.flatMap fun c => T.leaves d c.2 from hp)
    exact T.leaves_ne d c.2 false (hkid c hc) p hp
def Rt.leaves (o : Option Rt) : List Page := match o with | none => [] | some r => T.leaves r.d r.t
end Sp
theorem WkS.start (w : World) : WkS (w.alloc (.cells #[.slice none 0 0, .slice none 0 0, .int .i64 0] WalkT)) w.heap.size (w.heap.size + 1) [] [] (.slice none 0 0) (.slice none 0 0) :=
  ⟨Blk.new _ _ _, own_nil _ _ _ _, ⟨[], own_nil _ _ _ _, rfl⟩, Nat.lt_succ_self _⟩
end Go.Proofs.YtmcpkhknjdiocaaGreatDoor
namespace Go.Proofs.YtmcpkhknjdiocaaGreatDoor
open Go.RowKit
attribute [local go_sem low] mk_extract
attribute [local go_sem] After.cell After.frozen mk_extract_end ByteArray.mk_append_mk
theorem info_item4 : (Tryz.prog.info? ItemT).map (fun i => (i.zero, i.size, i.bytes)) = some (some (.agg itZ), 10, 112) := by kernel_rfl
/-- Behind the walk: the leaves are there. -/
structure LbS (w W : World) (g : Nat) (L : List Sp.Page) (vp : Value) : Prop where
  blk : ∃ vi, Blk W g WalkT #[vi, vp, .int .i64 0]
  op : ∃ xs, W.ownsRow (w.heap.size + 1) PageT 14 vp L.length xs ∧ PgCells W (fun k => W.heap.size ≤ k) L xs
  hb : Below w.heap.size w W
theorem hipn {w : World} {M : Nat → Prop} : ∀ {l : List Sp.Item} {xs : List Value}, ItP w M l xs → ItP w NoM l xs
  | [], _, h => h
  | _ :: _, _, ⟨V, c, ys, e, ht, h⟩ => ⟨V, c, ys, e, Row.to ht (fun _ _ h => h.elim), hipn h⟩
set_option maxRecDepth 100000 in
set_option maxHeartbeats 1600000 in
theorem list_any (s : Nat) (o : Option Sp.Rt) (w : World) (h : DtS w s o) (hn : (Sp.Rt.items o).length ≤ 1000) :
    Calls Tryz.prog 101 #[.pointer (some ⟨s, 0, none⟩), .int .i64 ((Sp.Rt.root o : Nat) : Int)] w fun e w' => ∃ A c, e = .returned (.tuple #[.slice A (Sp.Rt.items o).length c, .int .i64 0]) ∧ Items w' NoM A (Sp.Rt.items o) ∧ Below w.heap.size w w' := by
  obtain ⟨i1, hii1, hy0, hy1, hy2⟩ := info_parts info_item4
  obtain ⟨L, hL⟩ : ∃ L : List Sp.Page, L = Sp.Rt.leaves o := ⟨_, rfl⟩
  have hLi : L.flatMap (·.items) = Sp.Rt.items o := by
    subst hL
    cases o with
    | none => rfl
    | some r => exact Sp.T.leaves_items r.d r.t
  have hLn : ∀ p ∈ L, p.items ≠ [] := by
    subst hL
    cases o with
    | none => intro p hp; cases hp
    | some r =>
      obtain ⟨f, V, _, _, hf⟩ := h.ex
      exact Sp.T.leaves_ne r.d r.t true (hf r rfl).2.1
  have hLl : L.length ≤ 1000 := by
    subst hL
    cases o with
    | none => exact Nat.zero_le _
    | some r =>
      obtain ⟨f, V, _, _, hf⟩ := h.ex
      have h1 := Sp.T.leaves_len r.d r.t
      have h2 := (hf r rfl).2.1.cnt_top
      have hn : (Sp.T.items r.d r.t).length ≤ 1000 := hn
      show (Sp.T.leaves r.d r.t).length ≤ 1000
      omega
  have hl0 : o = none → Sp.Rt.items o = [] := fun h => by rw [h]; rfl
  have HLI := Lib.hid hLi
  have HLN := Lib.hid hLn
  have hal : Below w.heap.size w (w.alloc (.cells #[.slice none 0 0, .slice none 0 0, .int .i64 0] WalkT)) := (Below.refl _ _).alloc (Nat.le_refl _) _
  have HAL := Lib.hid hal
  have HWK := Lib.hid (WkS.start w)
  have hgo : ∀ r, o = some r → 2 ≤ Sp.T.id r.d r.t ∧ Calls Tryz.prog 132 #[.pointer (some ⟨w.heap.size, 0, none⟩), .pointer (some ⟨s, 0, none⟩), .int .i64 ((Sp.T.id r.d r.t : Nat) : Int), .int .i64 1] (w.alloc (.cells #[.slice none 0 0, .slice none 0 0, .int .i64 0] WalkT)) fun e w' => e = .returned (.tuple #[]) ∧ ∃ vp, LbS w w' w.heap.size L vp := by
    intro r hr
    obtain ⟨f, V, h1, h2, hf⟩ := h.ex
    obtain ⟨hfd, hok, hd8⟩ := hf r hr
    refine ⟨hfd.root.1, ?_⟩
    have hc := hok.cnt_top
    have hl := Sp.T.leaves_len r.d r.t
    have hn : (Sp.T.items r.d r.t).length ≤ 1000 := by rw [hr] at hn; exact hn
    subst hr
    refine (goes_any w s f w.heap.size (w.heap.size + 1) V h2 h1 (Nat.le_refl _) r.d r.t 1 true [] [] (.slice none 0 0) (.slice none 0 0) _ hal (by simp) (WkS.start w) hfd hok (by omega) (by simp; omega) (by simp; omega)).mono ?_
    rintro e w' ⟨rfl, vi', vp', q1, q2, _, _⟩
    subst hL
    obtain ⟨xs, h3, h4⟩ := q1.op
    simp only [List.nil_append] at h3 h4
    exact ⟨rfl, vp', ⟨_, q1.blk⟩, ⟨xs, h3, h4.wide fun k hlt hk => absurd hk (by omega)⟩, q2⟩
  have HGO := Lib.hid hgo
  clear hal hgo hLi hLn h hL
  generalize hll : Sp.Rt.items o = l at *
  clear hll
  go_enter Tryz.func101, Tryz.ntmps101
  go_upto_region 2 with fail
  rcases o with _ | r
  · rw [show Sp.Rt.root (none : Option Sp.Rt) = 0 from rfl]
    have hw1 : ∃ W, W = w.alloc (.cells #[.slice none 0 0, .slice none 0 0, .int .i64 0] WalkT) := ⟨_, rfl⟩
    obtain ⟨W1, hW1⟩ := hw1
    have c1 : W1.cell? ⟨w.heap.size, 1, none⟩ = some (.slice none 0 0) := hW1 ▸ (Blk.new w WalkT _).cell 1
    have c2 : W1.cell? ⟨w.heap.size, 2, none⟩ = some (.int .i64 0) := hW1 ▸ (Blk.new w WalkT _).cell 2
    rw [← hW1]
    have HL0 := Lib.hid hl0
    have HB1 := Lib.hid (show Below w.heap.size w W1 from by rw [hW1]; exact HAL.out)
    clear HGO HLN HLI hl0 HAL HWK hW1
    go_upto_region 6 with fail
    go_loopw [7, 8] (fun ov iv wr => ov = .slice none 0 0 ∧ iv = .int .i64 0 ∧ wr = W1) (fun _ _ _ => 0)
    case atStart => exact ⟨rfl, rfl, rfl⟩
    case round =>
      obtain ⟨rfl, rfl, rfl⟩ := hrel
      go_upto_region 9 with fail
      go_region
      go_wp2_with fail
      refine bodyPost_ret (v := .tuple #[.slice none 0 0, .int .i64 0]) (by simp [results, Tryz.results101, go_sem]) rfl ⟨none, 0, by rw [HL0.out (by trivial)]; rfl, by rw [HL0.out (by trivial)]; exact Items.nil_, HB1.out.drew⟩
  · obtain ⟨hr2, hgo⟩ := HGO.out r rfl
    have hne : ¬ (((Sp.T.id r.d r.t : Nat) : Int) = 0) := by omega
    have hneb : (((Sp.T.id r.d r.t : Nat) : Int) == 0) = false := beq_eq_false_iff_ne.2 hne
    have HG1 := Lib.hid hgo
    clear HGO hgo HWK
    rw [show Sp.Rt.root (some r) = Sp.T.id r.d r.t from rfl]
    generalize Sp.T.id r.d r.t = id at *
    go_upto_region 6 with (go_at_call 132; refine HG1.out.mono ?_; rintro e wS ⟨rfl, vp, hB⟩; have LB := Lib.hid hB; clear hB)
    clear HG1
    generalize w.heap.size = g at *
    obtain ⟨⟨vi, hblk⟩, ⟨xs, hxs, hpc⟩, hbS⟩ := LB.out
    obtain ⟨Ap, cp, rfl⟩ := own_form hxs
    have HBK := Lib.hid hblk
    have HXS := Lib.hid hxs
    have HPC := Lib.hid hpc
    have hgS := hblk.lt
    clear hblk hxs hpc
    have L0 := Lib.hid (show LiS wS wS L 0 (.slice none 0 0) [] from ⟨Below.refl _ _, ⟨[], own_nil _ _ _ _, rfl⟩, rfl⟩)
    go_loopw [7, 8] (fun ov iv wr => ∃ (k : Nat) (l' : List Sp.Item), k ≤ L.length ∧ iv = .int .i64 (k : Int) ∧ Hid (LiS wS wr L k ov l')) (fun _ iv _ => L.length - (intOf iv).toNat)
    case atStart => exact ⟨0, [], Nat.zero_le _, rfl, L0⟩
    case round =>
      rename_i ov _
      obtain ⟨k, l', hk, rfl, R⟩ := hrel
      clear L0
      have hb := R.out.hb
      have c1 : wr.cell? ⟨g, 1, none⟩ = some (.slice Ap L.length cp) := (hb.cell (p := ⟨g, 1, none⟩) hgS).trans (HBK.out.cell 1)
      have c2 : wr.cell? ⟨g, 2, none⟩ = some (.int .i64 0) := (hb.cell (p := ⟨g, 2, none⟩) hgS).trans (HBK.out.cell 2)
      have HB := Lib.hid hb
      clear hb
      obtain ⟨ys, hys, hip⟩ := R.out.own
      obtain ⟨Ao, co, rfl⟩ := own_form hys
      have HYS := Lib.hid hys
      have HIP := Lib.hid hip
      clear hys hip
      by_cases hlt : k < L.length
      · obtain ⟨gp, cp', e1, hgp, hpq⟩ := own_some HXS.out (by omega)
        simp only [Value.slice.injEq] at e1
        obtain ⟨rfl, _, rfl⟩ := e1
        have hLk : L[k]? = some (L.getD k Sp.pg0) := by simp [List.getD, hlt]
        have hLm : L.getD k Sp.pg0 ∈ L := by simp [List.getD, hlt]
        obtain ⟨rr, hpr, hcx⟩ := HPC.out.at_ hLk
        have hne := HLN.out _ hLm
        have hle : (l' ++ (L.getD k Sp.pg0).items).length ≤ l.length := by
          have h1 := flat_snoc (·.items) L (k + 1)
          rw [Sp.take_snoc (d := Sp.pg0) hlt, List.flatMap_append, HLI.out, ← R.out.is] at h1
          simpa using h1
        rw [List.length_append] at hle
        have HNX := Lib.hid (fun W' v' zs => R.out.next (W' := W') (v' := v') (zs := zs) hlt HYS.out HIP.out)
        have h14 := hpq _ _ (hcx 1 (.slice rr.I (L.getD k Sp.pg0).items.length rr.i) rfl)
        have hpr2 := hpr.go HB.out
        generalize L.getD k Sp.pg0 = p at *
        obtain ⟨ib, io, hA, hib, _⟩ := hpr2.items.at_ (List.length_pos_iff.2 hne)
        have hit := hpr2.items
        rw [hA] at hit h14
        obtain ⟨zs, hz1, hz2⟩ := hit.flat
        have c14 : wr.cell? ⟨gp, k * 14 + 1, none⟩ = some (.slice (some ⟨ib, io, none⟩) p.items.length rr.i) := (HB.out.cell (p := ⟨gp, k * 14 + 1, none⟩) hgp).trans h14
        have HZ1 := Lib.hid hz1
        have HZ2 := Lib.hid (fun (j : Nat) (u : Value) (hu : zs[j]? = some u) => show wr.cell? ((⟨ib, io, none⟩ : Addr).add j) = some u by rw [Go.WideShapes.add_plain]; exact hz2 j u hu)
        have hzl := hz1.len
        have HZO := Lib.hid hz1.one
        clear hz1 hz2 hit hpr hpr2 hcx hpq h14 hLk hLm hA hne
        go_wp2_with (at_builtin; go_must (refine wpList_append_own _ rfl (.tmp 33) (.tmp 41) 116 rfl wS.heap.size ItemT i1 _ 10 112 Tryz.underlying116 hii1 hy0 hy1 hy2 rfl (by decide) (.slice Ao l'.length co) l'.length ys rfl HYS.out ⟨ib, io, none⟩ p.items.length rr.i zs rfl hzl HZ2.out HZO.out (by simp only [maxLen]; omega) (by omega) HB.out.size ?_); (intro v2 w2 hown2 hgr2 hnil2; have R2 := Lib.hid (HNX.out w2 v2 zs HZ1.out hown2 hgr2); clear hown2 hgr2 hnil2))
        refine ⟨⟨k + 1, _, by omega, by go_num, R2⟩, by simp [intOf]; omega⟩
      · obtain rfl : k = L.length := by omega
        have his := R.out.is
        rw [List.take_length, HLI.out] at his
        subst his
        go_upto_region 9 with fail
        go_region
        go_wp2_with fail
        refine bodyPost_ret (v := .tuple #[.slice Ao l'.length co, .int .i64 0]) (by simp [results, Tryz.results101, go_sem]) rfl ⟨Ao, co, rfl, ?_, (LB.out.hb.trans (HB.out.mono LB.out.hb.size)).drew⟩
        have hbw : Below wr.heap.size wr wr.drew := (Below.refl _ _).drew
        rcases Nat.eq_zero_or_pos l'.length with h0 | h0
        · rw [List.length_eq_zero_iff.1 h0]
          exact Items.nil_
        · obtain ⟨go, cc, e, hgl, hgc⟩ := own_some HYS.out h0
          simp only [Value.slice.injEq] at e
          obtain ⟨rfl, _, _⟩ := e
          exact (ItP.items (M := NoM) (hipn HIP.out) hgl (fun h => h) (fun j u hu => by rw [Nat.zero_add]; exact hgc j u hu) (by omega)).chg (Chg.of_below hbw)
end Go.Proofs.YtmcpkhknjdiocaaGreatDoor
namespace Go.Proofs.YtmcpkhknjdiocaaGreatDoor
open Go.RowKit
attribute [local go_sem low] mk_extract
attribute [local go_sem] After.cell After.frozen mk_extract_end ByteArray.mk_append_mk
theorem wanting_above (bx : Nat) (key : Txt) : Wanting 71 bx key (fun k => !Sp.lt k key) := by
  intro W k hb
  have c0 : W.cell? ⟨bx, 0, none⟩ = some (.string ⟨key.toArray⟩) := hb.cell 0
  clear hb
  go_enter Tryz.func71, Tryz.ntmps71
  go_wp2_with fail
  go_ret
  exact ⟨rfl, Below.refl _ _⟩
theorem gt_is (k key : Txt) : (!Op.bytesLess k key && !(k == key)) = Sp.lt key k := by
  rcases h : Sp.lt key k with _ | _
  · rcases gt_no h with h | h <;> simp [h]
  · obtain ⟨h1, h2⟩ := gt_yes h
    simp [h1, h2]
theorem wanting_behind (bx : Nat) (key : Txt) : Wanting 72 bx key (fun k => Sp.lt key k) := by
  intro W k hb
  have c0 : W.cell? ⟨bx, 0, none⟩ = some (.string ⟨key.toArray⟩) := hb.cell 0
  clear hb
  go_enter Tryz.func72, Tryz.ntmps72
  go_wp2_with fail
  go_ret
  exact ⟨ret_bool (gt_is k key), Below.refl _ _⟩
theorem FindIs.cases {B : Nat} {w : World} {e : Ending} {y : Option Sp.Item} (h : FindIs B w e y) : (y = none ∧ e = .returned (.tuple #[.agg itZ, .iface ErrT (.int .i64 21)])) ∨ ∃ z V c, y = some z ∧ e = .returned (.tuple #[.agg (itemV z V c).toArray, .nilIface]) ∧ ∀ M : Nat → Prop, (∀ k, B ≤ k → ¬ M k) → Txts w M V z.vals := by
  cases y with
  | none => exact .inl ⟨rfl, h⟩
  | some z =>
    obtain ⟨V, c, h1, h2⟩ := h
    exact .inr ⟨z, V, c, rfl, h1, h2⟩
/-- What the callers hold: the box of the key, the block of the item. -/
structure FbS (w W : World) (t : Nat) (o : Option Sp.Rt) (bi bx : Nat) (key : Txt) : Prop where
  tr : TrS W t o
  bz : Blk W bi ItemT itZ
  bx : Blk W bx StrT #[.string ⟨key.toArray⟩]
  hb : Below w.heap.size w W
  hi : w.heap.size ≤ bi
theorem FbS.go {w W W' : World} {t : Nat} {o : Option Sp.Rt} {bi bx : Nat} {key : Txt} (h : FbS w W t o bi bx key) (hb : Below W.heap.size W W') : FbS w W' t o bi bx key :=
  ⟨h.tr.go hb, h.bz.below hb h.bz.lt, h.bx.below hb h.bx.lt, h.hb.trans (hb.mono h.hb.size), h.hi⟩
/-- The form of what is told. -/
theorem FindIs.form {B : Nat} {w : World} {e : Ending} {y : Option Sp.Item} (h : FindIs B w e y) : ∃ a0 a1 a2 a3 a4 a5 a6 a7 a8 a9 ev, e = .returned (.tuple #[.agg #[a0, a1, a2, a3, a4, a5, a6, a7, a8, a9], ev]) ∧ #[a0, a1, a2, a3, a4, a5, a6, a7, a8, a9].all (·.oneCell') = true := by
  rcases h.cases with ⟨_, rfl⟩ | ⟨z, V, c, _, rfl, _⟩
  · exact ⟨_, _, _, _, _, _, _, _, _, _, _, rfl, by kernel_rfl⟩
  · exact ⟨_, _, _, _, _, _, _, _, _, _, _, rfl, itemV_all0 z V c⟩
theorem FindIs.go {B : Nat} {w w' : World} {e : Ending} {y : Option Sp.Item} (h : FindIs B w e y) (hb : Below w.heap.size w w') : FindIs B w' e y := by
  cases y with
  | none => exact h
  | some z =>
    obtain ⟨V, c, h1, h2⟩ := h
    exact ⟨V, c, h1, fun M hM => (h2 M hM).go hb⟩
/-- Behind a store into a block of the caller's own. -/
theorem FindIs.set {B B' g : Nat} {w : World} {cs : Array Value} {e : Ending} {y : Option Sp.Item} (h : FindIs B w e y) (hg : g < B) (hB : B' ≤ g) : FindIs B' (w.setRow g cs) e y := by
  cases y with
  | none => exact h
  | some z =>
    obtain ⟨V, c, h1, h2⟩ := h
    refine ⟨V, c, h1, fun M hM => ?_⟩
    have h3 := h2 (fun k => M k ∨ k = g) (fun k hk => by
      rintro (h | h)
      · exact hM k (by omega) h
      · omega)
    exact Row.anti (Row.chg h3 ((chg_setRow0 w g cs).mono (fun k _ h => .inr h))) (fun k h => .inl h)
set_option maxRecDepth 100000 in
set_option maxHeartbeats 1600000 in
theorem above_any (t : Nat) (o : Option Sp.Rt) (key : Txt) (w : World) (hs : TrS w t o) :
    Calls Tryz.prog 35 #[.pointer (some ⟨t, 0, none⟩), .int .i64 ((Sp.Rt.root o : Nat) : Int), .string ⟨key.toArray⟩] w fun e w' => FindIs w.heap.size w' e ((Sp.Rt.items o).find? fun y => !Sp.lt y.key key) ∧ Below w.heap.size w w' := by
  have hmf : ∀ (fn : Fn) (first cap : Array Value) (w : World), (Instr.makeFunc fn first cap).run Tryz.prog w = .ok (.func fn first cap) w := fun _ _ _ _ => rfl
  have hal : Below w.heap.size w ((w.alloc (.cells #[.string ⟨key.toArray⟩] StrT)).alloc (.cells itZ ItemT)) := ((Below.refl _ _).alloc (Nat.le_refl _) _).alloc (by simp) _
  have S0 := Lib.hid (show FbS w ((w.alloc (.cells #[.string ⟨key.toArray⟩] StrT)).alloc (.cells itZ ItemT)) t o (w.heap.size + 1) w.heap.size key from ⟨hs.go hal, blk_second _ _ _ _, (Blk.new _ _ _).alloc _, hal, by omega⟩)
  clear hs hal
  simp only [itZ] at *
  go_enter Tryz.func35, Tryz.ntmps35
  go_upto_region 1 with fail
  refine wp_gen (fun W => FbS w W t o (w.heap.size + 1) w.heap.size key) S0.out ?_
  clear S0
  generalize w.heap.size + 1 = bi at *
  intro w1 hS
  have S := Lib.hid hS
  have c0 : w1.cell? ⟨w.heap.size, 0, none⟩ = some (.string ⟨key.toArray⟩) := hS.bx.cell 0
  clear hS
  go_wp2_with (first
    | (go_at_call 70; refine (first_any t 71 w.heap.size o key key (fun k => !Sp.lt k key) _ S.out.tr S.out.bx (Sp.wants_at key) (fun _ _ => by kernel_rfl) (wanting_above _ _)).mono ?_; rintro e w2 ⟨hfi, hb2⟩; obtain ⟨a0, a1, a2, a3, a4, a5, a6, a7, a8, a9, ev, rfl, hall⟩ := hfi.form; have S2 := Lib.hid (S.out.go hb2); have HF := Lib.hid hfi; have HA := Lib.hid hall; clear hfi hb2 hall)
    | (refine wpList_store_row rfl ItemT _ _ rfl bi _ rfl rfl ItemT _ S2.out.bz (by kernel_rfl) rfl HA.out ?_))
  obtain ⟨⟨z0, z1, z2, z3, z4, z5, z6, z7, z8, z9⟩, _⟩ := (S2.out.bz.row (ds := #[a0, a1, a2, a3, a4, a5, a6, a7, a8, a9])).at10
  have hb4 : Below w.heap.size w (w2.setRow bi #[a0, a1, a2, a3, a4, a5, a6, a7, a8, a9]) := below_setRow S2.out.hb S2.out.hi _
  refine bodyPost_ret (v := .tuple #[.agg #[a0, a1, a2, a3, a4, a5, a6, a7, a8, a9], ev]) (by simp [results, Tryz.results35, go_sem, z0, z1, z2, z3, z4, z5, z6, z7, z8, z9]) rfl ⟨?_, hb4⟩
  exact HF.out.set S.out.bz.lt S.out.hi
set_option maxRecDepth 100000 in
set_option maxHeartbeats 1600000 in
theorem behind_any (t : Nat) (o : Option Sp.Rt) (key : Txt) (w : World) (hs : TrS w t o) :
    Calls Tryz.prog 37 #[.pointer (some ⟨t, 0, none⟩), .int .i64 ((Sp.Rt.root o : Nat) : Int), .string ⟨key.toArray⟩] w fun e w' => FindIs w.heap.size w' e ((Sp.Rt.items o).find? fun y => Sp.lt key y.key) ∧ Below w.heap.size w w' := by
  have hmf : ∀ (fn : Fn) (first cap : Array Value) (w : World), (Instr.makeFunc fn first cap).run Tryz.prog w = .ok (.func fn first cap) w := fun _ _ _ _ => rfl
  have hal : Below w.heap.size w ((w.alloc (.cells #[.string ⟨key.toArray⟩] StrT)).alloc (.cells itZ ItemT)) := ((Below.refl _ _).alloc (Nat.le_refl _) _).alloc (by simp) _
  have S0 := Lib.hid (show FbS w ((w.alloc (.cells #[.string ⟨key.toArray⟩] StrT)).alloc (.cells itZ ItemT)) t o (w.heap.size + 1) w.heap.size key from ⟨hs.go hal, blk_second _ _ _ _, (Blk.new _ _ _).alloc _, hal, by omega⟩)
  clear hs hal
  simp only [itZ] at *
  go_enter Tryz.func37, Tryz.ntmps37
  go_upto_region 1 with fail
  refine wp_gen (fun W => FbS w W t o (w.heap.size + 1) w.heap.size key) S0.out ?_
  clear S0
  generalize w.heap.size + 1 = bi at *
  intro w1 hS
  have S := Lib.hid hS
  have c0 : w1.cell? ⟨w.heap.size, 0, none⟩ = some (.string ⟨key.toArray⟩) := hS.bx.cell 0
  clear hS
  go_wp2_with (first
    | (go_at_call 70; refine (first_any t 72 w.heap.size o key key (fun k => Sp.lt key k) _ S.out.tr S.out.bx (Sp.wants_behind key) (fun _ _ => by kernel_rfl) (wanting_behind _ _)).mono ?_; rintro e w2 ⟨hfi, hb2⟩; obtain ⟨a0, a1, a2, a3, a4, a5, a6, a7, a8, a9, ev, rfl, hall⟩ := hfi.form; have S2 := Lib.hid (S.out.go hb2); have HF := Lib.hid hfi; have HA := Lib.hid hall; clear hfi hb2 hall)
    | (refine wpList_store_row rfl ItemT _ _ rfl bi _ rfl rfl ItemT _ S2.out.bz (by kernel_rfl) rfl HA.out ?_))
  obtain ⟨⟨z0, z1, z2, z3, z4, z5, z6, z7, z8, z9⟩, _⟩ := (S2.out.bz.row (ds := #[a0, a1, a2, a3, a4, a5, a6, a7, a8, a9])).at10
  have hb4 : Below w.heap.size w (w2.setRow bi #[a0, a1, a2, a3, a4, a5, a6, a7, a8, a9]) := below_setRow S2.out.hb S2.out.hi _
  refine bodyPost_ret (v := .tuple #[.agg #[a0, a1, a2, a3, a4, a5, a6, a7, a8, a9], ev]) (by simp [results, Tryz.results37, go_sem, z0, z1, z2, z3, z4, z5, z6, z7, z8, z9]) rfl ⟨?_, hb4⟩
  exact HF.out.set S.out.bz.lt S.out.hi
end Go.Proofs.YtmcpkhknjdiocaaGreatDoor
