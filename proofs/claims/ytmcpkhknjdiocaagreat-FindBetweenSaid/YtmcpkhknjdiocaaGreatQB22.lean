/- The leaf in which a key is: find.leaf over a tree on a file. The first item that is wanted, from a key on: find.first. find.Above, Behind, Get. find.Get. What find tells of trees of numbers; how a store is laid over them; law10's known tree. -/
import Derived.Test.YtmcpkhknjdiocaaGreatQB21
set_option linter.unusedSimpArgs false
set_option linter.unusedVariables false
namespace Go.Proofs.YtmcpkhknjdiocaaGreat
open Go.RowKit
attribute [local go_sem low] mk_extract
attribute [local go_sem] After.cell After.frozen mk_extract_end ByteArray.mk_append_mk
theorem readPg_is {s : Txt} (h : Sp.readOk s = true) : readPg s = Sp.parse s := by unfold readPg; rw [h, if_pos rfl]
theorem gt_yes {x key : Txt} (h : Sp.lt key x = true) : Op.bytesLess x key = false ∧ (x == key) = false := by
  refine ⟨Sp.lt_asymm h, beq_eq_false_iff_ne.2 fun e => ?_⟩
  rw [e, Sp.lt_irr] at h
  simp at h
theorem gt_no {x key : Txt} (h : Sp.lt key x = false) : Op.bytesLess x key = true ∨ (x == key) = true := by
  rcases Sp.lt_tri key x with h1 | h1 | h1
  · rw [h] at h1; simp at h1
  · exact .inr (beq_iff_eq.2 h1.symm)
  · exact .inl h1
/-- What leaf holds between its rounds. -/
structure LoopS (w W : World) (t f m d : Nat) (last : Int) (v : Value) (V : List Txt) : Prop where
  st : St0 W t f m d last v V
  bz : Blk W w.heap.size PageT pgZ0
  hb : Below w.heap.size w W
theorem LoopS.go {w W W' : World} {t f m d : Nat} {last : Int} {v : Value} {V : List Txt} (h : LoopS w W t f m d last v V) (hb : Below W.heap.size W W') : LoopS w W' t f m d last v V :=
  ⟨h.st.go hb, h.bz.below hb h.bz.lt, h.hb.trans (hb.mono h.hb.size)⟩
structure LpS (w W : World) (t f m d : Nat) (last : Int) (v : Value) (V : List Txt) (b : Nat) (p : Sp.Page) (r : Refs) : Prop where
  l : LoopS w W t f m d last v V
  bp : Blk W b PageT (pageV p r).toArray
  pr : ∀ M : Nat → Prop, (∀ k, w.heap.size < k → ¬ M k) → PageRd W M p r
  ne : w.heap.size < b
theorem LpS.go {w W W' : World} {t f m d : Nat} {last : Int} {v : Value} {V : List Txt} {b : Nat} {p : Sp.Page} {r : Refs} (h : LpS w W t f m d last v V b p r) (hb : Below W.heap.size W W') : LpS w W' t f m d last v V b p r :=
  ⟨h.l.go hb, h.bp.below hb h.bp.lt, fun M hM => (h.pr M hM).go hb, h.ne⟩
theorem LpS.start {w wr w2 : World} {t f m d : Nat} {last : Int} {v : Value} {V : List Txt} {p : Sp.Page} {r : Refs} (h : LoopS w wr t f m d last v V) (hb : Below wr.heap.size wr w2) (hr : ∀ M : Nat → Prop, (∀ k, wr.heap.size ≤ k → ¬ M k) → PageRd w2 M p r) :
    LpS w (w2.alloc (.cells (pageV p r).toArray PageT)) t f m d last v V w2.heap.size p r := by
  have hal : Below w2.heap.size w2 (w2.alloc (.cells (pageV p r).toArray PageT)) := (Below.refl _ _).alloc (Nat.le_refl _) _
  have h1 := h.bz.lt
  exact ⟨(h.go hb).go hal, Blk.new _ _ _, fun M hM => (hr M fun k hk => hM k (by omega)).go hal, Nat.lt_of_lt_of_le h.bz.lt hb.size⟩
set_option maxRecDepth 100000 in
set_option maxHeartbeats 3200000 in
theorem leaf_any (t f m dd : Nat) (last : Int) (v : Value) (V : List Txt) (d : Nat) (tr : Sp.T d) (key : Txt) (w : World) (hs : St0 w t f m dd last v V) (hn : V.length ≤ 400) (hf : Sp.T.Filed V d tr) (hok : Sp.T.Ok d true tr) (hd : d < 8) :
    Calls Tryz.prog 80 #[.pointer (some ⟨t, 0, none⟩), .int .i64 ((Sp.T.id d tr : Nat) : Int), .string ⟨key.toArray⟩] w fun e w' => ∃ r, e = .returned (.tuple #[.agg (pageV (Sp.leafPg (Sp.leafOf d tr key []).1) r).toArray, .string ⟨(Sp.leafOf d tr key []).2.toArray⟩, .nilIface]) ∧ (∀ M : Nat → Prop, (∀ k, w.heap.size ≤ k → ¬ M k) → PageRd w' M (Sp.leafPg (Sp.leafOf d tr key []).1) r) ∧ Below w.heap.size w w' := by
  have hal : Below w.heap.size w (w.alloc (.cells pgZ0 PageT)) := (Below.refl _ _).alloc (Nat.le_refl _) _
  have HS := Lib.hid (show LoopS w (w.alloc (.cells pgZ0 PageT)) t f m dd last v V from ⟨hs.go hal, Blk.new _ _ _, hal⟩)
  have HF := Lib.hid hf
  have HOK := Lib.hid hok
  clear hs hal hf hok
  generalize hres : Sp.leafOf d tr key [] = res at *
  have HRES := Lib.hid hres
  clear hres
  simp only [pgZ0] at *
  go_enter Tryz.func80, Tryz.ntmps80
  go_upto_region 1 with fail
  refine wp_gen (fun W => LoopS w W t f m dd last v V) HS.out ?_
  clear HS
  intro w1 hS
  have S := Lib.hid hS
  clear hS
  go_upto_region 3 with fail
  go_wp2_with fail
  go_loopw [9, 10, 15] (fun bv iv cv wr => ∃ (j d' : Nat) (t' : Sp.T d') (b : Txt), bv = .string ⟨b.toArray⟩ ∧ iv = .int .i64 ((Sp.T.id d' t' : Nat) : Int) ∧ cv = .int .i64 (j : Int) ∧ j + d' < 8 ∧ Hid (Sp.T.Filed V d' t') ∧ Hid (Sp.T.Ok d' true t') ∧ Hid (Sp.leafOf d' t' key b = res) ∧ Hid (LoopS w wr t f m dd last v V)) (fun _ _ cv _ => 8 - (intOf cv).toNat)
  case atStart => exact ⟨0, d, tr, [], rfl, rfl, rfl, by omega, HF, HOK, HRES, S⟩
  case round =>
    obtain ⟨j, d', t', b, rfl, rfl, rfl, hj, F, OK, RES, R⟩ := hrel
    obtain ⟨hid2, hid4, hrd, hpp⟩ := F.out.root
    have hj8 : (j : Int) < 8 := by omega
    have HRD := Lib.hid hrd
    have HPP := Lib.hid hpp
    clear hrd hpp S
    have hzw : w.heap.size < wr.heap.size := R.out.bz.lt
    rcases d' with _ | d'
    · obtain ⟨id, l0⟩ := t'
      have hr2 := RES.out
      have hr2 : (l0, b) = res := hr2
      subst hr2
      have hpp : Sp.parse (Sp.atV V (id : Int)) = Sp.leafPg l0 := HPP.out
      have HP2 := Lib.hid hpp
      have hid2 : 2 ≤ id := hid2
      have hid4 : id < 400 := hid4
      have HR2 := Lib.hid (show Sp.readOk (Sp.atV V (id : Int)) = true from HRD.out)
      clear HPP HRD hpp F OK RES HF HOK HRES
      rw [show Sp.T.id 0 (id, l0) = id from rfl]
      go_upto_region 6 with (first
        | (go_at_call 109; refine (storeRead_any t f m dd last v V (id : Int) _ R.out.st hn (by omega) (by omega)).mono ?_; rintro e w2 ⟨r, rfl, hr, hb2⟩; rw [readV_yes HR2.out, HP2.out]; rw [readPg_is HR2.out, HP2.out] at hr; have HT := Lib.hid (LpS.start R.out hb2 hr); clear hr hb2)
        | (refine wpList_new PageT _ _ rfl rfl rfl rfl rfl rfl _ rfl (of_decide_eq_true (by kernel_rfl)) (by kernel_rfl) (by kernel_rfl) (by kernel_rfl) ?_))
      refine wp_gen (fun W => LpS w W t f m dd last v V w2.heap.size (Sp.leafPg l0) r) HT.out ?_
      clear HT R
      intro w3 hT
      have T := Lib.hid hT
      clear hT
      generalize w2.heap.size = bq at *
      have c0 : w3.cell? ⟨bq, 0, none⟩ = some (.int .i64 1) := T.out.bp.cell 0
      go_wp2_with (first
        | (refine wpList_row PageT _ rfl bq rfl rfl PageT _ (0, 0) _ T.out.bp Tryz.underlying108 rfl (by kernel_rfl) ?_)
        | (refine wpList_store_row rfl PageT _ _ rfl w.heap.size _ rfl rfl PageT _ T.out.l.bz (by kernel_rfl) rfl (pageV_all0 (Sp.leafPg l0) r) ?_))
      all_goals
        obtain ⟨⟨z0, z1, z2, z3, z4, z5, z6, z7, z8, z9, z10, z11, z12, z13⟩, _⟩ := (T.out.l.bz.row (ds := #[.int .i64 1, .slice r.I l0.length r.i, .slice r.K 0 r.k, .slice r.D 0 r.d, .string ⟨#[]⟩, .slice r.V 0 r.v, .slice r.F 0 r.f, .int .i64 0, .int .u64 0, .int .i64 0, .int .i64 0, .int .i64 0, .int .i64 0, .int .i64 0])).at14
        have hb4 : Below w.heap.size w (w3.setRow w.heap.size (pageV (Sp.leafPg l0) r).toArray) := below_setRow T.out.l.hb (Nat.le_refl _) _
        refine bodyPost_ret (v := .tuple #[.agg (pageV (Sp.leafPg l0) r).toArray, .string ⟨b.toArray⟩, .nilIface]) (by simp [results, Tryz.results80, go_sem, pageV, mtV, Sp.leafPg, Sp.mt0, Sp.root0, z0, z1, z2, z3, z4, z5, z6, z7, z8, z9, z10, z11, z12, z13]) rfl ⟨r, rfl, fun M hM => ?_, hb4⟩
        have h1 := T.out.pr (fun k => M k ∨ k = w.heap.size) (fun k hk => ?_)
        · exact (h1.chg ((chg_setRow0 w3 w.heap.size _).mono (fun k _ h => .inr h))).anti (fun k h => .inl h)
        · rintro (h | h)
          · exact hM k (Nat.le_of_lt hk) h
          · omega
    · obtain ⟨id, cs⟩ := t'
      obtain ⟨l2, l4, hhd, hpt, hsh, hkid⟩ := OK.out
      have l2 : 2 ≤ cs.length := l2
      have hcne : cs ≠ [] := by intro e; rw [e] at l2; simp at l2
      have hke : Sp.KeysRise cs := Sp.parted_keys hpt fun c hc => (hkid c hc).ne
      have hip : Sp.isPage (Sp.T.page (d' + 1) (id, cs)) = true := by
        have := (Sp.readOk_page HRD.out).1
        rw [HPP.out] at this
        exact this
      have HPP2 := Lib.hid (show Sp.parse (Sp.atV V (id : Int)) = Sp.branchPg (cs.map (·.1)) (cs.map fun c => ((Sp.T.id d' c.2 : Nat) : Int)) from HPP.out)
      have HIP := Lib.hid (show Sp.isPage (Sp.branchPg (cs.map (·.1)) (cs.map fun c => ((Sp.T.id d' c.2 : Nat) : Int))) = true from hip)
      have hid2 : 2 ≤ id := hid2
      have hid4 : id < 400 := hid4
      have HR2 := Lib.hid (show Sp.readOk (Sp.atV V (id : Int)) = true from HRD.out)
      have FK := Lib.hid (show ∀ c ∈ cs, Sp.T.Filed V d' c.2 from F.out.2)
      have OKK := Lib.hid (show ∀ c ∈ cs, Sp.T.Ok d' false c.2 from hkid)
      have HKE := Lib.hid hke
      have hcl1 : (cs.map (·.1)).length = cs.length := List.length_map _
      have hcl2 : (cs.map fun c => ((Sp.T.id d' c.2 : Nat) : Int)).length = cs.length := List.length_map _
      clear HPP HRD F OK HF HOK HRES hip hke hkid hhd hpt hsh
      rw [show Sp.T.id (d' + 1) (id, cs) = id from rfl]
      generalize hks : cs.map (·.1) = ks at *
      generalize his : (cs.map fun c => ((Sp.T.id d' c.2 : Nat) : Int)) = is at *
      have HKS := Lib.hid hks
      have HIS := Lib.hid his
      clear hks his
      go_upto_region 6 with (first
        | (go_at_call 109; refine (storeRead_any t f m dd last v V (id : Int) _ R.out.st hn (by omega) (by omega)).mono ?_; rintro e w2 ⟨r, rfl, hr, hb2⟩; rw [readV_yes HR2.out, HPP2.out]; rw [readPg_is HR2.out, HPP2.out] at hr; have HT := Lib.hid (LpS.start R.out hb2 hr); clear hr hb2)
        | (refine wpList_new PageT _ _ rfl rfl rfl rfl rfl rfl _ rfl (of_decide_eq_true (by kernel_rfl)) (by kernel_rfl) (by kernel_rfl) (by kernel_rfl) ?_))
      refine wp_gen (fun W => LpS w W t f m dd last v V w2.heap.size (Sp.branchPg ks is) r) HT.out ?_
      clear HT R
      intro w3 hT
      have T := Lib.hid hT
      clear hT
      generalize w2.heap.size = bq at *
      have c0 : w3.cell? ⟨bq, 0, none⟩ = some (.int .i64 2) := T.out.bp.cell 0
      go_upto_region 10 with (first
        | (refine wpList_row PageT _ rfl bq rfl rfl PageT _ (0, 0) _ T.out.bp Tryz.underlying108 rfl (by kernel_rfl) ?_)
        | (go_at_call 110; refine (isPage_any (M := NoM) (Sp.branchPg ks is) r _ (T.out.pr NoM (fun _ _ h => h))).mono ?_; rintro e w4 ⟨rfl, hb4⟩; rw [HIP.out]; replace T := Lib.hid (T.out.go hb4); clear hb4))
      obtain ⟨kb, ko, hKA, hkb, hkc⟩ := (T.out.pr NoM (fun _ _ h => h)).keys.at_ (k := 0) (by show 0 < ks.length; omega)
      obtain ⟨ib, io, hIA, hib, hic⟩ := (T.out.pr NoM (fun _ _ h => h)).kids.at_ (k := 0) (by show 0 < is.length; omega)
      have hkc : ∀ j, j < ks.length → w4.cell? ⟨kb, ko + j, none⟩ = some (.string ⟨(ks.getD j []).toArray⟩) := hkc
      have hic : ∀ j, j < is.length → w4.cell? ⟨ib, io + j, none⟩ = some (.int .i64 (is.getD j 0)) := hic
      have c2 : w4.cell? ⟨bq, 2, none⟩ = some (.slice (some ⟨kb, ko, none⟩) ks.length r.k) := hKA ▸ T.out.bp.cell 2
      have c3 : w4.cell? ⟨bq, 3, none⟩ = some (.slice (some ⟨ib, io, none⟩) is.length r.d) := hIA ▸ T.out.bp.cell 3
      have HKC := Lib.hid hkc
      have HIC := Lib.hid hic
      clear hkc hic hKA hIA c0
      go_upto_region 11 with fail
      go_wp2_with fail
      go_loopw [9, 13] (fun bv kv wr2 => ∃ k : Nat, k < cs.length ∧ kv = .int .i64 (k : Int) ∧ bv = .string ⟨(Sp.bel cs k b).toArray⟩ ∧ Hid (∀ p ∈ cs.drop (k + 1), Sp.lt key p.1 = true) ∧ wr2 = w4) (fun _ kv _ => (intOf kv).toNat)
      case atStart => exact ⟨cs.length - 1, by omega, by congr 1; omega, by rw [Sp.bel_last hcne], Lib.hid (fun p hp => by rw [List.drop_eq_nil_of_le (by omega)] at hp; cases hp), rfl⟩
      case round =>
        obtain ⟨k, hk, rfl, rfl, HD, rfl⟩ := hrel
        have hkk := HKC.out k (by omega)
        have hki := HIC.out k (by omega)
        have hcc := List.getElem?_eq_getElem hk
        have HCC := Lib.hid hcc
        have HCM := Lib.hid (List.getElem_mem hk)
        have hkid2 : is.getD k 0 = ((Sp.T.id d' cs[k].2 : Nat) : Int) := by rw [← HIS.out]; simp [List.getD, hcc]
        have hkey2 : ks.getD k [] = cs[k].1 := by rw [← HKS.out]; simp [List.getD, hcc]
        rw [hkid2] at hki
        have HK2 := Lib.hid hkey2
        have ENDS := Lib.hid (fun (h0 : k = 0 ∨ Sp.lt key cs[k].1 = false) => show Sp.leafOf d' cs[k].2 key (Sp.bel cs k b) = res from (Sp.leafOf_down HKE.out hcc h0 HD.out).symm.trans RES.out)
        clear hcc hkid2 hkey2
        generalize hcd : cs[k] = cd at *
        clear hcd
        by_cases h0 : k = 0
        · have E0 := Lib.hid (ENDS.out (.inl h0))
          subst h0
          have hki : wr.cell? ⟨ib, io, none⟩ = some (.int .i64 ((Sp.T.id d' cd.2 : Nat) : Int)) := hki
          go_wp2_with fail
          all_goals
            refine ⟨⟨j + 1, d', cd.2, _, rfl, rfl, by go_num, by omega, Lib.hid (FK.out cd HCM.out), Lib.hid (OKK.out cd HCM.out).top, E0, Lib.hid T.out.l⟩, by simp [intOf]; omega⟩
        · have h0' : 0 < (k : Int) := by omega
          have HS1 := Lib.hid (Sp.bel_step (b := b) hk (by omega))
          have HS2 := Lib.hid (fun (h : Sp.lt key ((cs.map (·.1)).getD k []) = true) => Sp.drop_step hk (by omega) HD.out h)
          rw [HKS.out] at HS1 HS2
          generalize ks.getD k [] = kx at *
          rcases hq : Sp.lt key kx with _ | _
          · have E0 := Lib.hid (ENDS.out (.inr (HK2.out ▸ hq)))
            rcases gt_no hq with hq1 | hq1
            all_goals
              clear hq
              go_wp2_with fail
              refine ⟨⟨j + 1, d', cd.2, _, rfl, rfl, by go_num, by omega, Lib.hid (FK.out cd HCM.out), Lib.hid (OKK.out cd HCM.out).top, E0, Lib.hid T.out.l⟩, by simp [intOf]; omega⟩
          · obtain ⟨hq1, hq2⟩ := gt_yes hq
            have HS3 := Lib.hid (HS2.out hq)
            clear hq HS2
            go_wp2_with fail
            refine ⟨⟨k - 1, by omega, by congr 1; omega, by rw [HS1.out], HS3, trivial⟩, by simp [intOf]; omega⟩
end Go.Proofs.YtmcpkhknjdiocaaGreat
namespace Go.Proofs.YtmcpkhknjdiocaaGreat
open Go.RowKit
attribute [local go_sem low] mk_extract
attribute [local go_sem] After.cell After.frozen mk_extract_end ByteArray.mk_append_mk
/-- A store over a file on which a tree is. -/
structure TrS (w : World) (t : Nat) (o : Option Sp.Rt) : Prop where
  ex : ∃ f m d last v V, St0 w t f m d last v V ∧ V.length ≤ 400 ∧ Sp.Rt.Filed V o
theorem TrS.go {w w' : World} {t : Nat} {o : Option Sp.Rt} (h : TrS w t o) (hb : Below w.heap.size w w') : TrS w' t o := by
  obtain ⟨f, m, d, last, v, V, h1, h2, h3⟩ := h.ex
  exact ⟨f, m, d, last, v, V, h1.go hb, h2, h3⟩
def itZ : Array Value := #[.string ⟨#[]⟩, .int .i64 0, .string ⟨#[]⟩, .int .i64 0, .int .i64 0, .slice none 0 0, .int .i64 0, .int .i64 0, .int .i64 0, .int .i64 0]
/-- What is told of an item that is sought. -/
def FindIs (B : Nat) (w : World) (e : Ending) (y : Option Sp.Item) : Prop := match y with
  | none => e = .returned (.tuple #[.agg itZ, .iface ErrT (.int .i64 21)])
  | some y => ∃ V c, e = .returned (.tuple #[.agg (itemV y V c).toArray, .nilIface]) ∧ ∀ M : Nat → Prop, (∀ k, B ≤ k → ¬ M k) → Txts w M V y.vals
/-- What first holds between its rounds. -/
structure FrS (w W : World) (t : Nat) (o : Option Sp.Rt) (bx : Nat) (key0 : Txt) : Prop where
  tr : TrS W t o
  bz : Blk W w.heap.size ItemT itZ
  bx : Blk W bx StrT #[.string ⟨key0.toArray⟩]
  hb : Below w.heap.size w W
theorem FrS.go {w W W' : World} {t : Nat} {o : Option Sp.Rt} {bx : Nat} {key0 : Txt} (h : FrS w W t o bx key0) (hb : Below W.heap.size W W') : FrS w W' t o bx key0 :=
  ⟨h.tr.go hb, h.bz.below hb h.bz.lt, h.bx.below hb h.bx.lt, h.hb.trans (hb.mono h.hb.size)⟩
/-- A wanted function: whatever is asked, so it answers. -/
def Wanting (fn bx : Nat) (key0 : Txt) (wk : Txt → Bool) : Prop := ∀ (W : World) (k : Txt), Blk W bx StrT #[.string ⟨key0.toArray⟩] → Calls Tryz.prog fn #[.string ⟨k.toArray⟩, .pointer (some ⟨bx, 0, none⟩)] W fun e w' => e = .returned (.bool (wk k)) ∧ Below W.heap.size W w'
theorem itemV_all0 (x : Sp.Item) (V : Option Addr) (c : Nat) : (itemV x V c).toArray.all (·.oneCell') = true := by
  rw [Array.all_eq_true_iff_forall_mem]
  intro u hu
  have hu : u ∈ itemV x V c := by simpa using hu
  simp only [itemV, List.mem_cons, List.not_mem_nil, or_false] at hu
  rcases hu with rfl | rfl | rfl | rfl | rfl | rfl | rfl | rfl | rfl | rfl <;> rfl
/-- What first holds at a leaf. -/
structure FpS (w W : World) (t : Nat) (o : Option Sp.Rt) (bx : Nat) (key0 : Txt) (b : Nat) (l0 : List Sp.Item) (r : Refs) (ib io : Nat) : Prop where
  l : FrS w W t o bx key0
  bp : Blk W b PageT (pageV (Sp.leafPg l0) r).toArray
  hib : ib < W.heap.size
  it : ∀ k, k < l0.length → ∃ V c, ItemAt W ib (io + k * 10) (l0.getD k Sp.item0) V c ∧ ∀ M : Nat → Prop, (∀ k, w.heap.size < k → ¬ M k) → Txts W M V (l0.getD k Sp.item0).vals
theorem FpS.go {w W W' : World} {t : Nat} {o : Option Sp.Rt} {bx : Nat} {key0 : Txt} {b : Nat} {l0 : List Sp.Item} {r : Refs} {ib io : Nat} (h : FpS w W t o bx key0 b l0 r ib io) (hb : Below W.heap.size W W') : FpS w W' t o bx key0 b l0 r ib io :=
  ⟨h.l.go hb, h.bp.below hb h.bp.lt, Nat.lt_of_lt_of_le h.hib hb.size, fun k hk => by
    obtain ⟨V, c, h1, h2⟩ := h.it k hk
    exact ⟨V, c, h1.keep fun j => hb.cell (p := ⟨ib, j, none⟩) h.hib, fun M hM => (h2 M hM).go hb⟩⟩
theorem FpS.start {w W W' : World} {t : Nat} {o : Option Sp.Rt} {bx : Nat} {key0 : Txt} {l0 : List Sp.Item} {r : Refs} (h : FrS w W t o bx key0) (hb : Below W.heap.size W W') (hr : ∀ M : Nat → Prop, (∀ k, W.heap.size ≤ k → ¬ M k) → PageRd W' M (Sp.leafPg l0) r) (h0 : 0 < l0.length) :
    ∃ ib io, r.I = some ⟨ib, io, none⟩ ∧ FpS w (W'.alloc (.cells (pageV (Sp.leafPg l0) r).toArray PageT)) t o bx key0 W'.heap.size l0 r ib io := by
  have hal : Below W'.heap.size W' (W'.alloc (.cells (pageV (Sp.leafPg l0) r).toArray PageT)) := (Below.refl _ _).alloc (Nat.le_refl _) _
  have hlt := h.bz.lt
  have hI : Items W' NoM r.I l0 := (hr NoM fun _ _ h => h).items
  obtain ⟨ib, io, hA, hib, hit⟩ := hI.at_ h0
  refine ⟨ib, io, hA, (h.go hb).go hal, Blk.new _ _ _, Nat.lt_of_lt_of_le hib hal.size, fun k hk => ?_⟩
  obtain ⟨V, c, h1, _⟩ := hit k hk
  refine ⟨V, c, h1.keep fun j => hal.cell (p := ⟨ib, j, none⟩) hib, fun M hM => ?_⟩
  obtain ⟨ib2, io2, hA2, _, hit2⟩ := (hr M fun k hk => hM k (by omega)).items.at_ h0
  rw [hA] at hA2
  obtain ⟨rfl, rfl⟩ : ib = ib2 ∧ io = io2 := by simpa using hA2
  obtain ⟨V2, c2, h3, h4⟩ := hit2 k hk
  have e := h1.c5.symm.trans h3.c5
  have e : V = V2 := by
    have := Option.some.inj e
    simp only [Value.slice.injEq] at this
    exact this.1
  rw [e]
  exact h4.go hal
/-- At an item of its own. -/
structure FxS (w W : World) (t : Nat) (o : Option Sp.Rt) (bx : Nat) (key0 : Txt) (b : Nat) (l0 : List Sp.Item) (r : Refs) (ib io bq : Nat) (y : Sp.Item) (V : Option Addr) (c : Nat) : Prop where
  p : FpS w W t o bx key0 b l0 r ib io
  by_ : Blk W bq ItemT (itemV y V c).toArray
  vs : ∀ M : Nat → Prop, (∀ k, w.heap.size < k → ¬ M k) → Txts W M V y.vals
theorem FxS.go {w W W' : World} {t : Nat} {o : Option Sp.Rt} {bx : Nat} {key0 : Txt} {b : Nat} {l0 : List Sp.Item} {r : Refs} {ib io bq : Nat} {y : Sp.Item} {V : Option Addr} {c : Nat} (h : FxS w W t o bx key0 b l0 r ib io bq y V c) (hb : Below W.heap.size W W') : FxS w W' t o bx key0 b l0 r ib io bq y V c :=
  ⟨h.p.go hb, h.by_.below hb h.by_.lt, fun M hM => (h.vs M hM).go hb⟩
set_option maxRecDepth 100000 in
set_option maxHeartbeats 1600000 in
theorem first_none (t fn bx : Nat) (key : Txt) (w : World) :
    Calls Tryz.prog 52 #[.pointer (some ⟨t, 0, none⟩), .int .i64 0, .string ⟨key.toArray⟩, .func (.func fn) #[] #[.pointer (some ⟨bx, 0, none⟩)]] w fun e w' => FindIs w.heap.size w' e none ∧ Below w.heap.size w w' := by
  have hal : Below w.heap.size w (w.alloc (.cells itZ ItemT)) := (Below.refl _ _).alloc (Nat.le_refl _) _
  have HZ := Lib.hid (Blk.new w ItemT itZ)
  simp only [itZ] at *
  go_enter Tryz.func52, Tryz.ntmps52
  go_wp2_with fail
  go_step3
  go_wp2_with (refine wpList_store_row rfl ItemT _ _ rfl w.heap.size _ rfl rfl ItemT _ HZ.out (by kernel_rfl) rfl (by rfl) ?_)
  try rw [Exit.noGoto_ret]
  obtain ⟨⟨z0, z1, z2, z3, z4, z5, z6, z7, z8, z9⟩, _⟩ := (HZ.out.row (ds := itZ)).at10
  refine bodyPost_ret (v := .tuple #[.agg itZ, .iface ErrT (.int .i64 21)]) (by simp [results, Tryz.results52, go_sem, itZ, z0, z1, z2, z3, z4, z5, z6, z7, z8, z9]) rfl ⟨rfl, hal⟩
set_option maxRecDepth 100000 in
set_option maxHeartbeats 1600000 in
theorem first_any (t fn bx : Nat) (o : Option Sp.Rt) (key0 key : Txt) (wk : Txt → Bool) (w : World) (hs : TrS w t o) (hbx : Blk w bx StrT #[.string ⟨key0.toArray⟩]) (hw : Sp.Wants (fun y => wk y.key) key) (hcf : ∀ args w, (callFunc fn args).run Tryz.prog w = .ok (.enter fn args) w) (CL : Wanting fn bx key0 wk) :
    Calls Tryz.prog 52 #[.pointer (some ⟨t, 0, none⟩), .int .i64 ((Sp.Rt.root o : Nat) : Int), .string ⟨key.toArray⟩, .func (.func fn) #[] #[.pointer (some ⟨bx, 0, none⟩)]] w fun e w' => FindIs w.heap.size w' e ((Sp.Rt.items o).find? fun y => wk y.key) ∧ Below w.heap.size w w' := by
  have hal : Below w.heap.size w (w.alloc (.cells itZ ItemT)) := (Below.refl _ _).alloc (Nat.le_refl _) _
  have S0 := Lib.hid (show FrS w (w.alloc (.cells itZ ItemT)) t o bx key0 from ⟨hs.go hal, Blk.new _ _ _, hbx.below hal hbx.lt, hal⟩)
  have HW := Lib.hid hw
  clear hbx hw hal
  rcases o with _ | o
  · exact first_none t fn bx key w
  obtain ⟨f, m, dd, last, v, V, hst, hnV, hfl⟩ := hs.ex
  obtain ⟨hfd, hok, hd8⟩ := hfl o rfl
  have hid2 : 2 ≤ Sp.T.id o.d o.t := hfd.root.1
  have hne : ¬ (((Sp.T.id o.d o.t : Nat) : Int) = 0) := by omega
  have hneb : (((Sp.T.id o.d o.t : Nat) : Int) == 0) = false := beq_eq_false_iff_ne.2 hne
  have hfs := Sp.FS.start hok HW.out
  rw [show Sp.Rt.root (some o) = Sp.T.id o.d o.t from rfl, show Sp.Rt.items (some o) = Sp.T.items o.d o.t from rfl]
  generalize hres : (Sp.T.items o.d o.t).find? (fun y => wk y.key) = res at *
  have HFS := Lib.hid hfs
  clear hfs hres HW hst hnV hfl hfd hok hd8 hs hid2
  simp only [itZ] at *
  go_enter Tryz.func52, Tryz.ntmps52
  go_upto_region 1 with fail
  refine wp_gen (fun W => FrS w W t (some o) bx key0) S0.out ?_
  clear S0
  intro w1 hS
  have S := Lib.hid hS
  clear hS
  go_wp2_with fail
  go_step3
  go_wp2_with fail
  go_step3
  go_wp2_with fail
  go_loopw [2, 19] (fun kv cv wr => ∃ (n q : Nat) (k : Txt), n + q = 1 ∧ kv = .string ⟨k.toArray⟩ ∧ cv = .int .i64 (q : Int) ∧ Hid (Sp.FS o.d o.t (fun y => wk y.key) res n k) ∧ Hid (FrS w wr t (some o) bx key0)) (fun _ cv _ => 2 - (intOf cv).toNat)
  case atStart => exact ⟨1, 0, key, by omega, rfl, rfl, HFS, S⟩
  case round =>
    obtain ⟨n, q, k, hn1, rfl, rfl, FSH, R⟩ := hrel
    clear HFS S
    obtain ⟨f, m, dd, last, v, V, hst, hnV, hfl⟩ := R.out.tr.ex
    obtain ⟨hfd, hok, hd8⟩ := hfl o rfl
    have hq4 : (q : Int) < 400 := by omega
    have h0 : 0 < (Sp.leafOf o.d o.t k []).1.length := by
      obtain ⟨A, B, _, _, e3, _⟩ := Sp.leaf_law o.d true o.t k [] hok
      exact List.length_pos_iff.2 e3
    have HST := Lib.hid hst
    have HFD := Lib.hid hfd
    have HOK := Lib.hid hok
    have HIT := Lib.hid (fun y => FSH.out.hit (y := y))
    have HMI := Lib.hid FSH.out.miss
    clear hst hfl hfd hok FSH
    go_upto_region 6 with (first
      | (go_at_call 80; refine (leaf_any t f m dd last v V o.d o.t k _ HST.out hnV HFD.out HOK.out hd8).mono ?_; rintro e w2 ⟨r, rfl, hr, hb2⟩; have HR := Lib.hid hr; clear hr)
      | (refine wpList_new PageT _ _ rfl rfl rfl rfl rfl rfl _ rfl (of_decide_eq_true (by kernel_rfl)) (by kernel_rfl) (by kernel_rfl) (by kernel_rfl) ?_))
    generalize (Sp.leafOf o.d o.t k []).1 = l0 at *
    generalize (Sp.leafOf o.d o.t k []).2 = bl at *
    have hlen : l0.length ≤ 288230376151711744 := (HR.out NoM (fun _ _ h => h)).items.len
    obtain ⟨ib, io, hA, hp⟩ := FpS.start R.out hb2 HR.out h0
    refine wp_gen (fun W => FpS w W t (some o) bx key0 w2.heap.size l0 r ib io) hp ?_
    clear HR hp HST HFD HOK
    generalize w2.heap.size = bp at *
    intro w3 hp
    have c1 : w3.cell? ⟨bp, 1, none⟩ = some (.slice (some ⟨ib, io, none⟩) l0.length r.i) := hA ▸ hp.bp.cell 1
    have P := Lib.hid hp
    clear hp hb2 R
    go_upto_region 9 with fail
    go_wp2_with fail
    go_loopw [36] (fun iv wr2 => ∃ m : Nat, m ≤ l0.length ∧ iv = .int .i64 (m : Int) ∧ Hid (∀ j, j < m → wk (l0.getD j Sp.item0).key = false) ∧ Hid (FpS w wr2 t (some o) bx key0 bp l0 r ib io)) (fun iv _ => l0.length - (intOf iv).toNat)
    case atStart => exact ⟨0, Nat.zero_le _, rfl, Lib.hid (fun j hj => absurd hj (by omega)), P⟩
    case round =>
      obtain ⟨m, hm, rfl, HNO, R⟩ := hrel
      clear P c1
      by_cases hlt : m < l0.length
      · obtain ⟨V', c', hi', ht'⟩ := R.out.it m hlt
        have HY := Lib.hid hi'
        have HT := Lib.hid ht'
        have HH := Lib.hid (fun (h : wk (l0.getD m Sp.item0).key = true) => HIT.out _ (Sp.find_hit (W := fun y => wk y.key) (d := Sp.item0) hlt HNO.out h))
        have HNX := Lib.hid (fun (h : wk (l0.getD m Sp.item0).key = false) => show ∀ j, j < m + 1 → wk (l0.getD j Sp.item0).key = false from fun j hj => by
          rcases Nat.lt_succ_iff_lt_or_eq.1 hj with h' | rfl
          · exact HNO.out j h'
          · exact h)
        clear hi' ht' HNO
        generalize l0.getD m Sp.item0 = y at *
        have hibw := R.out.hib
        go_upto_region 11 with (first
          | (refine wpList_at ItemT _ rfl ib (io + m * 10) rfl rfl (itemV y V' c').toArray _ (fun j v hv => HY.out.cells j v hv) Tryz.underlying71 rfl (by kernel_rfl) ?_)
          | (refine wpList_new ItemT _ _ rfl rfl rfl rfl rfl rfl _ rfl (of_decide_eq_true (by kernel_rfl)) (by kernel_rfl) (by kernel_rfl) (by kernel_rfl) ?_))
        have hal2 : Below wr.heap.size wr (wr.alloc (.cells (itemV y V' c').toArray ItemT)) := (Below.refl _ _).alloc (Nat.le_refl _) _
        refine wp_gen (fun W => FxS w W t (some o) bx key0 bp l0 r ib io wr.heap.size y V' c') ⟨R.out.go hal2, Blk.new _ _ _, fun M hM => (HT.out M hM).go hal2⟩ ?_
        clear HY HT R hal2 hibw
        generalize wr.heap.size = bq at *
        intro w4 hX
        have X := Lib.hid hX
        have y0 : w4.cell? ⟨bq, 0, none⟩ = some (.string ⟨y.key.toArray⟩) := hX.by_.cell 0
        clear hX
        rcases hq : wk y.key with _ | _
        · have HN2 := Lib.hid (HNX.out hq)
          have HQ := Lib.hid hq
          clear hq HNX HH
          as_aux_lemma =>
          go_wp2_with (refine (CL _ _ X.out.p.l.bx).mono ?_; rintro e w5 ⟨rfl, hb5⟩; rw [HQ.out]; replace X := Lib.hid (X.out.go hb5); clear y0)
          refine ⟨⟨m + 1, by omega, by go_num, HN2, Lib.hid X.out.p⟩, by simp [intOf]; omega⟩
        · have HR := Lib.hid (HH.out hq)
          have HQ := Lib.hid hq
          clear hq HNX HH
          as_aux_lemma =>
          go_wp2_with (first
            | (refine (CL _ _ X.out.p.l.bx).mono ?_; rintro e w5 ⟨rfl, hb5⟩; rw [HQ.out]; replace X := Lib.hid (X.out.go hb5); clear y0)
            | (refine wpList_row ItemT _ rfl bq rfl rfl ItemT _ (0, 0) _ X.out.by_ Tryz.underlying71 rfl (by kernel_rfl) ?_)
            | (refine wpList_store_row rfl ItemT _ _ rfl w.heap.size _ rfl rfl ItemT _ X.out.p.l.bz (by kernel_rfl) rfl (itemV_all0 y V' c') ?_))
          try rw [Exit.noGoto_ret]
          obtain ⟨⟨z0, z1, z2, z3, z4, z5, z6, z7, z8, z9⟩, _⟩ := (X.out.p.l.bz.row (ds := #[.string ⟨y.key.toArray⟩, .int .i64 y.kind, .string ⟨y.val.toArray⟩, .int .i64 y.run, .int .i64 y.len, .slice V' y.vals.length c', .int .i64 y.dup, .int .i64 y.root.page, .int .i64 y.root.count, .int .i64 y.root.flags])).at10
          have hb4 : Below w.heap.size w (w5.setRow w.heap.size (itemV y V' c').toArray) := below_setRow X.out.p.l.hb (Nat.le_refl _) _
          refine bodyPost_ret (v := .tuple #[.agg (itemV y V' c').toArray, .nilIface]) (by simp [results, Tryz.results52, go_sem, itemV, z0, z1, z2, z3, z4, z5, z6, z7, z8, z9]) rfl ⟨?_, hb4⟩
          rw [HR.out]
          refine ⟨V', c', rfl, fun M hM => ?_⟩
          have h1 := X.out.vs (fun k => M k ∨ k = w.heap.size) (fun k hk => by
            rintro (h | h)
            · exact hM k (by omega) h
            · omega)
          exact Row.anti (Row.chg h1 ((chg_setRow0 w5 w.heap.size _).mono (fun k _ h => .inr h))) (fun k h => .inl h)
      · obtain rfl : m = l0.length := by omega
        have hmi := HMI.out (Sp.find_miss (W := fun y => wk y.key) (d := Sp.item0) HNO.out)
        clear HNO HIT HMI
        have h400 : (q : Int) + 1 ≤ 400 := by omega
        rcases hmi with ⟨rfl, rfl⟩ | ⟨hb, n', rfl, hfs⟩
        · have hbz : Blk wr w.heap.size ItemT #[.string ⟨#[]⟩, .int .i64 0, .string ⟨#[]⟩, .int .i64 0, .int .i64 0, .slice none 0 0, .int .i64 0, .int .i64 0, .int .i64 0, .int .i64 0] := R.out.l.bz
          as_aux_lemma =>
          go_wp2_with (refine wpList_store_row rfl ItemT _ _ rfl w.heap.size _ rfl rfl ItemT _ hbz (by kernel_rfl) rfl (by kernel_rfl) ?_)
          try rw [Exit.noGoto_ret]
          obtain ⟨⟨z0, z1, z2, z3, z4, z5, z6, z7, z8, z9⟩, _⟩ := (hbz.row (ds := #[.string ⟨#[]⟩, .int .i64 0, .string ⟨#[]⟩, .int .i64 0, .int .i64 0, .slice none 0 0, .int .i64 0, .int .i64 0, .int .i64 0, .int .i64 0])).at10
          have hb4 : Below w.heap.size w (wr.setRow w.heap.size itZ) := below_setRow R.out.l.hb (Nat.le_refl _) _
          refine bodyPost_ret (v := .tuple #[.agg itZ, .iface ErrT (.int .i64 21)]) (by simp [results, Tryz.results52, go_sem, itZ, z0, z1, z2, z3, z4, z5, z6, z7, z8, z9]) rfl ⟨rfl, hb4⟩
        · have HF := Lib.hid hfs
          have hb0 : (bl == []) = false := beq_eq_false_iff_ne.2 hb
          have hb1 : (bl != []) = true := by simp [hb]
          have hbn : ¬ bl = [] := hb
          clear hfs hb
          as_aux_lemma =>
          go_wp2_with fail
          exact ⟨⟨n', q + 1, bl, by omega, rfl, by go_num, HF, Lib.hid R.out.l⟩, by simp [intOf]; omega⟩
end Go.Proofs.YtmcpkhknjdiocaaGreat
namespace Go.Proofs.YtmcpkhknjdiocaaGreat
open Go.RowKit
attribute [local go_sem low] mk_extract
attribute [local go_sem] After.cell After.frozen mk_extract_end ByteArray.mk_append_mk
theorem wanting_above (bx : Nat) (key : Txt) : Wanting 53 bx key (fun k => !Sp.lt k key) := by
  intro W k hb
  have c0 : W.cell? ⟨bx, 0, none⟩ = some (.string ⟨key.toArray⟩) := hb.cell 0
  clear hb
  go_enter Tryz.func53, Tryz.ntmps53
  go_wp2_with fail
  go_ret
  exact ⟨rfl, Below.refl _ _⟩
theorem gt_is (k key : Txt) : (!Op.bytesLess k key && !(k == key)) = Sp.lt key k := by
  rcases h : Sp.lt key k with _ | _
  · rcases gt_no h with h | h <;> simp [h]
  · obtain ⟨h1, h2⟩ := gt_yes h
    simp [h1, h2]
theorem wanting_behind (bx : Nat) (key : Txt) : Wanting 54 bx key (fun k => Sp.lt key k) := by
  intro W k hb
  have c0 : W.cell? ⟨bx, 0, none⟩ = some (.string ⟨key.toArray⟩) := hb.cell 0
  clear hb
  go_enter Tryz.func54, Tryz.ntmps54
  go_wp2_with fail
  go_ret
  exact ⟨ret_bool (gt_is k key), Below.refl _ _⟩
theorem FindIs.cases {B : Nat} {w : World} {e : Ending} {y : Option Sp.Item} (h : FindIs B w e y) : (y = none ∧ e = .returned (.tuple #[.agg itZ, .iface ErrT (.int .i64 21)])) ∨ ∃ z V c, y = some z ∧ e = .returned (.tuple #[.agg (itemV z V c).toArray, .nilIface]) ∧ ∀ M : Nat → Prop, (∀ k, B ≤ k → ¬ M k) → Txts w M V z.vals := by
  cases y with
  | none => exact .inl ⟨rfl, h⟩
  | some z =>
    obtain ⟨V, c, h1, h2⟩ := h
    exact .inr ⟨z, V, c, rfl, h1, h2⟩
/-- What the callers hold: the box of the key, the block of the item. -/
structure FbS (w W : World) (t : Nat) (o : Option Sp.Rt) (bi bx : Nat) (key : Txt) : Prop where
  tr : TrS W t o
  bz : Blk W bi ItemT itZ
  bx : Blk W bx StrT #[.string ⟨key.toArray⟩]
  hb : Below w.heap.size w W
  hi : w.heap.size ≤ bi
theorem FbS.go {w W W' : World} {t : Nat} {o : Option Sp.Rt} {bi bx : Nat} {key : Txt} (h : FbS w W t o bi bx key) (hb : Below W.heap.size W W') : FbS w W' t o bi bx key :=
  ⟨h.tr.go hb, h.bz.below hb h.bz.lt, h.bx.below hb h.bx.lt, h.hb.trans (hb.mono h.hb.size), h.hi⟩
/-- The form of what is told. -/
theorem FindIs.form {B : Nat} {w : World} {e : Ending} {y : Option Sp.Item} (h : FindIs B w e y) : ∃ a0 a1 a2 a3 a4 a5 a6 a7 a8 a9 ev, e = .returned (.tuple #[.agg #[a0, a1, a2, a3, a4, a5, a6, a7, a8, a9], ev]) ∧ #[a0, a1, a2, a3, a4, a5, a6, a7, a8, a9].all (·.oneCell') = true := by
  rcases h.cases with ⟨_, rfl⟩ | ⟨z, V, c, _, rfl, _⟩
  · exact ⟨_, _, _, _, _, _, _, _, _, _, _, rfl, by kernel_rfl⟩
  · exact ⟨_, _, _, _, _, _, _, _, _, _, _, rfl, itemV_all0 z V c⟩
theorem FindIs.go {B : Nat} {w w' : World} {e : Ending} {y : Option Sp.Item} (h : FindIs B w e y) (hb : Below w.heap.size w w') : FindIs B w' e y := by
  cases y with
  | none => exact h
  | some z =>
    obtain ⟨V, c, h1, h2⟩ := h
    exact ⟨V, c, h1, fun M hM => (h2 M hM).go hb⟩
/-- Behind a store into a block of the caller's own. -/
theorem FindIs.set {B B' g : Nat} {w : World} {cs : Array Value} {e : Ending} {y : Option Sp.Item} (h : FindIs B w e y) (hg : g < B) (hB : B' ≤ g) : FindIs B' (w.setRow g cs) e y := by
  cases y with
  | none => exact h
  | some z =>
    obtain ⟨V, c, h1, h2⟩ := h
    refine ⟨V, c, h1, fun M hM => ?_⟩
    have h3 := h2 (fun k => M k ∨ k = g) (fun k hk => by
      rintro (h | h)
      · exact hM k (by omega) h
      · omega)
    exact Row.anti (Row.chg h3 ((chg_setRow0 w g cs).mono (fun k _ h => .inr h))) (fun k h => .inl h)
set_option maxRecDepth 100000 in
set_option maxHeartbeats 1600000 in
theorem above_any (t : Nat) (o : Option Sp.Rt) (key : Txt) (w : World) (hs : TrS w t o) :
    Calls Tryz.prog 29 #[.pointer (some ⟨t, 0, none⟩), .int .i64 ((Sp.Rt.root o : Nat) : Int), .string ⟨key.toArray⟩] w fun e w' => FindIs w.heap.size w' e ((Sp.Rt.items o).find? fun y => !Sp.lt y.key key) ∧ Below w.heap.size w w' := by
  have hmf : ∀ (fn : Fn) (first cap : Array Value) (w : World), (Instr.makeFunc fn first cap).run Tryz.prog w = .ok (.func fn first cap) w := fun _ _ _ _ => rfl
  have hal : Below w.heap.size w ((w.alloc (.cells #[.string ⟨key.toArray⟩] StrT)).alloc (.cells itZ ItemT)) := ((Below.refl _ _).alloc (Nat.le_refl _) _).alloc (by simp) _
  have S0 := Lib.hid (show FbS w ((w.alloc (.cells #[.string ⟨key.toArray⟩] StrT)).alloc (.cells itZ ItemT)) t o (w.heap.size + 1) w.heap.size key from ⟨hs.go hal, blk_second _ _ _ _, (Blk.new _ _ _).alloc _, hal, by omega⟩)
  clear hs hal
  simp only [itZ] at *
  go_enter Tryz.func29, Tryz.ntmps29
  go_upto_region 1 with fail
  refine wp_gen (fun W => FbS w W t o (w.heap.size + 1) w.heap.size key) S0.out ?_
  clear S0
  generalize w.heap.size + 1 = bi at *
  intro w1 hS
  have S := Lib.hid hS
  have c0 : w1.cell? ⟨w.heap.size, 0, none⟩ = some (.string ⟨key.toArray⟩) := hS.bx.cell 0
  clear hS
  go_wp2_with (first
    | (go_at_call 52; refine (first_any t 53 w.heap.size o key key (fun k => !Sp.lt k key) _ S.out.tr S.out.bx (Sp.wants_at key) (fun _ _ => by kernel_rfl) (wanting_above _ _)).mono ?_; rintro e w2 ⟨hfi, hb2⟩; obtain ⟨a0, a1, a2, a3, a4, a5, a6, a7, a8, a9, ev, rfl, hall⟩ := hfi.form; have S2 := Lib.hid (S.out.go hb2); have HF := Lib.hid hfi; have HA := Lib.hid hall; clear hfi hb2 hall)
    | (refine wpList_store_row rfl ItemT _ _ rfl bi _ rfl rfl ItemT _ S2.out.bz (by kernel_rfl) rfl HA.out ?_))
  obtain ⟨⟨z0, z1, z2, z3, z4, z5, z6, z7, z8, z9⟩, _⟩ := (S2.out.bz.row (ds := #[a0, a1, a2, a3, a4, a5, a6, a7, a8, a9])).at10
  have hb4 : Below w.heap.size w (w2.setRow bi #[a0, a1, a2, a3, a4, a5, a6, a7, a8, a9]) := below_setRow S2.out.hb S2.out.hi _
  refine bodyPost_ret (v := .tuple #[.agg #[a0, a1, a2, a3, a4, a5, a6, a7, a8, a9], ev]) (by simp [results, Tryz.results29, go_sem, z0, z1, z2, z3, z4, z5, z6, z7, z8, z9]) rfl ⟨?_, hb4⟩
  exact HF.out.set S.out.bz.lt S.out.hi
set_option maxRecDepth 100000 in
set_option maxHeartbeats 1600000 in
theorem behind_any (t : Nat) (o : Option Sp.Rt) (key : Txt) (w : World) (hs : TrS w t o) :
    Calls Tryz.prog 31 #[.pointer (some ⟨t, 0, none⟩), .int .i64 ((Sp.Rt.root o : Nat) : Int), .string ⟨key.toArray⟩] w fun e w' => FindIs w.heap.size w' e ((Sp.Rt.items o).find? fun y => Sp.lt key y.key) ∧ Below w.heap.size w w' := by
  have hmf : ∀ (fn : Fn) (first cap : Array Value) (w : World), (Instr.makeFunc fn first cap).run Tryz.prog w = .ok (.func fn first cap) w := fun _ _ _ _ => rfl
  have hal : Below w.heap.size w ((w.alloc (.cells #[.string ⟨key.toArray⟩] StrT)).alloc (.cells itZ ItemT)) := ((Below.refl _ _).alloc (Nat.le_refl _) _).alloc (by simp) _
  have S0 := Lib.hid (show FbS w ((w.alloc (.cells #[.string ⟨key.toArray⟩] StrT)).alloc (.cells itZ ItemT)) t o (w.heap.size + 1) w.heap.size key from ⟨hs.go hal, blk_second _ _ _ _, (Blk.new _ _ _).alloc _, hal, by omega⟩)
  clear hs hal
  simp only [itZ] at *
  go_enter Tryz.func31, Tryz.ntmps31
  go_upto_region 1 with fail
  refine wp_gen (fun W => FbS w W t o (w.heap.size + 1) w.heap.size key) S0.out ?_
  clear S0
  generalize w.heap.size + 1 = bi at *
  intro w1 hS
  have S := Lib.hid hS
  have c0 : w1.cell? ⟨w.heap.size, 0, none⟩ = some (.string ⟨key.toArray⟩) := hS.bx.cell 0
  clear hS
  go_wp2_with (first
    | (go_at_call 52; refine (first_any t 54 w.heap.size o key key (fun k => Sp.lt key k) _ S.out.tr S.out.bx (Sp.wants_behind key) (fun _ _ => by kernel_rfl) (wanting_behind _ _)).mono ?_; rintro e w2 ⟨hfi, hb2⟩; obtain ⟨a0, a1, a2, a3, a4, a5, a6, a7, a8, a9, ev, rfl, hall⟩ := hfi.form; have S2 := Lib.hid (S.out.go hb2); have HF := Lib.hid hfi; have HA := Lib.hid hall; clear hfi hb2 hall)
    | (refine wpList_store_row rfl ItemT _ _ rfl bi _ rfl rfl ItemT _ S2.out.bz (by kernel_rfl) rfl HA.out ?_))
  obtain ⟨⟨z0, z1, z2, z3, z4, z5, z6, z7, z8, z9⟩, _⟩ := (S2.out.bz.row (ds := #[a0, a1, a2, a3, a4, a5, a6, a7, a8, a9])).at10
  have hb4 : Below w.heap.size w (w2.setRow bi #[a0, a1, a2, a3, a4, a5, a6, a7, a8, a9]) := below_setRow S2.out.hb S2.out.hi _
  refine bodyPost_ret (v := .tuple #[.agg #[a0, a1, a2, a3, a4, a5, a6, a7, a8, a9], ev]) (by simp [results, Tryz.results31, go_sem, z0, z1, z2, z3, z4, z5, z6, z7, z8, z9]) rfl ⟨?_, hb4⟩
  exact HF.out.set S.out.bz.lt S.out.hi
end Go.Proofs.YtmcpkhknjdiocaaGreat
namespace Go.Proofs.YtmcpkhknjdiocaaGreat
open Go.RowKit
attribute [local go_sem low] mk_extract
attribute [local go_sem] After.cell After.frozen mk_extract_end ByteArray.mk_append_mk
set_option maxRecDepth 100000 in
set_option maxHeartbeats 1600000 in
theorem get_any (t : Nat) (o : Option Sp.Rt) (key : Txt) (w : World) (hs : TrS w t o) :
    Calls Tryz.prog 32 #[.pointer (some ⟨t, 0, none⟩), .int .i64 ((Sp.Rt.root o : Nat) : Int), .string ⟨key.toArray⟩] w fun e w' => FindIs w.heap.size w' e (Sp.getI (Sp.Rt.items o) key) ∧ Below w.heap.size w w' := by
  have hal : Below w.heap.size w (w.alloc (.cells itZ ItemT)) := (Below.refl _ _).alloc (Nat.le_refl _) _
  have HT := Lib.hid (hs.go hal)
  have HZ := Lib.hid (Blk.new w ItemT itZ)
  have HAL := Lib.hid hal
  clear hs hal
  simp only [itZ] at *
  go_enter Tryz.func32, Tryz.ntmps32
  go_upto_region 1 with fail
  refine wp_gen (fun W => TrS W t o ∧ Blk W w.heap.size ItemT #[.string ⟨#[]⟩, .int .i64 0, .string ⟨#[]⟩, .int .i64 0, .int .i64 0, .slice none 0 0, .int .i64 0, .int .i64 0, .int .i64 0, .int .i64 0] ∧ Below w.heap.size w W) ⟨HT.out, HZ.out, HAL.out⟩ ?_
  clear HT HZ HAL
  rintro w1 ⟨hT, hZ, hB⟩
  have HT := Lib.hid hT
  have HZ := Lib.hid hZ
  have HB := Lib.hid hB
  clear hT hZ hB
  generalize hbi : w.heap.size = bi at HZ ⊢
  have HI := Lib.hid (show w.heap.size ≤ bi by omega)
  clear hbi
  go_upto_region 2 with (first
    | (go_at_call 29; refine (above_any t o key _ HT.out).mono ?_; rintro e w2 ⟨hfi, hb2⟩; obtain ⟨a0, a1, a2, a3, a4, a5, a6, a7, a8, a9, ev, rfl, hall⟩ := hfi.form; have HF := Lib.hid hfi; have HA := Lib.hid hall; have HB2 := Lib.hid hb2; clear hfi hb2 hall)
    | (refine wpList_new ItemT _ _ rfl rfl rfl rfl rfl rfl _ rfl (of_decide_eq_true (by kernel_rfl)) (by kernel_rfl) (by kernel_rfl) HA.out ?_))
  have hal : Below w2.heap.size w2 (w2.alloc (.cells #[a0, a1, a2, a3, a4, a5, a6, a7, a8, a9] ItemT)) := (Below.refl _ _).alloc (Nat.le_refl _) _
  have hzl := HZ.out.lt
  refine wp_gen (fun W => Blk W bi ItemT #[.string ⟨#[]⟩, .int .i64 0, .string ⟨#[]⟩, .int .i64 0, .int .i64 0, .slice none 0 0, .int .i64 0, .int .i64 0, .int .i64 0, .int .i64 0] ∧ Blk W w2.heap.size ItemT #[a0, a1, a2, a3, a4, a5, a6, a7, a8, a9] ∧ FindIs w1.heap.size W (.returned (.tuple #[.agg #[a0, a1, a2, a3, a4, a5, a6, a7, a8, a9], ev])) ((Sp.Rt.items o).find? fun y => !Sp.lt y.key key) ∧ Below w.heap.size w W)
    ⟨(HZ.out.below HB2.out hzl).below hal (Nat.lt_of_lt_of_le hzl HB2.out.size), Blk.new _ _ _, HF.out.go hal, HB.out.trans ((HB2.out.trans (hal.mono HB2.out.size)).mono HB.out.size)⟩ ?_
  generalize w2.heap.size = bq at *
  clear HT HZ HF HB2 HB HA hal
  rintro w4 ⟨hz, hq, hf, hb⟩
  have BZ := Lib.hid hz
  have BQ := Lib.hid hq
  have HB := Lib.hid hb
  have HZL := Lib.hid hzl
  have HG := Lib.hid (show Sp.getI (Sp.Rt.items o) key = ((Sp.Rt.items o).find? fun y => !Sp.lt y.key key).bind fun y => if y.key = key then some y else none from rfl)
  clear hz hq hb hzl
  generalize ((Sp.Rt.items o).find? fun y => !Sp.lt y.key key) = fr at *
  have HFI := Lib.hid hf
  rcases hf.cases with ⟨hy, he⟩ | ⟨z, V, c, hy, he, _⟩
  · simp only [itZ, Ending.returned.injEq, Value.tuple.injEq, Array.mk.injEq, List.cons.injEq, Value.agg.injEq, and_true] at he
    obtain ⟨⟨rfl, rfl, rfl, rfl, rfl, rfl, rfl, rfl, rfl, rfl⟩, rfl⟩ := he
    have HY := Lib.hid hy
    have c0 : w4.cell? ⟨bq, 0, none⟩ = some (.string ⟨#[]⟩) := BQ.out.cell 0
    clear hf hy
    as_aux_lemma =>
      go_wp2_with (first
        | (refine wpList_row ItemT _ rfl bq rfl rfl ItemT _ (0, 0) _ BQ.out Tryz.underlying71 rfl (by kernel_rfl) ?_)
        | (refine wpList_store_row rfl ItemT _ _ rfl bi _ rfl rfl ItemT _ BZ.out (by kernel_rfl) rfl (by kernel_rfl) ?_))
      obtain ⟨⟨z0, z1, z2, z3, z4, z5, z6, z7, z8, z9⟩, _⟩ := (BZ.out.row (ds := #[.string ⟨#[]⟩, .int .i64 0, .string ⟨#[]⟩, .int .i64 0, .int .i64 0, .slice none 0 0, .int .i64 0, .int .i64 0, .int .i64 0, .int .i64 0])).at10
      have hb4 : Below w.heap.size w (w4.setRow bi #[.string ⟨#[]⟩, .int .i64 0, .string ⟨#[]⟩, .int .i64 0, .int .i64 0, .slice none 0 0, .int .i64 0, .int .i64 0, .int .i64 0, .int .i64 0]) := below_setRow HB.out HI.out _
      refine bodyPost_ret (v := .tuple #[.agg #[.string ⟨#[]⟩, .int .i64 0, .string ⟨#[]⟩, .int .i64 0, .int .i64 0, .slice none 0 0, .int .i64 0, .int .i64 0, .int .i64 0, .int .i64 0], .iface ErrT (.int .i64 21)]) (by simp [results, Tryz.results32, go_sem, z0, z1, z2, z3, z4, z5, z6, z7, z8, z9]) rfl ⟨?_, hb4⟩
      rw [HG.out, HY.out]
      rfl
  · simp only [itemV, Ending.returned.injEq, Value.tuple.injEq, Array.mk.injEq, List.cons.injEq, Value.agg.injEq, and_true] at he
    obtain ⟨⟨rfl, rfl, rfl, rfl, rfl, rfl, rfl, rfl, rfl, rfl⟩, rfl⟩ := he
    have HY := Lib.hid hy
    have c0 : w4.cell? ⟨bq, 0, none⟩ = some (.string ⟨z.key.toArray⟩) := BQ.out.cell 0
    clear hf hy
    by_cases hk : z.key = key
    · have hk1 : (z.key == key) = true := beq_iff_eq.2 hk
      have hk2 : (z.key != key) = false := by simp [hk]
      have HK := Lib.hid hk
      clear hk
      as_aux_lemma =>
        go_wp2_with (first
          | (refine wpList_row ItemT _ rfl bq rfl rfl ItemT _ (0, 0) _ BQ.out Tryz.underlying71 rfl (by kernel_rfl) ?_)
          | (refine wpList_store_row rfl ItemT _ _ rfl bi _ rfl rfl ItemT _ BZ.out (by kernel_rfl) rfl (itemV_all0 z V c) ?_))
        obtain ⟨⟨z0, z1, z2, z3, z4, z5, z6, z7, z8, z9⟩, _⟩ := (BZ.out.row (ds := #[.string ⟨z.key.toArray⟩, .int .i64 z.kind, .string ⟨z.val.toArray⟩, .int .i64 z.run, .int .i64 z.len, .slice V z.vals.length c, .int .i64 z.dup, .int .i64 z.root.page, .int .i64 z.root.count, .int .i64 z.root.flags])).at10
        have hb4 : Below w.heap.size w (w4.setRow bi #[.string ⟨z.key.toArray⟩, .int .i64 z.kind, .string ⟨z.val.toArray⟩, .int .i64 z.run, .int .i64 z.len, .slice V z.vals.length c, .int .i64 z.dup, .int .i64 z.root.page, .int .i64 z.root.count, .int .i64 z.root.flags]) := below_setRow HB.out HI.out _
        refine bodyPost_ret (v := .tuple #[.agg #[.string ⟨z.key.toArray⟩, .int .i64 z.kind, .string ⟨z.val.toArray⟩, .int .i64 z.run, .int .i64 z.len, .slice V z.vals.length c, .int .i64 z.dup, .int .i64 z.root.page, .int .i64 z.root.count, .int .i64 z.root.flags], .nilIface]) (by simp [results, Tryz.results32, go_sem, z0, z1, z2, z3, z4, z5, z6, z7, z8, z9]) rfl ⟨?_, hb4⟩
        rw [HG.out, HY.out, show ((some z).bind fun y => if y.key = key then some y else none) = some z from if_pos HK.out]
        have := HFI.out.set HZL.out HI.out (cs := #[.string ⟨z.key.toArray⟩, .int .i64 z.kind, .string ⟨z.val.toArray⟩, .int .i64 z.run, .int .i64 z.len, .slice V z.vals.length c, .int .i64 z.dup, .int .i64 z.root.page, .int .i64 z.root.count, .int .i64 z.root.flags])
        rw [HY.out] at this
        exact this
    · have hk1 : (z.key == key) = false := beq_eq_false_iff_ne.2 hk
      have hk2 : (z.key != key) = true := by simp [hk]
      have HK := Lib.hid hk
      as_aux_lemma =>
        go_wp2_with (refine wpList_store_row rfl ItemT _ _ rfl bi _ rfl rfl ItemT _ BZ.out (by kernel_rfl) rfl (by kernel_rfl) ?_)
        obtain ⟨⟨z0, z1, z2, z3, z4, z5, z6, z7, z8, z9⟩, _⟩ := (BZ.out.row (ds := #[.string ⟨#[]⟩, .int .i64 0, .string ⟨#[]⟩, .int .i64 0, .int .i64 0, .slice none 0 0, .int .i64 0, .int .i64 0, .int .i64 0, .int .i64 0])).at10
        have hb4 : Below w.heap.size w (w4.setRow bi #[.string ⟨#[]⟩, .int .i64 0, .string ⟨#[]⟩, .int .i64 0, .int .i64 0, .slice none 0 0, .int .i64 0, .int .i64 0, .int .i64 0, .int .i64 0]) := below_setRow HB.out HI.out _
        refine bodyPost_ret (v := .tuple #[.agg #[.string ⟨#[]⟩, .int .i64 0, .string ⟨#[]⟩, .int .i64 0, .int .i64 0, .slice none 0 0, .int .i64 0, .int .i64 0, .int .i64 0, .int .i64 0], .iface ErrT (.int .i64 21)]) (by simp [results, Tryz.results32, go_sem, z0, z1, z2, z3, z4, z5, z6, z7, z8, z9]) rfl ⟨?_, hb4⟩
        rw [HG.out, HY.out, show ((some z).bind fun y => if y.key = key then some y else none) = none from if_neg HK.out]
        rfl
end Go.Proofs.YtmcpkhknjdiocaaGreat
namespace Go.Proofs.YtmcpkhknjdiocaaGreat
open Go.RowKit
attribute [local go_sem low] mk_extract
attribute [local go_sem] After.cell After.frozen mk_extract_end ByteArray.mk_append_mk
theorem Sp.bytes_le2 (p : Sp.Page) : (Sp.bytes p).length ≤ 2000000 := by
  cases h : Sp.isPage p with
  | false => simp [Sp.bytes, h]
  | true =>
    have := Sp.partsB_le h
    rw [Sp.bytes_of h]
    simp only [Sp.body, List.length_append, Sp.le8_length]
    omega
/-- The pages of a tree's file, as they are handed on. -/
theorem DfAt.opn {w : World} {f : Nat} {V : List Txt} (h : DfAt w f V) (h0 : 0 < V.length) (hn : V.length ≤ 400) : ∃ g cap, w.cell? ⟨f, 0, none⟩ = some (.slice (some ⟨g, 0, none⟩) V.length cap) ∧ Txts w NoM (some ⟨g, 0, none⟩) V ∧ V.length ≤ cap := by
  obtain ⟨v, dA, dn, dc, u, h1, h2, _⟩ := h.bf
  obtain ⟨g, cap, rfl, _, _⟩ := own_some h2 h0
  exact ⟨g, cap, h1.cell 0, Txts.of_own h2 (by omega), (own_cap h2).1⟩
theorem file_small (P : List Sp.Page) : ∀ s ∈ [[], []] ++ P.map Sp.bytes, s.length ≤ 4611686018427387904 := by
  intro s hs
  rcases List.mem_append.1 hs with hs | hs
  · have : s = [] := by simpa using hs
    rw [this]; simp
  · obtain ⟨p, _, rfl⟩ := List.mem_map.1 hs
    have := Sp.bytes_le2 p
    omega
/-- A store over a tree of numbers. -/
structure TnS (w : World) (t : Nat) (keys : List Nat) : Prop where
  tr : TrS w t (Sp.treeN keys).1
  it : Sp.Rt.items (Sp.treeN keys).1 = (Sp.numsOf keys).map Sp.itN
  lt : ∀ k ∈ Sp.numsOf keys, k < 256
theorem TnS.go {w w' : World} {t : Nat} {keys : List Nat} (h : TnS w t keys) (hb : Below w.heap.size w w') : TnS w' t keys := ⟨h.tr.go hb, h.it, h.lt⟩
theorem TnS.of {w : World} {t f m d : Nat} {last : Int} {v : Value} {keys : List Nat} {P : List Sp.Page} (hs : St0 w t f m d last v ([[], []] ++ P.map Sp.bytes)) (ht : Sp.TreeAt keys P) (hk : ∀ k ∈ keys, k < 256) (hn : keys.length ≤ 120) : TnS w t keys := by
  have := ht.len
  exact ⟨⟨f, m, d, last, v, _, hs, by simp; omega, ht.filed hn⟩, ht.items, Sp.numsOf_lt hk⟩
/-- What is told of a number that is sought. -/
def FindN (e : Ending) (y : Option Nat) : Prop := match y with
  | none => e = .returned (.tuple #[.agg itZ, .iface ErrT (.int .i64 21)])
  | some n => ∃ V c, e = .returned (.tuple #[.agg #[.string ⟨(Sp.keyN n).toArray⟩, .int .i64 1, .string ⟨#[118]⟩, .int .i64 0, .int .i64 0, .slice V 0 c, .int .i64 0, .int .i64 0, .int .i64 0, .int .i64 0], .nilIface])
theorem FindIs.num {B : Nat} {w : World} {e : Ending} {y : Option Nat} (h : FindIs B w e (y.map Sp.itN)) : FindN e y := by
  cases y with
  | none => exact h
  | some n =>
    obtain ⟨V, c, h1, _⟩ := h
    exact ⟨V, c, h1⟩
theorem aboveN (t : Nat) (keys : List Nat) (n : Nat) (hn : n < 256) (w : World) (h : TnS w t keys) :
    Calls Tryz.prog 29 #[.pointer (some ⟨t, 0, none⟩), .int .i64 ((Sp.Rt.root (Sp.treeN keys).1 : Nat) : Int), .string ⟨(Sp.keyN n).toArray⟩] w fun e w' => FindN e (Sp.fromN (Sp.numsOf keys) n) ∧ Below w.heap.size w w' := by
  refine (above_any t _ (Sp.keyN n) w h.tr).mono ?_
  rintro e w' ⟨h1, hb⟩
  rw [h.it, Sp.find_at h.lt hn] at h1
  exact ⟨h1.num, hb⟩
theorem behindN (t : Nat) (keys : List Nat) (n : Nat) (hn : n < 256) (w : World) (h : TnS w t keys) :
    Calls Tryz.prog 31 #[.pointer (some ⟨t, 0, none⟩), .int .i64 ((Sp.Rt.root (Sp.treeN keys).1 : Nat) : Int), .string ⟨(Sp.keyN n).toArray⟩] w fun e w' => FindN e (Sp.fromN (Sp.numsOf keys) (n + 1)) ∧ Below w.heap.size w w' := by
  refine (behind_any t _ (Sp.keyN n) w h.tr).mono ?_
  rintro e w' ⟨h1, hb⟩
  rw [h.it, Sp.find_behind h.lt hn] at h1
  exact ⟨h1.num, hb⟩
theorem getN (t : Nat) (keys : List Nat) (n : Nat) (hn : n < 256) (w : World) (h : TnS w t keys) :
    Calls Tryz.prog 32 #[.pointer (some ⟨t, 0, none⟩), .int .i64 ((Sp.Rt.root (Sp.treeN keys).1 : Nat) : Int), .string ⟨(Sp.keyN n).toArray⟩] w fun e w' => FindN e (if n ∈ Sp.numsOf keys then some n else none) ∧ Below w.heap.size w w' := by
  refine (get_any t _ (Sp.keyN n) w h.tr).mono ?_
  rintro e w' ⟨h1, hb⟩
  rw [h.it, Sp.get_N h.lt (Sp.numsOf_sorted keys) hn] at h1
  refine ⟨FindIs.num (B := w.heap.size) (w := w') ?_, hb⟩
  split <;> rename_i hh <;> simpa [hh] using h1
/-- Texts that lie at the front of blocks. -/
def TxC (W : World) (l : List (Nat × Txt)) : Prop := ∀ p ∈ l, p.1 < W.heap.size ∧ W.cell? ⟨p.1, 0, none⟩ = some (.string ⟨p.2.toArray⟩)
theorem TxC.go {W W' : World} {l : List (Nat × Txt)} (h : TxC W l) (hb : Below W.heap.size W W') : TxC W' l := fun p hp => ⟨Nat.lt_of_lt_of_le (h p hp).1 hb.size, (hb.cell (p := ⟨p.1, 0, none⟩) (h p hp).1).trans (h p hp).2⟩
structure KnS (w W : World) (t : Nat) (keys : List Nat) (l : List (Nat × Txt)) : Prop where
  tn : TnS W t keys
  tx : TxC W l
  hb : Below w.heap.size w W
theorem KnS.go {w W W' : World} {t : Nat} {keys : List Nat} {l : List (Nat × Txt)} (h : KnS w W t keys l) (hb : Below W.heap.size W W') : KnS w W' t keys l := ⟨h.tn.go hb, h.tx.go hb, h.hb.trans (hb.mono h.hb.size)⟩
theorem KnS.new {w W : World} {t : Nat} {keys : List Nat} {l : List (Nat × Txt)} (h : KnS w W t keys l) (T : TypeId) (s : Txt) (cs : List Value) : KnS w (W.alloc (.cells ⟨.string ⟨s.toArray⟩ :: cs⟩ T)) t keys ((W.heap.size, s) :: l) := by
  have hal : Below W.heap.size W (W.alloc (.cells ⟨.string ⟨s.toArray⟩ :: cs⟩ T)) := (Below.refl _ _).alloc (Nat.le_refl _) _
  refine ⟨h.tn.go hal, fun p hp => ?_, h.hb.trans (hal.mono h.hb.size)⟩
  rcases List.mem_cons.1 hp with rfl | hp
  · exact ⟨(Blk.new W T _).lt, (Blk.new W T _).cell 0⟩
  · exact h.tx.go hal p hp
end Go.Proofs.YtmcpkhknjdiocaaGreat
