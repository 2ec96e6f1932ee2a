/- The leaf in which a key is: find.leaf over a tree on a file. The document's walk over a tree's pages: what it holds. copyholdhelp.Tree: the document's trees of numbers, on a file. -/
import Derived.Test.YtmcpkhknjdiocaaGreatDoorQB10
import Derived.Test.YtmcpkhknjdiocaaGreatDoorQB19
import Derived.Test.YtmcpkhknjdiocaaGreatDoorQB20
import Derived.Test.YtmcpkhknjdiocaaGreatDoorQB27
import Derived.Test.YtmcpkhknjdiocaaGreatDoorQB30
import Derived.Deep.AppendLies
set_option linter.unusedSimpArgs false
set_option linter.unusedVariables false
namespace Go.Proofs.YtmcpkhknjdiocaaGreatDoor
open Go.RowKit
attribute [local go_sem low] mk_extract
attribute [local go_sem] After.cell After.frozen mk_extract_end ByteArray.mk_append_mk
theorem readPg_is {s : Txt} (h : Sp.readOk s = true) : readPg s = Sp.parse s := by unfold readPg; rw [h, if_pos rfl]
theorem gt_yes {x key : Txt} (h : Sp.lt key x = true) : Op.bytesLess x key = false ∧ (x == key) = false := by
  refine ⟨Sp.lt_asymm h, beq_eq_false_iff_ne.2 fun e => ?_⟩
  rw [e, Sp.lt_irr] at h
  simp at h
theorem gt_no {x key : Txt} (h : Sp.lt key x = false) : Op.bytesLess x key = true ∨ (x == key) = true := by
  rcases Sp.lt_tri key x with h1 | h1 | h1
  · rw [h] at h1; simp at h1
  · exact .inr (beq_iff_eq.2 h1.symm)
  · exact .inl h1
/-- What leaf holds between its rounds. -/
structure LoopS (w W : World) (t f m d : Nat) (last : Int) (v : Value) (V : List Txt) : Prop where
  st : St0 W t f m d last v V
  bz : Blk W w.heap.size PageT pgZ0
  hb : Below w.heap.size w W
theorem LoopS.go {w W W' : World} {t f m d : Nat} {last : Int} {v : Value} {V : List Txt} (h : LoopS w W t f m d last v V) (hb : Below W.heap.size W W') : LoopS w W' t f m d last v V :=
  ⟨h.st.go hb, h.bz.below hb h.bz.lt, h.hb.trans (hb.mono h.hb.size)⟩
structure LpS (w W : World) (t f m d : Nat) (last : Int) (v : Value) (V : List Txt) (b : Nat) (p : Sp.Page) (r : Refs) : Prop where
  l : LoopS w W t f m d last v V
  bp : Blk W b PageT (pageV p r).toArray
  pr : ∀ M : Nat → Prop, (∀ k, w.heap.size < k → ¬ M k) → PageRd W M p r
  ne : w.heap.size < b
theorem LpS.go {w W W' : World} {t f m d : Nat} {last : Int} {v : Value} {V : List Txt} {b : Nat} {p : Sp.Page} {r : Refs} (h : LpS w W t f m d last v V b p r) (hb : Below W.heap.size W W') : LpS w W' t f m d last v V b p r :=
  ⟨h.l.go hb, h.bp.below hb h.bp.lt, fun M hM => (h.pr M hM).go hb, h.ne⟩
theorem LpS.start {w wr w2 : World} {t f m d : Nat} {last : Int} {v : Value} {V : List Txt} {p : Sp.Page} {r : Refs} (h : LoopS w wr t f m d last v V) (hb : Below wr.heap.size wr w2) (hr : ∀ M : Nat → Prop, (∀ k, wr.heap.size ≤ k → ¬ M k) → PageRd w2 M p r) :
    LpS w (w2.alloc (.cells (pageV p r).toArray PageT)) t f m d last v V w2.heap.size p r := by
  have hal : Below w2.heap.size w2 (w2.alloc (.cells (pageV p r).toArray PageT)) := (Below.refl _ _).alloc (Nat.le_refl _) _
  have h1 := h.bz.lt
  exact ⟨(h.go hb).go hal, Blk.new _ _ _, fun M hM => (hr M fun k hk => hM k (by omega)).go hal, Nat.lt_of_lt_of_le h.bz.lt hb.size⟩
set_option maxRecDepth 100000 in
set_option maxHeartbeats 3200000 in
theorem leaf_any (t f m dd : Nat) (last : Int) (v : Value) (V : List Txt) (d : Nat) (tr : Sp.T d) (key : Txt) (w : World) (hs : St0 w t f m dd last v V) (hn : V.length ≤ 400) (hf : Sp.T.Filed V d tr) (hok : Sp.T.Ok d true tr) (hd : d < 8) :
    Calls Tryz.prog 102 #[.pointer (some ⟨t, 0, none⟩), .int .i64 ((Sp.T.id d tr : Nat) : Int), .string ⟨key.toArray⟩] w fun e w' => ∃ r, e = .returned (.tuple #[.agg (pageV (Sp.leafPg (Sp.leafOf d tr key []).1) r).toArray, .string ⟨(Sp.leafOf d tr key []).2.toArray⟩, .nilIface]) ∧ (∀ M : Nat → Prop, (∀ k, w.heap.size ≤ k → ¬ M k) → PageRd w' M (Sp.leafPg (Sp.leafOf d tr key []).1) r) ∧ Below w.heap.size w w' := by
  have hal : Below w.heap.size w (w.alloc (.cells pgZ0 PageT)) := (Below.refl _ _).alloc (Nat.le_refl _) _
  have HS := Lib.hid (show LoopS w (w.alloc (.cells pgZ0 PageT)) t f m dd last v V from ⟨hs.go hal, Blk.new _ _ _, hal⟩)
  have HF := Lib.hid hf
  have HOK := Lib.hid hok
  clear hs hal hf hok
  generalize hres : Sp.leafOf d tr key [] = res at *
  have HRES := Lib.hid hres
  clear hres
  simp only [pgZ0] at *
  go_enter Tryz.func102, Tryz.ntmps102
  go_upto_region 1 with fail
  refine wp_gen (fun W => LoopS w W t f m dd last v V) HS.out ?_
  clear HS
  intro w1 hS
  have S := Lib.hid hS
  clear hS
  go_upto_region 3 with fail
  go_wp2_with fail
  go_loopw [9, 10, 15] (fun bv iv cv wr => ∃ (j d' : Nat) (t' : Sp.T d') (b : Txt), bv = .string ⟨b.toArray⟩ ∧ iv = .int .i64 ((Sp.T.id d' t' : Nat) : Int) ∧ cv = .int .i64 (j : Int) ∧ j + d' < 8 ∧ Hid (Sp.T.Filed V d' t') ∧ Hid (Sp.T.Ok d' true t') ∧ Hid (Sp.leafOf d' t' key b = res) ∧ Hid (LoopS w wr t f m dd last v V)) (fun _ _ cv _ => 8 - (intOf cv).toNat)
  case atStart => exact ⟨0, d, tr, [], rfl, rfl, rfl, by omega, HF, HOK, HRES, S⟩
  case round =>
    obtain ⟨j, d', t', b, rfl, rfl, rfl, hj, F, OK, RES, R⟩ := hrel
    obtain ⟨hid2, hid4, hrd, hpp⟩ := F.out.root
    have hj8 : (j : Int) < 8 := by omega
    have HRD := Lib.hid hrd
    have HPP := Lib.hid hpp
    clear hrd hpp S
    have hzw : w.heap.size < wr.heap.size := R.out.bz.lt
    rcases d' with _ | d'
    · obtain ⟨id, l0⟩ := t'
      have hr2 := RES.out
      have hr2 : (l0, b) = res := hr2
      subst hr2
      have hpp : Sp.parse (Sp.atV V (id : Int)) = Sp.leafPg l0 := HPP.out
      have HP2 := Lib.hid hpp
      have hid2 : 2 ≤ id := hid2
      have hid4 : id < 400 := hid4
      have HR2 := Lib.hid (show Sp.readOk (Sp.atV V (id : Int)) = true from HRD.out)
      clear HPP HRD hpp F OK RES HF HOK HRES
      rw [show Sp.T.id 0 (id, l0) = id from rfl]
      go_upto_region 6 with (first
        | (go_at_call 133; refine (storeRead_any t f m dd last v V (id : Int) _ R.out.st hn (by omega) (by omega)).mono ?_; rintro e w2 ⟨r, rfl, hr, hb2⟩; rw [readV_yes HR2.out, HP2.out]; rw [readPg_is HR2.out, HP2.out] at hr; have HT := Lib.hid (LpS.start R.out hb2 hr); clear hr hb2)
        | (refine wpList_new PageT _ _ rfl rfl rfl rfl rfl rfl _ rfl (of_decide_eq_true (by kernel_rfl)) (by kernel_rfl) (by kernel_rfl) (by kernel_rfl) ?_))
      refine wp_gen (fun W => LpS w W t f m dd last v V w2.heap.size (Sp.leafPg l0) r) HT.out ?_
      clear HT R
      intro w3 hT
      have T := Lib.hid hT
      clear hT
      generalize w2.heap.size = bq at *
      have c0 : w3.cell? ⟨bq, 0, none⟩ = some (.int .i64 1) := T.out.bp.cell 0
      go_wp2_with (first
        | (refine wpList_row PageT _ rfl bq rfl rfl PageT _ (0, 0) _ T.out.bp Tryz.underlying119 rfl (by kernel_rfl) ?_)
        | (refine wpList_store_row rfl PageT _ _ rfl w.heap.size _ rfl rfl PageT _ T.out.l.bz (by kernel_rfl) rfl (pageV_all0 (Sp.leafPg l0) r) ?_))
      all_goals
        obtain ⟨⟨z0, z1, z2, z3, z4, z5, z6, z7, z8, z9, z10, z11, z12, z13⟩, _⟩ := (T.out.l.bz.row (ds := #[.int .i64 1, .slice r.I l0.length r.i, .slice r.K 0 r.k, .slice r.D 0 r.d, .string ⟨#[]⟩, .slice r.V 0 r.v, .slice r.F 0 r.f, .int .i64 0, .int .u64 0, .int .i64 0, .int .i64 0, .int .i64 0, .int .i64 0, .int .i64 0])).at14
        have hb4 : Below w.heap.size w (w3.setRow w.heap.size (pageV (Sp.leafPg l0) r).toArray) := below_setRow T.out.l.hb (Nat.le_refl _) _
        refine bodyPost_ret (v := .tuple #[.agg (pageV (Sp.leafPg l0) r).toArray, .string ⟨b.toArray⟩, .nilIface]) (by simp [results, Tryz.results102, go_sem, pageV, mtV, Sp.leafPg, Sp.mt0, Sp.root0, z0, z1, z2, z3, z4, z5, z6, z7, z8, z9, z10, z11, z12, z13]) rfl ⟨r, rfl, fun M hM => ?_, hb4⟩
        have h1 := T.out.pr (fun k => M k ∨ k = w.heap.size) (fun k hk => ?_)
        · exact (h1.chg ((chg_setRow0 w3 w.heap.size _).mono (fun k _ h => .inr h))).anti (fun k h => .inl h)
        · rintro (h | h)
          · exact hM k (Nat.le_of_lt hk) h
          · omega
    · obtain ⟨id, cs⟩ := t'
      obtain ⟨l2, l4, hhd, hpt, hsh, hkid⟩ := OK.out
      have l2 : 2 ≤ cs.length := l2
      have hcne : cs ≠ [] := by intro e; rw [e] at l2; simp at l2
      have hke : Sp.KeysRise cs := Sp.parted_keys hpt fun c hc => (hkid c hc).ne
      have hip : Sp.isPage (Sp.T.page (d' + 1) (id, cs)) = true := by
        have := (Sp.readOk_page HRD.out).1
        rw [HPP.out] at this
        exact this
      have HPP2 := Lib.hid (show Sp.parse (Sp.atV V (id : Int)) = Sp.branchPg (cs.map (·.1)) (cs.map fun c => ((Sp.T.id d' c.2 : Nat) : Int)) from HPP.out)
      have HIP := Lib.hid (show Sp.isPage (Sp.branchPg (cs.map (·.1)) (cs.map fun c => ((Sp.T.id d' c.2 : Nat) : Int))) = true from hip)
      have hid2 : 2 ≤ id := hid2
      have hid4 : id < 400 := hid4
      have HR2 := Lib.hid (show Sp.readOk (Sp.atV V (id : Int)) = true from HRD.out)
      have FK := Lib.hid (show ∀ c ∈ cs, Sp.T.Filed V d' c.2 from F.out.2)
      have OKK := Lib.hid (show ∀ c ∈ cs, Sp.T.Ok d' false c.2 from hkid)
      have HKE := Lib.hid hke
      have hcl1 : (cs.map (·.1)).length = cs.length := List.length_map _
      have hcl2 : (cs.map fun c => ((Sp.T.id d' c.2 : Nat) : Int)).length = cs.length := List.length_map _
      clear HPP HRD F OK HF HOK HRES hip hke hkid hhd hpt hsh
      rw [show Sp.T.id (d' + 1) (id, cs) = id from rfl]
      generalize hks : cs.map (·.1) = ks at *
      generalize his : (cs.map fun c => ((Sp.T.id d' c.2 : Nat) : Int)) = is at *
      have HKS := Lib.hid hks
      have HIS := Lib.hid his
      clear hks his
      go_upto_region 6 with (first
        | (go_at_call 133; refine (storeRead_any t f m dd last v V (id : Int) _ R.out.st hn (by omega) (by omega)).mono ?_; rintro e w2 ⟨r, rfl, hr, hb2⟩; rw [readV_yes HR2.out, HPP2.out]; rw [readPg_is HR2.out, HPP2.out] at hr; have HT := Lib.hid (LpS.start R.out hb2 hr); clear hr hb2)
        | (refine wpList_new PageT _ _ rfl rfl rfl rfl rfl rfl _ rfl (of_decide_eq_true (by kernel_rfl)) (by kernel_rfl) (by kernel_rfl) (by kernel_rfl) ?_))
      refine wp_gen (fun W => LpS w W t f m dd last v V w2.heap.size (Sp.branchPg ks is) r) HT.out ?_
      clear HT R
      intro w3 hT
      have T := Lib.hid hT
      clear hT
      generalize w2.heap.size = bq at *
      have c0 : w3.cell? ⟨bq, 0, none⟩ = some (.int .i64 2) := T.out.bp.cell 0
      go_upto_region 10 with (first
        | (refine wpList_row PageT _ rfl bq rfl rfl PageT _ (0, 0) _ T.out.bp Tryz.underlying119 rfl (by kernel_rfl) ?_)
        | (go_at_call 134; refine (isPage_any (M := NoM) (Sp.branchPg ks is) r _ (T.out.pr NoM (fun _ _ h => h))).mono ?_; rintro e w4 ⟨rfl, hb4⟩; rw [HIP.out]; replace T := Lib.hid (T.out.go hb4); clear hb4))
      obtain ⟨kb, ko, hKA, hkb, hkc⟩ := (T.out.pr NoM (fun _ _ h => h)).keys.at_ (k := 0) (by show 0 < ks.length; omega)
      obtain ⟨ib, io, hIA, hib, hic⟩ := (T.out.pr NoM (fun _ _ h => h)).kids.at_ (k := 0) (by show 0 < is.length; omega)
      have hkc : ∀ j, j < ks.length → w4.cell? ⟨kb, ko + j, none⟩ = some (.string ⟨(ks.getD j []).toArray⟩) := hkc
      have hic : ∀ j, j < is.length → w4.cell? ⟨ib, io + j, none⟩ = some (.int .i64 (is.getD j 0)) := hic
      have c2 : w4.cell? ⟨bq, 2, none⟩ = some (.slice (some ⟨kb, ko, none⟩) ks.length r.k) := hKA ▸ T.out.bp.cell 2
      have c3 : w4.cell? ⟨bq, 3, none⟩ = some (.slice (some ⟨ib, io, none⟩) is.length r.d) := hIA ▸ T.out.bp.cell 3
      have HKC := Lib.hid hkc
      have HIC := Lib.hid hic
      clear hkc hic hKA hIA c0
      go_upto_region 11 with fail
      go_wp2_with fail
      go_loopw [9, 13] (fun bv kv wr2 => ∃ k : Nat, k < cs.length ∧ kv = .int .i64 (k : Int) ∧ bv = .string ⟨(Sp.bel cs k b).toArray⟩ ∧ Hid (∀ p ∈ cs.drop (k + 1), Sp.lt key p.1 = true) ∧ wr2 = w4) (fun _ kv _ => (intOf kv).toNat)
      case atStart => exact ⟨cs.length - 1, by omega, by congr 1; omega, by rw [Sp.bel_last hcne], Lib.hid (fun p hp => by rw [List.drop_eq_nil_of_le (by omega)] at hp; cases hp), rfl⟩
      case round =>
        obtain ⟨k, hk, rfl, rfl, HD, rfl⟩ := hrel
        have hkk := HKC.out k (by omega)
        have hki := HIC.out k (by omega)
        have hcc := List.getElem?_eq_getElem hk
        have HCC := Lib.hid hcc
        have HCM := Lib.hid (List.getElem_mem hk)
        have hkid2 : is.getD k 0 = ((Sp.T.id d' cs[k].2 : Nat) : Int) := by rw [← HIS.out]; simp [List.getD, hcc]
        have hkey2 : ks.getD k [] = cs[k].1 := by rw [← HKS.out]; simp [List.getD, hcc]
        rw [hkid2] at hki
        have HK2 := Lib.hid hkey2
        have ENDS := Lib.hid (fun (h0 : k = 0 ∨ Sp.lt key cs[k].1 = false) => show Sp.leafOf d' cs[k].2 key (Sp.bel cs k b) = res from (Sp.leafOf_down HKE.out hcc h0 HD.out).symm.trans RES.out)
        clear hcc hkid2 hkey2
        generalize hcd : cs[k] = cd at *
        clear hcd
        by_cases h0 : k = 0
        · have E0 := Lib.hid (ENDS.out (.inl h0))
          subst h0
          have hki : wr.cell? ⟨ib, io, none⟩ = some (.int .i64 ((Sp.T.id d' cd.2 : Nat) : Int)) := hki
          go_wp2_with fail
          all_goals
            refine ⟨⟨j + 1, d', cd.2, _, rfl, rfl, by go_num, by omega, Lib.hid (FK.out cd HCM.out), Lib.hid (OKK.out cd HCM.out).top, E0, Lib.hid T.out.l⟩, by simp [intOf]; omega⟩
        · have h0' : 0 < (k : Int) := by omega
          have HS1 := Lib.hid (Sp.bel_step (b := b) hk (by omega))
          have HS2 := Lib.hid (fun (h : Sp.lt key ((cs.map (·.1)).getD k []) = true) => Sp.drop_step hk (by omega) HD.out h)
          rw [HKS.out] at HS1 HS2
          generalize ks.getD k [] = kx at *
          rcases hq : Sp.lt key kx with _ | _
          · have E0 := Lib.hid (ENDS.out (.inr (HK2.out ▸ hq)))
            rcases gt_no hq with hq1 | hq1
            all_goals
              clear hq
              go_wp2_with fail
              refine ⟨⟨j + 1, d', cd.2, _, rfl, rfl, by go_num, by omega, Lib.hid (FK.out cd HCM.out), Lib.hid (OKK.out cd HCM.out).top, E0, Lib.hid T.out.l⟩, by simp [intOf]; omega⟩
          · obtain ⟨hq1, hq2⟩ := gt_yes hq
            have HS3 := Lib.hid (HS2.out hq)
            clear hq HS2
            go_wp2_with fail
            refine ⟨⟨k - 1, by omega, by congr 1; omega, by rw [HS1.out], HS3, trivial⟩, by simp [intOf]; omega⟩
end Go.Proofs.YtmcpkhknjdiocaaGreatDoor
namespace Go.Proofs.YtmcpkhknjdiocaaGreatDoor
open Go.RowKit
attribute [local go_sem low] mk_extract
attribute [local go_sem] After.cell After.frozen mk_extract_end ByteArray.mk_append_mk
namespace Sp
/-- The leaves of a tree, as pages, in order. -/
def T.leaves : (d : Nat) → T d → List Page
  | 0, t => [leafPg t.2]
  | d + 1, t => t.2.flatMap fun c => T.leaves d c.2
theorem T.leaves_items : ∀ (d : Nat) (t : T d), (T.leaves d t).flatMap (·.items) = T.items d t
  | 0, t => by
    show [leafPg t.2].flatMap (·.items) = t.2
    simp [leafPg]
  | d + 1, t => by
    show (t.2.flatMap fun c => T.leaves d c.2).flatMap (·.items) = t.2.flatMap fun c => T.items d c.2
    rw [List.flatMap_assoc]
    congr 1
    funext c
    exact T.leaves_items d c.2
end Sp
abbrev WalkT : TypeId := 234
/-- What a walk may write. -/
def Wm (g : Nat) (vi vp : Value) (k : Nat) : Prop := k = g ∨ vi.ownBlock = some k ∨ vp.ownBlock = some k
/-- A walk in memory: the numbers, the leaves that it met. -/
structure WkS (w : World) (g B : Nat) (ids : List Int) (L : List Sp.Page) (vi vp : Value) : Prop where
  blk : Blk w g WalkT #[vi, vp, .int .i64 0]
  oi : w.ownsRow B IntT 1 vi ids.length (ids.map iv)
  op : ∃ xs, w.ownsRow B PageT 14 vp L.length xs ∧ PgCells w (Wm g vi vp) L xs
  gB : g < B
theorem WkS.go {w w' : World} {g B : Nat} {ids : List Int} {L : List Sp.Page} {vi vp : Value} (h : WkS w g B ids L vi vp) (hb : Below w.heap.size w w') : WkS w' g B ids L vi vp := by
  obtain ⟨xs, h1, h2⟩ := h.op
  exact ⟨h.blk.below hb h.blk.lt, own_chg2 (S := NoM) h.oi (Chg.of_below hb) (fun _ _ h => h), ⟨xs, own_chg2 (S := NoM) h1 (Chg.of_below hb) (fun _ _ h => h), h2.chg (Chg.of_below hb)⟩, h.gB⟩
theorem own_geB {w : World} {base n : Nat} {e : TypeId} {size : Nat} {v : Value} {xs : List Value} (h : w.ownsRow base e size v n xs) : ∀ k, v.ownBlock = some k → base ≤ k := by
  intro k hk
  rcases h.2 with ⟨rfl, _⟩ | ⟨g, cap, cur, rfl, hg, _⟩
  · simp [Value.ownBlock] at hk
  · have : g = k := by simpa [Value.ownBlock] using hk
    omega
theorem Row.wide {w : World} {M T : Nat → Prop} {A : Option Addr} {cs : List Value} (h : Row w M A cs) (hT : ∀ k, k < w.heap.size → T k → M k) : Row w T A cs := h.to hT
theorem Items.wide {w : World} {M T : Nat → Prop} {A : Option Addr} {l : List Sp.Item} (h : Items w M A l) (hT : ∀ k, k < w.heap.size → T k → M k) : Items w T A l := by
  refine ⟨h.1, ?_⟩
  rcases h.2 with h | ⟨b, off, e, hb, hm, hc⟩
  · exact .inl h
  · refine .inr ⟨b, off, e, hb, fun t => hm (hT b hb t), fun k hk => ?_⟩
    obtain ⟨V, c, h1, h2⟩ := hc k hk
    exact ⟨V, c, h1, Row.to h2 hT⟩
theorem Frees.wide {w : World} {M T : Nat → Prop} {A : Option Addr} {l : List Sp.Free} (h : Frees w M A l) (hT : ∀ k, k < w.heap.size → T k → M k) : Frees w T A l := by
  refine ⟨h.1, ?_⟩
  rcases h.2 with h | ⟨b, off, e, hb, hm, hc⟩
  · exact .inl h
  · refine .inr ⟨b, off, e, hb, fun t => hm (hT b hb t), fun k hk => ?_⟩
    obtain ⟨V, c, h1, h2, h3⟩ := hc k hk
    exact ⟨V, c, h1, Row.to h2 hT, h3⟩
theorem PageRd.wide {w : World} {M T : Nat → Prop} {p : Sp.Page} {r : Refs} (h : PageRd w M p r) (hT : ∀ k, k < w.heap.size → T k → M k) : PageRd w T p r :=
  ⟨h.items.wide hT, Row.to h.keys hT, Row.to h.kids hT, Row.to h.vals hT, h.free.wide hT, h.txn⟩
theorem PgCells.wide {w : World} {M T : Nat → Prop} (hT : ∀ k, k < w.heap.size → T k → M k) : ∀ {P : List Sp.Page} {xs : List Value}, PgCells w M P xs → PgCells w T P xs
  | [], _, h => h
  | _ :: _, _, ⟨r, ys, e, hr, h⟩ => ⟨r, ys, e, hr.wide hT, PgCells.wide hT h⟩
theorem PgCells.snoc {w : World} {M : Nat → Prop} {p : Sp.Page} {r : Refs} (hp : PageRd w M p r) {P : List Sp.Page} {xs : List Value} (h : PgCells w M P xs) : PgCells w M (P ++ [p]) (xs ++ pageV p r) :=
  PgCells.app (Q := [p]) (ys := pageV p r) ⟨r, [], by simp, hp, rfl⟩ h
/-- One more number. -/
theorem WkS.ids {w w' : World} {g B : Nat} {ids : List Int} {L : List Sp.Page} {vi vi' vp : Value} {n : Int} (h : WkS w g B ids L vi vp) (ho : w'.ownsRow B IntT 1 vi' (ids.length + 1) (ids.map iv ++ [iv n])) (hg : w.grownBy w' vi.ownBlock)
    (hn : ∀ k, vi'.ownBlock = some k → vi.ownBlock = some k ∨ w.heap.size ≤ k) : WkS (w'.setCell ⟨g, 0, none⟩ vi') g B (ids ++ [n]) L vi' vp ∧ Chg (Wm g vi vp) w (w'.setCell ⟨g, 0, none⟩ vi') ∧ ∀ k, k < w.heap.size → Wm g vi' vp k → Wm g vi vp k := by
  have hk1 : Chg (fun k => vi.ownBlock = some k) w w' := Chg.of_grown hg (fun k hk => .inl hk)
  have hgi : ¬ vi.ownBlock = some g := fun e => by have := own_geB h.oi g e; have := h.gB; omega
  have hblk := h.blk.chg hk1 hgi
  have hk2 := Chg.set1 w' g 0 vi'
  have hk : Chg (Wm g vi vp) w (w'.setCell ⟨g, 0, none⟩ vi') := (hk1.mono fun k _ e => .inr (.inl e)).trans (hk2.mono fun k _ e => .inl e)
  have hm : ∀ k, k < w.heap.size → Wm g vi' vp k → Wm g vi vp k := by
    intro k hlt hw
    rcases hw with hw | hw | hw
    · exact .inl hw
    · rcases hn k hw with h' | h'
      · exact .inr (.inl h')
      · omega
    · exact .inr (.inr hw)
  obtain ⟨xs, h1, h2⟩ := h.op
  refine ⟨⟨hblk.set_ 0 _, ?_, ⟨xs, ?_, ?_⟩, h.gB⟩, hk, hm⟩
  · rw [List.length_append, List.map_append]
    exact own_chg2 ho hk2 fun k hk' e => by have := own_geB ho k hk'; have := h.gB; have e : k = g := e; omega
  · refine own_chg2 (own_chg2 h1 hk1 fun k hk' e => ?_) hk2 fun k hk' e => by have := own_geB h1 k hk'; have := h.gB; have e : k = g := e; omega
    rcases h.oi.2 with ⟨rfl, _⟩ | ⟨gi, cap, cur, rfl, _, hh, _⟩
    · simp [Value.ownBlock] at e
    · have : gi = k := by simpa [Value.ownBlock] using e
      subst this
      exact own_not h1 (t := IntT) (by decide) gi hk' cur hh
  · have h3 : PgCells w (fun k => Wm g vi vp k ∨ Wm g vi' vp k) L xs := PgCells.wide (fun k hlt hk => hk.elim id (hm k hlt)) h2
    exact PgCells.anti (fun k h => .inr h) (h3.chg (hk.mono fun k _ e => .inl e))
/-- One more leaf. -/
theorem WkS.page {w w' : World} {g B : Nat} {ids : List Int} {L : List Sp.Page} {vi vp vp' : Value} {p : Sp.Page} {r : Refs} {xs : List Value} (h : WkS w g B ids L vi vp) (hxs : w.ownsRow B PageT 14 vp L.length xs) (hpc : PgCells w (Wm g vi vp) L xs) (hp : PageRd w (Wm g vi vp) p r) (ho : w'.ownsRow B PageT 14 vp' (L.length + 1) (xs ++ pageV p r)) (hg : w.grownBy w' vp.ownBlock)
    (hn : ∀ k, vp'.ownBlock = some k → vp.ownBlock = some k ∨ w.heap.size ≤ k) : WkS (w'.setCell ⟨g, 1, none⟩ vp') g B ids (L ++ [p]) vi vp' ∧ Chg (Wm g vi vp) w (w'.setCell ⟨g, 1, none⟩ vp') ∧ ∀ k, k < w.heap.size → Wm g vi vp' k → Wm g vi vp k := by
  have hk1 : Chg (fun k => vp.ownBlock = some k) w w' := Chg.of_grown hg (fun k hk => .inl hk)
  have hgp : ¬ vp.ownBlock = some g := fun e => by have := own_geB hxs g e; have := h.gB; omega
  have hblk := h.blk.chg hk1 hgp
  have hk2 := Chg.set1 w' g 1 vp'
  have hk : Chg (Wm g vi vp) w (w'.setCell ⟨g, 1, none⟩ vp') := (hk1.mono fun k _ e => .inr (.inr e)).trans (hk2.mono fun k _ e => .inl e)
  have hm : ∀ k, k < w.heap.size → Wm g vi vp' k → Wm g vi vp k := by
    intro k hlt hw
    rcases hw with hw | hw | hw
    · exact .inl hw
    · exact .inr (.inl hw)
    · rcases hn k hw with h' | h'
      · exact .inr (.inr h')
      · omega
  refine ⟨⟨hblk.set_ 1 _, ?_, ⟨xs ++ pageV p r, ?_, ?_⟩, h.gB⟩, hk, hm⟩
  · refine own_chg2 (own_chg2 h.oi hk1 fun k hk' e => ?_) hk2 fun k hk' e => by have := own_geB h.oi k hk'; have := h.gB; have e : k = g := e; omega
    rcases hxs.2 with ⟨rfl, _⟩ | ⟨gi, cap, cur, rfl, _, hh, _⟩
    · simp [Value.ownBlock] at e
    · have : gi = k := by simpa [Value.ownBlock] using e
      subst this
      exact own_not h.oi (t := PageT) (by decide) gi hk' cur hh
  · rw [List.length_append]
    exact own_chg2 ho hk2 fun k hk' e => by have := own_geB ho k hk'; have := h.gB; have e : k = g := e; omega
  · have h3 : PgCells w (fun k => Wm g vi vp k ∨ Wm g vi vp' k) (L ++ [p]) (xs ++ pageV p r) := PgCells.wide (fun k hlt hk => hk.elim id (hm k hlt)) (PgCells.snoc hp hpc)
    exact PgCells.anti (fun k h => .inr h) (h3.chg (hk.mono fun k _ e => .inl e))
end Go.Proofs.YtmcpkhknjdiocaaGreatDoor
namespace Go.Proofs.YtmcpkhknjdiocaaGreatDoor
open Go.RowKit
attribute [local go_sem low] mk_extract
attribute [local go_sem] After.cell After.frozen mk_extract_end ByteArray.mk_append_mk
/-- What Tree holds between its rounds. -/
structure TgS (w W : World) (f s : Nat) (P : List Sp.Page) (V : List Txt) : Prop where
  df : DfAt W f V
  st : StF W s (.pointer (some ⟨f, 0, none⟩)) P
  hb : Below w.heap.size w W
  hf : w.heap.size ≤ f
  hs : w.heap.size ≤ s
theorem TgS.go {w W W' : World} {f s : Nat} {P : List Sp.Page} {V : List Txt} (h : TgS w W f s P V) (hb : Below W.heap.size W W') : TgS w W' f s P V :=
  ⟨h.df.go hb, h.st.go hb, h.hb.trans (hb.mono h.hb.size), h.hf, h.hs⟩
theorem TgS.put {w W W' : World} {f s : Nat} {P P' : List Sp.Page} {V : List Txt} (h : TgS w W f s P V) (hk : Chg (OneM s) W W') (hs : StF W' s (.pointer (some ⟨f, 0, none⟩)) P') : TgS w W' f s P' V :=
  ⟨h.df.off h.st hk, hs, h.hb.trans (hk.below h.hb.size fun k hk e => by have : k = s := e; have := h.hs; omega), h.hf, h.hs⟩
theorem TgS.write {w W W' : World} {f s : Nat} {P : List Sp.Page} {V V' : List Txt} (h : TgS w W f s P V) (hk : Chg (OneM f) W W') (hd : DfAt W' f V') : TgS w W' f s P V' :=
  ⟨hd, h.st.off h.df hk, h.hb.trans (hk.below h.hb.size fun k hk e => by have : k = f := e; have := h.hf; omega), h.hf, h.hs⟩
theorem U8s.cell {w W : World} {A : Option Addr} {l : List Nat} (h : U8s w A l) (hb : Below w.heap.size w W) {j : Nat} (hj : j < l.length) : ∃ b off, A = some ⟨b, off, none⟩ ∧ W.cell? ⟨b, off + j, none⟩ = some (.int .u8 ((l.getD j 0 : Nat) : Int)) := by
  obtain ⟨b, off, e, hlt, hc⟩ := h.at_ hj
  exact ⟨b, off, e, (hb.cell (p := ⟨b, off + j, none⟩) hlt).trans (hc j hj)⟩
theorem exec_load_at {P : Program} {o : Oper} {a : Act} (ty : TypeId) (x : Operand) (ho : o.op = .load ty x) (g off : Nat) (hx : a.eval x = .pointer (some ⟨g, off, none⟩)) (w : World) (cs : Array Value) (d : TypeDesc) (hc : ∀ j v, cs[j]? = some v → w.cell? ⟨g, off + j, none⟩ = some v)
    (hu : P.underlying ty = some d) (hd : (match d with | .struct _ | .array _ _ => true | _ => false) = true) (hi : (P.info? ty).map (·.size) = some cs.size) : (execOp a.eval o).run P w = .ok (.value (.agg cs)) w := by
  unfold execOp
  simp only [ho, hx, Instr.loadAt, Instr.sureAddr, Sem.run_bind, Sem.run_pure, Result.andThen_ok, run_loadVar_at w g off ty cs d hc hu hd hi]
set_option maxRecDepth 100000 in
set_option maxHeartbeats 1600000 in
theorem tree_any (keys : List Nat) (A : Option Addr) (c : Nat) (w : World) (hk : U8s w A keys) (h256 : ∀ k ∈ keys, k < 256) (hn : keys.length ≤ 120) :
    Calls Tryz.prog 30 #[.slice A keys.length c] w fun e w' => ∃ f P, e = .returned (.tuple #[.pointer (some ⟨f, 0, none⟩), .int .i64 ((Sp.Rt.root (Sp.treeN keys).1 : Nat) : Int), .int .i64 ((P.length + 2 : Nat) : Int)]) ∧
      w.heap.size ≤ f ∧ DfAt w' f ([[], []] ++ P.map Sp.bytes) ∧ Sp.TreeAt keys P ∧ Below w.heap.size w w' := by
  have hal : Below w.heap.size w (w.alloc (.cells #[.string ⟨#[]⟩, .string ⟨#[]⟩] StrT)) := (Below.refl _ _).alloc (Nat.le_refl _) _
  have HNF := Lib.hid (dNewFile_any [[], []] w.heap.size 0 2 (M := NoM) (w.alloc (.cells #[.string ⟨#[]⟩, .string ⟨#[]⟩] StrT)) ⟨by simp, .inr ⟨_, _, rfl, (Blk.new w StrT _).lt, id, fun j u hu => by
    rw [Nat.zero_add, (Blk.new w StrT _).cell]
    simpa [tv] using hu⟩⟩ (by simp) (by simp) (by simp))
  have HAL := Lib.hid hal
  have HK := Lib.hid hk
  have H256 := Lib.hid h256
  clear hal hk h256
  go_enter Tryz.func30, Tryz.ntmps30
  go_upto_region 2 with (go_at_call 9; refine HNF.out.mono ?_; rintro e w2 ⟨f, rfl, hf, hd, hb⟩; have HF := Lib.hid hf; have HD := Lib.hid hd; have HB := Lib.hid (HAL.out.trans (hb.mono HAL.out.size)); clear hf hd hb HNF)
  go_upto_region 3 with (go_at_call 32; refine (dStoreNew_any (some ⟨f, 0, none⟩) _).mono ?_; rintro e w3 ⟨s, rfl, hs, hst, hb⟩; have S0 := Lib.hid (show TgS w w3 f s [] [[], []] from ⟨HD.out.go hb, hst, HB.out.trans (hb.mono HB.out.size), Nat.le_trans (HAL.out.size) HF.out, Nat.le_trans HB.out.size hs⟩); clear hs hst hb)
  clear HF HD HB HAL
  go_upto_region 5 with fail
  go_wp2_with fail
  go_loopw [7, 8] (fun rv iv wr => ∃ (j : Nat) (P : List Sp.Page), j ≤ keys.length ∧ iv = .int .i64 (j : Int) ∧ rv = .int .i64 ((Sp.Rt.root (Sp.treeN (keys.take j)).1 : Nat) : Int) ∧ Hid (Sp.TreeAt (keys.take j) P) ∧ Hid (TgS w wr f s P [[], []])) (fun _ iv _ => keys.length - (intOf iv).toNat)
  case atStart => exact ⟨0, [], Nat.zero_le _, rfl, rfl, Lib.hid Sp.TreeAt.start, S0⟩
  case round =>
    obtain ⟨j, P, hj, rfl, rfl, TA, S⟩ := hrel
    clear S0
    by_cases hlt : j < keys.length
    · obtain ⟨kb, ko, rfl, hkc⟩ := HK.out.cell S.out.hb hlt
      have hk2 := H256.out _ (show keys.getD j 0 ∈ keys by simp [List.getD, hlt])
      have htk : ∀ k ∈ keys.take j, k < 256 := fun k hk => H256.out k (List.mem_of_mem_take hk)
      have hbd := TA.out.bound htk hk2
      rw [List.length_take, Nat.min_eq_left hj] at hbd
      have HNX := Lib.hid (fun P' h1 h2 => show Sp.TreeAt (keys.take (j + 1)) P' by
        rw [Sp.take_snoc (d := 0) hlt]
        exact TA.out.next htk hk2 h1 h2)
      have HRT := Lib.hid (show (Sp.treeN (keys.take (j + 1))).1 = (Sp.putR (Sp.itN (keys.getD j 0)) (Sp.treeN (keys.take j)).1 (Sp.treeN (keys.take j)).2).1 by rw [Sp.take_snoc (d := 0) hlt, Sp.treeN_snoc])
      have HAT := Lib.hid TA.out.at_
      have HBD := Lib.hid hbd
      have HIS := Lib.hid (Sp.itN_is _ hk2)
      have HPT := Lib.hid (putw_any s (.pointer (some ⟨f, 0, none⟩)) P (Sp.treeN (keys.take j)).1 (Sp.treeN (keys.take j)).2 (Sp.itN (keys.getD j 0)) none 0)
      clear htk hbd TA
      generalize keys.getD j 0 = k at *
      generalize (Sp.treeN (keys.take j)).2 = n at *
      generalize (Sp.treeN (keys.take j)).1 = o at *
      go_upto_region 8 with (first
        | (go_at_call 66; refine (key_any k hk2 _).mono ?_; rintro e w4 ⟨rfl, hb4⟩; have S4 := Lib.hid (S.out.go hb4); clear hb4)
        | (go_at_call 65; refine (HPT.out _ S4.out.st Row.nil_ HIS.out HAT.out (by have := HBD.out; omega)).mono ?_; rintro e w5 ⟨rfl, P', hst, hat, hit, hck⟩; have S5 := Lib.hid (S4.out.put hck hst); have HTA := Lib.hid (HNX.out P' hat hit); clear hst hat hit hck))
      go_wp2_with fail
      refine ⟨⟨j + 1, P', by omega, by go_num, by rw [HRT.out], HTA, S5⟩, by simp [intOf]; omega⟩
    · obtain rfl : j = keys.length := by omega
      have ta : Sp.TreeAt keys P := by have := TA.out; rwa [List.take_length] at this
      have HTA := Lib.hid ta
      have hPl := ta.len
      clear TA ta
      rw [List.take_length]
      generalize hrt : Sp.Rt.root (Sp.treeN keys).1 = rt at *
      go_upto_region 11 with fail
      go_loopw [11] (fun iv wr => ∃ i : Nat, i ≤ P.length ∧ iv = .int .i64 (i : Int) ∧ Hid (TgS w wr f s P ([[], []] ++ (P.take i).map Sp.bytes))) (fun iv _ => P.length - (intOf iv).toNat)
      case atStart => exact ⟨0, Nat.zero_le _, rfl, S⟩
      case round =>
        obtain ⟨i, hi, rfl, S⟩ := hrel
        obtain ⟨vi, vp, hst, _⟩ := S.out.st
        obtain ⟨Ai, ci, rfl⟩ := own_form hst.oi
        obtain ⟨Ap, cp, rfl⟩ : ∃ A c, vp = .slice A P.length c := by obtain ⟨xs, h1, _⟩ := hst.op; exact own_form h1
        have c5 : wr.cell? ⟨s, 5, none⟩ = some (.slice Ai P.length ci) := hst.bs.cell 5
        have c6 : wr.cell? ⟨s, 6, none⟩ = some (.slice Ap P.length cp) := hst.bs.cell 6
        have hsw := hst.bs.lt
        have HST := Lib.hid hst
        clear hst
        by_cases hlt2 : i < P.length
        · have hi400 : P.length ≤ 400 := by omega
          obtain ⟨gi, ci', e1, hgi, hgc⟩ := own_some HST.out.oi (by omega)
          simp only [Value.slice.injEq] at e1
          obtain ⟨rfl, _, rfl⟩ := e1
          obtain ⟨xs, ho, hpc⟩ := HST.out.op
          obtain ⟨gp, cp', e2, hgp, hpq⟩ := own_some ho (by omega)
          simp only [Value.slice.injEq] at e2
          obtain ⟨rfl, _, rfl⟩ := e2
          obtain ⟨r, hpr, hcx⟩ := hpc.at_ (List.getElem?_eq_getElem hlt2)
          have CP := Lib.hid (fun j v (hv : (pageV P[i] r).toArray[j]? = some v) => show wr.cell? ⟨gp, i * 14 + j, none⟩ = some v from hpq _ _ (hcx j v (by simpa using hv)))
          have CI := Lib.hid (show wr.cell? ⟨gi, i, none⟩ = some (.int .i64 ((i + 2 : Nat) : Int)) from hgc i _ (idsV_at hlt2))
          have C5 := Lib.hid c5
          have C6 := Lib.hid c6
          have HPR := Lib.hid hpr
          have HWV := Lib.hid (show Sp.writeV ([[], []] ++ (P.take i).map Sp.bytes) (i + 2) (Sp.bytes P[i]) = [[], []] ++ (P.take (i + 1)).map Sp.bytes by
            have hl : ([[], []] ++ (P.take i).map Sp.bytes).length = i + 2 := by simp; omega
            have := Sp.writeV_end (V := [[], []] ++ (P.take i).map Sp.bytes) (s := Sp.bytes P[i])
            rw [hl] at this
            rw [this, List.take_succ_eq_append_getElem hlt2, List.map_append, List.append_assoc]
            rfl)
          clear hpr hcx hpq hgc ho hpc c6
          generalize P[i] = p at *
          go_upto_region 13 with fail
          clear c5
          refine wp_region_in 17 16 (fun W => Below wr.heap.size wr W) (by kernel_rfl) rfl ?_
          refine wpIn_take 0 (.pointer (some ⟨f, 0, none⟩)) rfl (by kernel_rfl) (by kernel_rfl) (by kernel_rfl) (by kernel_rfl) (by kernel_rfl) (by rfl) (fun _ _ _ h => h) (Below.refl wr.heap.size wr).drew (fun W hW => by go_simp; all_goals first | with_reducible rfl | rfl) ?_
          simp only [List.getElem_toArray, List.getElem_cons_zero, List.getElem_cons_succ, Act.put, List.setIfInBounds_toArray, List.set_cons_succ, List.set_cons_zero]
          refine wpIn_takeV 1 [2, 3, 4, 6, 7, 16] (.pointer (some ⟨s, 0, none⟩)) rfl (by kernel_rfl) (by kernel_rfl) (by kernel_rfl) (by kernel_rfl) (by kernel_rfl) (by kernel_rfl) (by kernel_rfl) (by rfl) (fun _ _ _ h => h) (Below.refl wr.heap.size wr).drew (fun W hW => by go_simp; all_goals first | with_reducible rfl | rfl) ?_
          simp only [List.getElem_toArray, List.getElem_cons_zero, List.getElem_cons_succ, Act.put, List.setIfInBounds_toArray, List.set_cons_succ, List.set_cons_zero]
          refine wpIn_takeV 2 [3, 4, 6, 7, 16] (.pointer (some ⟨s, 0, none⟩)) rfl (by kernel_rfl) (by kernel_rfl) (by kernel_rfl) (by kernel_rfl) (by kernel_rfl) (by kernel_rfl) (by kernel_rfl) (by rfl) (fun _ _ _ h => h) (Below.refl wr.heap.size wr).drew (fun W hW => by go_simp; all_goals first | with_reducible rfl | rfl) ?_
          simp only [List.getElem_toArray, List.getElem_cons_zero, List.getElem_cons_succ, Act.put, List.setIfInBounds_toArray, List.set_cons_succ, List.set_cons_zero]
          refine wpIn_takeV 3 [4, 6, 7, 16] (.pointer (some ⟨s, 5, none⟩)) rfl (by kernel_rfl) (by kernel_rfl) (by kernel_rfl) (by kernel_rfl) (by kernel_rfl) (by kernel_rfl) (by kernel_rfl) (by rfl) (fun _ _ _ h => h) (Below.refl wr.heap.size wr).drew (fun W hW => by go_simp; all_goals first | with_reducible rfl | rfl) ?_
          simp only [List.getElem_toArray, List.getElem_cons_zero, List.getElem_cons_succ, Act.put, List.setIfInBounds_toArray, List.set_cons_succ, List.set_cons_zero]
          refine wpIn_takeV 4 [6, 7, 16] (.slice (some ⟨gi, 0, none⟩) P.length ci) rfl (by kernel_rfl) (by kernel_rfl) (by kernel_rfl) (by kernel_rfl) (by kernel_rfl) (by kernel_rfl) (by kernel_rfl) (by rfl) (fun _ _ _ h => h) (Below.refl wr.heap.size wr).drew (fun W hW => by have hc := (hW.cell (p := ⟨s, 5, none⟩) hsw).trans C5.out; go_simp; all_goals first | with_reducible rfl | rfl) ?_
          simp only [List.getElem_toArray, List.getElem_cons_zero, List.getElem_cons_succ, Act.put, List.setIfInBounds_toArray, List.set_cons_succ, List.set_cons_zero]
          refine wpIn_takeV 5 [6, 7, 16] (.int .i64 (i : Int)) rfl (by kernel_rfl) (by kernel_rfl) (by kernel_rfl) (by kernel_rfl) (by kernel_rfl) (by kernel_rfl) (by kernel_rfl) (by rfl) (fun _ _ _ h => h) (Below.refl wr.heap.size wr).drew (fun W hW => by go_simp; all_goals first | with_reducible rfl | rfl) ?_
          simp only [List.getElem_toArray, List.getElem_cons_zero, List.getElem_cons_succ, Act.put, List.setIfInBounds_toArray, List.set_cons_succ, List.set_cons_zero]
          refine wpIn_takeV 6 [7, 16] (.pointer (some ⟨gi, i, none⟩)) rfl (by kernel_rfl) (by kernel_rfl) (by kernel_rfl) (by kernel_rfl) (by kernel_rfl) (by kernel_rfl) (by kernel_rfl) (by rfl) (fun _ _ _ h => h) (Below.refl wr.heap.size wr).drew (fun W hW => by go_simp; all_goals first | with_reducible rfl | rfl) ?_
          simp only [List.getElem_toArray, List.getElem_cons_zero, List.getElem_cons_succ, Act.put, List.setIfInBounds_toArray, List.set_cons_succ, List.set_cons_zero]
          refine wpIn_take 7 (.int .i64 ((i + 2 : Nat) : Int)) rfl (by kernel_rfl) (by kernel_rfl) (by kernel_rfl) (by kernel_rfl) (by kernel_rfl) (by rfl) (fun _ _ _ h => h) (Below.refl wr.heap.size wr).drew (fun W hW => by have hc := (hW.cell (p := ⟨gi, i, none⟩) hgi).trans CI.out; go_simp; all_goals first | with_reducible rfl | rfl) ?_
          simp only [List.getElem_toArray, List.getElem_cons_zero, List.getElem_cons_succ, Act.put, List.setIfInBounds_toArray, List.set_cons_succ, List.set_cons_zero]
          refine wpIn_takeV 8 [9, 10, 11, 13, 14, 15, 16] (.pointer (some ⟨s, 0, none⟩)) rfl (by kernel_rfl) (by kernel_rfl) (by kernel_rfl) (by kernel_rfl) (by kernel_rfl) (by kernel_rfl) (by kernel_rfl) (by rfl) (fun _ _ _ h => h) (Below.refl wr.heap.size wr).drew (fun W hW => by go_simp; all_goals first | with_reducible rfl | rfl) ?_
          simp only [List.getElem_toArray, List.getElem_cons_zero, List.getElem_cons_succ, Act.put, List.setIfInBounds_toArray, List.set_cons_succ, List.set_cons_zero]
          refine wpIn_takeV 9 [10, 11, 13, 14, 15, 16] (.pointer (some ⟨s, 0, none⟩)) rfl (by kernel_rfl) (by kernel_rfl) (by kernel_rfl) (by kernel_rfl) (by kernel_rfl) (by kernel_rfl) (by kernel_rfl) (by rfl) (fun _ _ _ h => h) (Below.refl wr.heap.size wr).drew (fun W hW => by go_simp; all_goals first | with_reducible rfl | rfl) ?_
          simp only [List.getElem_toArray, List.getElem_cons_zero, List.getElem_cons_succ, Act.put, List.setIfInBounds_toArray, List.set_cons_succ, List.set_cons_zero]
          refine wpIn_takeV 10 [11, 13, 14, 15, 16] (.pointer (some ⟨s, 6, none⟩)) rfl (by kernel_rfl) (by kernel_rfl) (by kernel_rfl) (by kernel_rfl) (by kernel_rfl) (by kernel_rfl) (by kernel_rfl) (by rfl) (fun _ _ _ h => h) (Below.refl wr.heap.size wr).drew (fun W hW => by go_simp; all_goals first | with_reducible rfl | rfl) ?_
          simp only [List.getElem_toArray, List.getElem_cons_zero, List.getElem_cons_succ, Act.put, List.setIfInBounds_toArray, List.set_cons_succ, List.set_cons_zero]
          refine wpIn_takeV 11 [13, 14, 15, 16] (.slice (some ⟨gp, 0, none⟩) P.length cp) rfl (by kernel_rfl) (by kernel_rfl) (by kernel_rfl) (by kernel_rfl) (by kernel_rfl) (by kernel_rfl) (by kernel_rfl) (by rfl) (fun _ _ _ h => h) (Below.refl wr.heap.size wr).drew (fun W hW => by have hc := (hW.cell (p := ⟨s, 6, none⟩) hsw).trans C6.out; go_simp; all_goals first | with_reducible rfl | rfl) ?_
          simp only [List.getElem_toArray, List.getElem_cons_zero, List.getElem_cons_succ, Act.put, List.setIfInBounds_toArray, List.set_cons_succ, List.set_cons_zero]
          refine wpIn_takeV 12 [13, 14, 15, 16] (.int .i64 (i : Int)) rfl (by kernel_rfl) (by kernel_rfl) (by kernel_rfl) (by kernel_rfl) (by kernel_rfl) (by kernel_rfl) (by kernel_rfl) (by rfl) (fun _ _ _ h => h) (Below.refl wr.heap.size wr).drew (fun W hW => by go_simp; all_goals first | with_reducible rfl | rfl) ?_
          simp only [List.getElem_toArray, List.getElem_cons_zero, List.getElem_cons_succ, Act.put, List.setIfInBounds_toArray, List.set_cons_succ, List.set_cons_zero]
          refine wpIn_takeV 13 [14, 15, 16] (.pointer (some ⟨gp, i * 14, none⟩)) rfl (by kernel_rfl) (by kernel_rfl) (by kernel_rfl) (by kernel_rfl) (by kernel_rfl) (by kernel_rfl) (by kernel_rfl) (by rfl) (fun _ _ _ h => h) (Below.refl wr.heap.size wr).drew (fun W hW => by go_simp; all_goals first | with_reducible rfl | rfl) ?_
          simp only [List.getElem_toArray, List.getElem_cons_zero, List.getElem_cons_succ, Act.put, List.setIfInBounds_toArray, List.set_cons_succ, List.set_cons_zero]
          refine wpIn_takeV 14 [15, 16] (.agg (pageV p r).toArray) rfl (by kernel_rfl) (by kernel_rfl) (by kernel_rfl) (by kernel_rfl) (by kernel_rfl) (by kernel_rfl) (by kernel_rfl) (by rfl) (fun _ _ _ h => h) ((Below.refl wr.heap.size wr).drew) (fun W hW => exec_load_at PageT _ rfl gp (i * 14) rfl W (pageV p r).toArray _ (fun j v hv => (hW.cell (p := ⟨gp, i * 14 + j, none⟩) hgp).trans (CP.out j v hv)) Tryz.underlying119 rfl (by kernel_rfl)) ?_
          simp only [List.getElem_toArray, List.getElem_cons_zero, List.getElem_cons_succ, Act.put, List.setIfInBounds_toArray, List.set_cons_succ, List.set_cons_zero]
          refine wpIn_one 15 rfl (by kernel_rfl) (fun _ => (Below.refl wr.heap.size wr).drew) (by rfl) ?_
          go_simp
          go_at_call 53
          refine (dBytes_any (M := OneM s) p r _ (HPR.out.go ((Below.refl _ _).drew))).mono ?_
          rintro e w4 ⟨rfl, hb4⟩
          have S4 := Lib.hid ((S.out.go ((Below.refl _ _).drew)).go hb4)
          have hB4 : Below wr.heap.size wr w4 := ((Below.refl wr.heap.size wr).drew).trans hb4
          dsimp only
          try simp only [List.getElem_toArray, List.getElem_cons_zero, List.getElem_cons_succ, Act.put, List.setIfInBounds_toArray, List.set_cons_succ, List.set_cons_zero]
          refine wpIn_one 16 rfl (by kernel_rfl) (fun _ => hB4) (by rfl) ?_
          go_simp
          go_at_call 16
          refine (dWrite_any f ([[], []] ++ (P.take i).map Sp.bytes) (i + 2) (Sp.bytes p) _ S4.out.df (by simp) (by simp; omega) (by omega)).mono ?_
          rintro e w5 ⟨rfl, hd5, hk5⟩
          have S5 := Lib.hid (HWV.out ▸ S4.out.write hk5 hd5)
          clear hd5 hk5
          dsimp only
          try simp only [List.getElem_toArray, List.getElem_cons_zero, List.getElem_cons_succ, Act.put, List.setIfInBounds_toArray, List.set_cons_succ, List.set_cons_zero]
          refine wpIn_done (by kernel_rfl) (by kernel_rfl) ?_ _
          go_wp2_with fail
          refine ⟨⟨i + 1, by omega, by go_num, S5⟩, by simp [intOf]; omega⟩
        · obtain rfl : i = P.length := by omega
          have S := Lib.hid (show TgS w wr f s P ([[], []] ++ P.map Sp.bytes) by have := S.out; rwa [List.take_length] at this)
          go_upto_region 15 with (go_at_call 67; refine (dSync_any f ([[], []] ++ P.map Sp.bytes) _ S.out.df (by simp) (by simp; omega)).mono ?_; rintro e w4 ⟨rfl, hd4, hk4⟩; have S4 := Lib.hid (S.out.write hk4 hd4); clear hd4 hk4)
          have c1 : w4.cell? ⟨s, 1, none⟩ = some (.int .i64 ((P.length + 2 : Nat) : Int)) := by
            obtain ⟨_, _, h, _⟩ := S4.out.st
            exact h.bs.cell 1
          clear c5 c6 S
          obtain ⟨np, hnp⟩ : ∃ np : Nat, np = P.length + 2 := ⟨_, rfl⟩
          rw [← hnp] at c1
          have HNP := Lib.hid hnp
          clear hnp
          go_region
          go_wp2_with fail
          refine bodyPost_ret (v := .tuple #[.pointer (some ⟨f, 0, none⟩), .int .i64 (rt : Int), .int .i64 (np : Int)]) (by simp [results, Tryz.results30, go_sem]) rfl ?_
          refine ⟨f, P, by rw [hrt, HNP.out], S4.out.hf, S4.out.df.go (Below.refl _ _).drew, HTA.out, S4.out.hb.drew⟩
end Go.Proofs.YtmcpkhknjdiocaaGreatDoor
