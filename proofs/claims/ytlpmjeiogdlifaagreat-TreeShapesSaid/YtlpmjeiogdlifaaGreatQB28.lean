/- A tree's shape: tree.shape, tree.Shape. tree.Shape. Law 9's stores over trees of numbers: what package tree answers of them. In plain Lean. The document's stores: in memory; a page's place; half, down. The document's stores: a page's place; half; which child. -/
import Derived.Test.YtlpmjeiogdlifaaGreatQB03
import Derived.Test.YtlpmjeiogdlifaaGreatQB11
import Derived.Test.YtlpmjeiogdlifaaGreatQB15
import Derived.Test.YtlpmjeiogdlifaaGreatQB16
import Derived.Test.YtlpmjeiogdlifaaGreatQB27
set_option linter.unusedSimpArgs false
set_option linter.unusedVariables false
namespace Go.Proofs.YtlpmjeiogdlifaaGreat
open Go.RowKit
attribute [local go_sem low] mk_extract
attribute [local go_sem] After.cell After.frozen mk_extract_end ByteArray.mk_append_mk
namespace Sp
def catSh (t : Txt) : Txt × Option Int → Txt × Option Int
  | (_, some e) => ([], some e)
  | (u, none) => (t ++ u, none)
theorem shKids_nil {f : Int → Txt × Option Int} {acc : Txt} : catSh acc (shKids f []) = (acc, none) := by simp [shKids, catSh]
theorem shKids_ok {f : Int → Txt × Option Int} {kids : List Int} {q : Nat} {acc u : Txt} (h : q < kids.length) (hu : f (kids.getD q 0) = (u, none)) : catSh acc (shKids f (kids.drop q)) = catSh (acc ++ u) (shKids f (kids.drop (q + 1))) := by
  rw [List.drop_eq_getElem_cons h, show kids[q] = kids.getD q 0 by simp [List.getD, h]]
  conv => lhs; unfold shKids
  rw [hu]
  rcases hr : shKids f (kids.drop (q + 1)) with ⟨v, _ | e⟩
  · simp [catSh]
  · simp [catSh]
theorem shKids_no {f : Int → Txt × Option Int} {kids : List Int} {q : Nat} {acc u : Txt} {e : Int} (h : q < kids.length) (hu : f (kids.getD q 0) = (u, some e)) : catSh acc (shKids f (kids.drop q)) = ([], some e) := by
  rw [List.drop_eq_getElem_cons h, show kids[q] = kids.getD q 0 by simp [List.getD, h]]
  conv => lhs; unfold shKids
  rw [hu]
  rfl
section
variable {rd : Int → Page × Option Int} {n : Nat} {id : Int} {p : Page} {e : Int}
theorem shape_err (h : rd id = (p, some e)) : shapeI rd n id = ([], some e) := by cases n <;> (unfold shapeI; rw [h])
theorem shape_deep (h : rd id = (p, none)) : shapeI rd 0 id = ([], some 12) := by unfold shapeI; rw [h]
theorem shape_leaf (h : rd id = (p, none)) (hk : p.kind = 1) : shapeI rd (n + 1) id = (40 :: (joinS (p.items.map fun x => x.key) ++ [41]), none) := by unfold shapeI; rw [h]; dsimp only; rw [if_pos hk]
theorem shape_no (h : rd id = (p, none)) (hk : p.kind ≠ 1) (hk2 : p.kind ≠ 2) : shapeI rd (n + 1) id = ([], some 12) := by unfold shapeI; rw [h]; dsimp only; rw [if_neg hk, if_pos hk2]
theorem shape_ok {t : Txt} (h : rd id = (p, none)) (hk : p.kind = 2) (ht : shKids (shapeI rd n) p.kids = (t, none)) : shapeI rd (n + 1) id = (91 :: (t ++ [93]), none) := by
  unfold shapeI; rw [h]; dsimp only; rw [if_neg (by omega), if_neg (by omega), ht]
theorem shape_kid {t : Txt} {e : Int} (h : rd id = (p, none)) (hk : p.kind = 2) (ht : shKids (shapeI rd n) p.kids = (t, some e)) : shapeI rd (n + 1) id = ([], some e) := by
  unfold shapeI; rw [h]; dsimp only; rw [if_neg (by omega), if_neg (by omega), ht]
end
theorem RightP.keys {V : List Txt} {s : Sto} (h : RightP V s) {i : Int} {p : Page} (hr : s.read V i = (p, none)) (hk : p.kind = 1) : ∀ x ∈ p.items.map (fun x => x.key), x.length ≤ 8 := by
  have hl : isLeaf p.items = true := by
    rcases isPage_kind (h i p hr) with ⟨_, hl⟩ | ⟨e, _⟩ | e | ⟨e, _⟩ | ⟨e, _⟩ | e
    · exact hl
    all_goals omega
  intro x hx
  obtain ⟨y, hy, rfl⟩ := List.mem_map.1 hx
  obtain ⟨j, hj, rfl⟩ := List.getElem_of_mem hy
  have h1 := (isLeaf_rng hl).2 j hj
  rw [isItem_def] at h1
  simp only [Bool.and_eq_true, short, decide_eq_true_eq] at h1
  have : p.items.getD j item0 = p.items[j] := by simp [List.getD, hj]
  rw [this] at h1
  exact h1.1.1.2
def capS : Nat → Nat
  | 0 => 0
  | n + 1 => 40 + 4 * capS n
theorem capS_le {n : Nat} (h : n ≤ 8) : capS n ≤ 900000 := (by decide : ∀ n, n < 9 → capS n ≤ 900000) n (by omega)
theorem shKids_len {f : Int → Txt × Option Int} {c : Nat} (h : ∀ k, (f k).1.length ≤ c) : ∀ ks : List Int, (shKids f ks).1.length ≤ ks.length * c
  | [] => Nat.zero_le _
  | k :: ks => by
    have h1 := h k
    have h2 := shKids_len h ks
    rw [List.length_cons, Nat.succ_mul]
    unfold shKids
    rcases hk : f k with ⟨t, _ | e⟩
    · rw [hk] at h1
      dsimp only at h1 ⊢
      rcases hr : shKids f ks with ⟨u, _ | e⟩
      · rw [hr] at h2
        dsimp only at h2 ⊢
        rw [List.length_append]
        omega
      · exact Nat.zero_le _
    · exact Nat.zero_le _
theorem shape_len {V : List Txt} {s : Sto} (h : RightP V s) : ∀ (n : Nat) (id : Int), (shapeI (s.read V) n id).1.length ≤ capS n
  | 0, id => by
    rcases hr : s.read V id with ⟨p, _ | e⟩
    · rw [shape_deep hr]; exact Nat.zero_le _
    · rw [shape_err hr]; exact Nat.zero_le _
  | n + 1, id => by
    rcases hr : s.read V id with ⟨p, _ | e⟩
    · by_cases hk : p.kind = 1
      · rw [shape_leaf hr hk]
        have h1 := joinS_len (h.keys hr hk)
        have h2 := (h.leaf hr hk).2
        rw [List.length_map] at h1
        show (40 :: (joinS _ ++ [41])).length ≤ 40 + 4 * capS n
        rw [List.length_cons, List.length_append, List.length_singleton]
        omega
      · by_cases hk2 : p.kind = 2
        · have h2 := (h.branch hr hk2).1
          have h3 := shKids_len (fun k => shape_len h n k) p.kids
          have h4 : p.kids.length * capS n ≤ 4 * capS n := Nat.mul_le_mul_right _ h2
          rcases ht : shKids (shapeI (s.read V) n) p.kids with ⟨t, _ | e⟩
          · rw [shape_ok hr hk2 ht]
            rw [ht] at h3
            show (91 :: (t ++ [93])).length ≤ 40 + 4 * capS n
            dsimp only at h3
            rw [List.length_cons, List.length_append, List.length_singleton]
            omega
          · rw [shape_kid hr hk2 ht]; exact Nat.zero_le _
        · rw [shape_no hr hk hk2]; exact Nat.zero_le _
    · rw [shape_err hr]; exact Nat.zero_le _
end Sp
structure ShS (w : World) (M : Nat → Prop) (t f m d : Nat) (fv : Value) (V : List Txt) (s : Sp.Sto) (b8 : Nat) (p : Sp.Page) (r : Refs) (W : World) : Prop where
  st : StAt W M t f m d fv V s
  bp : Blk W b8 PageT (pageV p r).toArray
  rd : PageRd W NoM p r
  hb : Below w.heap.size w W
theorem ShS.go {w W W' : World} {M : Nat → Prop} {t f m d : Nat} {fv : Value} {V : List Txt} {s : Sp.Sto} {b8 : Nat} {p : Sp.Page} {r : Refs} (h : ShS w M t f m d fv V s b8 p r W) (hb : Below W.heap.size W W') : ShS w M t f m d fv V s b8 p r W' :=
  ⟨h.st.go hb, h.bp.below hb h.bp.lt, h.rd.go hb, h.hb.trans (hb.mono h.hb.size)⟩
section
variable (M : Nat → Prop) (t f m d : Nat) (fv : Value) (V : List Txt) (s : Sp.Sto)
set_option maxRecDepth 100000 in
set_option maxHeartbeats 6400000 in
theorem shape_any (hok : s.Ok) (hV : V.length ≤ 400) (hP : Sp.RightP V s) : ∀ (n : Nat) (id : Int) (deep : Int) (w : World), StAt w M t f m d fv V s → deep + n = 9 → 1 ≤ deep →
    Calls Tryz.prog 53 #[.pointer (some ⟨t, 0, none⟩), .int .i64 id, .int .i64 deep] w fun e w' => e = .returned (.tuple #[.string ⟨(Sp.shapeI (s.read V) n id).1.toArray⟩, erO (Sp.shapeI (s.read V) n id).2]) ∧ Below w.heap.size w w' := by
  intro n
  induction n with
  | zero =>
    intro id deep w hst hd h1
    have hd9 : deep = 9 := by omega
    subst hd9
    have HRD := Lib.hid (stoRead_any M t f m d fv V s id w hst hok hV)
    have HRES : Hid (Sp.shapeI (s.read V) 0 id = ([], some (match (s.read V id).2 with | some e => e | none => 12))) := Lib.hid (by
      rcases h : s.read V id with ⟨p, _ | e⟩
      · exact Sp.shape_deep h
      · exact Sp.shape_err h)
    clear hst hd h1
    rw [HRES.out]
    generalize s.read V id = rd at *
    clear HRES
    obtain ⟨p, er⟩ := rd
    rcases er with _ | e
    all_goals
      go_enter Tryz.func53, Tryz.ntmps53
      go_upto_region 2 with (first
        | (go_at_call 28; refine HRD.out.mono ?_; rintro e w2 ⟨r, rfl, hr, hb2⟩; have HB2 := Lib.hid hb2; clear hr hb2; rw [pv14 p r]; simp only [erO])
        | (refine wpList_new PageT _ _ rfl rfl rfl rfl rfl rfl _ rfl (of_decide_eq_true (by kernel_rfl)) (by kernel_rfl) (by kernel_rfl) (by kernel_rfl) ?_))
      go_wp2_with fail
      refine bodyPost_ret (v := .tuple #[.string ⟨([] : Txt).toArray⟩, _]) (by simp [results, Tryz.results53, go_sem]; rfl) rfl ⟨rfl, HB2.out.alloc HB2.out.size _⟩
  | succ n ih =>
    intro id deep w hst hd h1
    have hd8 : ¬ 8 < deep := by omega
    have hwr : IntKind.i64.wrap (deep + 1) = deep + 1 := by rw [IntKind.wrap_i64]; omega
    have HST := Lib.hid hst
    have HRD := Lib.hid (stoRead_any M t f m d fv V s id w hst hok hV)
    have IH := Lib.hid ih
    clear hst ih
    generalize hrd : s.read V id = rd at *
    obtain ⟨p, er⟩ := rd
    rcases er with _ | e
    · go_enter Tryz.func53, Tryz.ntmps53
      go_upto_region 2 with (first
        | (go_at_call 28; refine HRD.out.mono ?_; rintro e w2 ⟨r, rfl, hr, hb2⟩; have HB2 := Lib.hid hb2; have HR2 := Lib.hid hr; clear hr hb2; rw [pv14 p r]; simp only [erO])
        | (refine wpList_new PageT _ _ rfl rfl rfl rfl rfl rfl _ rfl (of_decide_eq_true (by kernel_rfl)) (by kernel_rfl) (by kernel_rfl) (by kernel_rfl) ?_))
      have hal2 : Below w2.heap.size w2 (w2.alloc (.cells (pageV p r).toArray PageT)) := (Below.refl _ _).alloc (Nat.le_refl _) _
      refine wp_gen (fun W => ShS w M t f m d fv V s w2.heap.size p r W) ⟨(HST.out.go HB2.out).go hal2, Blk.new _ _ _, (HR2.out.anti fun k h => absurd h (fun h => h)).go hal2, HB2.out.trans (hal2.mono HB2.out.size)⟩ ?_
      generalize w2.heap.size = b8
      clear HB2 HR2 HST HRD hal2
      intro w3 hs3
      have S := Lib.hid hs3
      have c0 : w3.cell? ⟨b8, 0, none⟩ = some (.int .i64 p.kind) := hs3.bp.cell 0
      have c1 : w3.cell? ⟨b8, 1, none⟩ = some (.slice r.I p.items.length r.i) := hs3.bp.cell 1
      have c3 : w3.cell? ⟨b8, 3, none⟩ = some (.slice r.D p.kids.length r.d) := hs3.bp.cell 3
      clear hs3
      by_cases hk1 : p.kind = 1
      · have HRES := Lib.hid (Sp.shape_leaf (n := n) hrd hk1)
        obtain ⟨hne, hl4⟩ := hP.leaf hrd hk1
        have HKS := Lib.hid (hP.keys hrd hk1)
        rw [hk1] at c0
        clear hrd c3 hk1
        obtain ⟨ib, io, hI, hib, hic⟩ := S.out.rd.items.at_ (k := 0) (List.length_pos_iff.2 hne)
        rw [hI] at c1
        have HIC := Lib.hid hic
        obtain ⟨i0, hi0, hz0, hz1, hz2⟩ := info_parts info_str
        clear hic hI hne IH hd h1
        go_upto_region 8 with fail
        go_wp2_with fail
        go_loopw [10, 39] (fun z iv wr => ∃ q : Nat, q ≤ p.items.length ∧ iv = .int .i64 q ∧ Hid (wr.ownsRow w3.heap.size StrT 1 z q ((p.items.take q).map fun x => tv x.key)) ∧ Hid (Below w3.heap.size w3 wr)) (fun _ iv _ => p.items.length - (intOf iv).toNat)
        case atStart => exact ⟨0, Nat.zero_le _, rfl, Lib.hid (own_nilV _ _ _ _), Lib.hid (Below.refl _ _)⟩
        case round =>
          obtain ⟨q, hq, rfl, HO, HBW⟩ := hrel
          by_cases hql : q < p.items.length
          · obtain ⟨X, c, hx, _⟩ := HIC.out q hql
            have hnext : (p.items.take (q + 1)).map (fun x => tv x.key) = (p.items.take q).map (fun x => tv x.key) ++ [tv (p.items.getD q Sp.item0).key] := by
              rw [List.take_add_one, List.getElem?_eq_getElem hql, Option.toList_some, List.map_append]
              simp [List.getD, hql]
            have HNX := Lib.hid hnext
            have HRC := Lib.hid (fun j u hj => (HBW.out.cell (p := ⟨ib, io + q * 10 + j, none⟩) hib).trans (itemAt_cells hx j u hj))
            clear hx hnext
            generalize p.items.getD q Sp.item0 = y at *
            have HRC := Lib.hid (show ∀ j u, (#[.string ⟨y.key.toArray⟩, .int .i64 y.kind, .string ⟨y.val.toArray⟩, .int .i64 y.run, .int .i64 y.len, .slice X y.vals.length c, .int .i64 y.dup, .int .i64 y.root.page, .int .i64 y.root.count, .int .i64 y.root.flags] : Array Value)[j]? = some u → wr.cell? ⟨ib, io + q * 10 + j, none⟩ = some u from fun j u hj => HRC.out j u (by rw [← List.getElem?_toArray]; exact hj))
            have hibw : ib < wr.heap.size := Nat.lt_of_lt_of_le hib HBW.out.size
            go_upto_region 11 with (first
              | (refine wpList_at ItemT _ rfl ib (io + q * 10) rfl rfl _ _ HRC.out Tryz.underlying45 rfl (by kernel_rfl) ?_)
              | (refine wpList_new ItemT _ _ rfl rfl rfl rfl rfl rfl _ rfl (of_decide_eq_true (by kernel_rfl)) (by kernel_rfl) (by kernel_rfl) (by kernel_rfl) ?_))
            have hal4 : Below wr.heap.size wr (wr.alloc (.cells #[.string ⟨y.key.toArray⟩, .int .i64 y.kind, .string ⟨y.val.toArray⟩, .int .i64 y.run, .int .i64 y.len, .slice X y.vals.length c, .int .i64 y.dup, .int .i64 y.root.page, .int .i64 y.root.count, .int .i64 y.root.flags] ItemT)) := (Below.refl _ _).alloc (Nat.le_refl _) _
            refine wp_gen (fun W => W.cell? ⟨wr.heap.size, 0, none⟩ = some (.string ⟨y.key.toArray⟩) ∧ wr.heap.size < W.heap.size ∧ Below wr.heap.size wr W) ⟨(Blk.new _ _ _).cell 0, (Blk.new _ _ _).lt, hal4⟩ ?_
            rintro w4 ⟨k0, k1, hb4⟩
            have HB4 := Lib.hid hb4
            have HOW := Lib.hid (own_chg2 (S := NoM) HO.out (Chg.of_below (hb4.trans (((Below.refl w4.heap.size w4).alloc (Nat.le_refl _) (.cells #[.string ⟨y.key.toArray⟩] StrT)).mono hb4.size))) (fun _ _ h => h))
            clear hb4 HRC hal4 hibw
            go_wp2_with (at_builtin; refine wpList_append_own _ rfl _ _ 31 rfl w3.heap.size StrT i0 _ 1 16 Tryz.underlying31 hi0 hz0 hz1 hz2 rfl (by decide) _ q _ rfl HOW.out ⟨w4.heap.size, 0, none⟩ 1 1 [tv y.key] rfl rfl (cell_one_new _ _ _) (fun u hu => by rw [List.mem_singleton.1 hu]; rfl) ?c3 ?c4 ?c5 ?_)
            case c3 => simp only [maxLen]; omega
            case c4 => omega
            case c5 => rw [World.size_alloc]; have := HBW.out.size; have := HB4.out.size; omega
            intro v6 w6 ho6 hgr6 _
            have hz4 : w3.heap.size ≤ wr.heap.size := HBW.out.size
            have HB6 := Lib.hid ((HBW.out.trans (HB4.out.mono hz4)).trans (((Below.refl w4.heap.size w4).alloc (Nat.le_refl _) _).mono (Nat.le_trans hz4 HB4.out.size)) |>.trans (grown_ownV HOW.out (by rw [World.size_alloc]; have := HB4.out.size; omega) hgr6))
            have HO6 := Lib.hid (show w6.ownsRow w3.heap.size StrT 1 v6 (q + 1) ((p.items.take (q + 1)).map fun x => tv x.key) from by rw [HNX.out, List.map_take]; exact ho6)
            clear ho6 hgr6 HOW HB4
            go_wp2_with fail
            go_roundw
            case rel => exact ⟨q + 1, by omega, by go_num, HO6, HB6⟩
            case measure => simp [intOf]; omega
          · obtain rfl : q = p.items.length := by omega
            obtain ⟨A, c, rfl⟩ := own_sliceV HO.out
            have hrow := HO.out
            rw [List.take_length, show (p.items.map fun x => tv x.key) = (p.items.map fun x => x.key).map tv by rw [List.map_map]; rfl] at hrow
            have hkl : (p.items.map fun x => x.key).length = p.items.length := List.length_map _
            rw [← hkl] at hrow
            have HJ := Lib.hid (joinT_any A c (p.items.map fun x => x.key) wr hrow (by rw [hkl]; omega) HKS.out)
            rw [hkl] at HJ
            clear hrow
            have hJl := joinS_len HKS.out
            rw [hkl] at hJl
            generalize Sp.joinS (p.items.map fun x => x.key) = J at *
            have hJ9 : J.length ≤ 36 := by omega
            go_wp2_with (go_at_call 98; refine HJ.out.mono ?_; rintro e w5 ⟨rfl, hb5⟩; have HB5 := Lib.hid hb5; clear hb5)
            refine bodyPost_ret (v := .tuple #[.string ⟨(40 :: (J ++ [41]) : Txt).toArray⟩, .nilIface]) (by simp [results, Tryz.results53, go_sem]) rfl ⟨by rw [HRES.out]; rfl, S.out.hb.trans ((HBW.out.trans (HB5.out.mono HBW.out.size)).mono S.out.hb.size)⟩
      · by_cases hk2 : p.kind = 2
        · rw [hk2] at c0
          have hk22 := (hP.branch2 hrd hk2)
          have hk4 : p.kids.length ≤ 4 := (hP.branch hrd hk2).1
          obtain ⟨kb, ko, hD, hkb, hkc⟩ := S.out.rd.kids.at_ (k := 0) (by omega)
          rw [hD] at c3
          have HKC := Lib.hid hkc
          have HRD := Lib.hid hrd
          clear hrd c1 hD hkc
          generalize hres : Sp.catSh [] (Sp.shKids (Sp.shapeI (s.read V) n) p.kids) = RES at *
          have HR0 := Lib.hid (show Sp.catSh [] (Sp.shKids (Sp.shapeI (s.read V) n) (p.kids.drop 0)) = RES from by rw [List.drop_zero, hres])
          have HRES := Lib.hid hres
          clear hres
          go_upto_region 17 with fail
          go_wp2_with fail
          go_loopw [13, 61] (fun z iv wr => ∃ (q : Nat) (acc : Txt), z = .string ⟨acc.toArray⟩ ∧ acc.length ≤ q * 900000 ∧ q ≤ p.kids.length ∧ iv = .int .i64 q ∧ Hid (Sp.catSh acc (Sp.shKids (Sp.shapeI (s.read V) n) (p.kids.drop q)) = RES) ∧ Hid (Below w3.heap.size w3 wr)) (fun _ iv _ => p.kids.length - (intOf iv).toNat)
          case atStart => exact ⟨0, [], rfl, Nat.zero_le _, Nat.zero_le _, rfl, HR0, Lib.hid (Below.refl _ _)⟩
          case round =>
            obtain ⟨q, acc, rfl, hacc, hq, rfl, HR, HBW⟩ := hrel
            clear HR0
            by_cases hql : q < p.kids.length
            · have hkid := (HBW.out.cell (p := ⟨kb, ko + q, none⟩) hkb).trans (HKC.out q hql)
              have HSO := Lib.hid (fun u (h : Sp.shapeI (s.read V) n (p.kids.getD q 0) = (u, none)) => (Sp.shKids_ok (f := Sp.shapeI (s.read V) n) (acc := acc) hql h).symm.trans HR.out)
              have HSN := Lib.hid (fun u e (h : Sp.shapeI (s.read V) n (p.kids.getD q 0) = (u, some e)) => (Sp.shKids_no (f := Sp.shapeI (s.read V) n) (acc := acc) hql h).symm.trans HR.out)
              have HI := Lib.hid (IH.out (p.kids.getD q 0) (deep + 1) wr (S.out.st.go HBW.out) (by omega) (by omega))
              have hul := Nat.le_trans (Sp.shape_len hP n (p.kids.getD q 0)) (Sp.capS_le (show n ≤ 8 by omega))
              generalize p.kids.getD q 0 = kid at *
              generalize hsk : Sp.shapeI (s.read V) n kid = sk at *
              clear hsk
              obtain ⟨u, er⟩ := sk
              have hbz := HBW.out.size
              dsimp only at hul
              have hsum : acc.length + u.length ≤ 9000000 := by omega
              rcases er with _ | e
              · go_wp2_with (go_at_call 53; refine HI.out.mono ?_; rintro e w5 ⟨rfl, hb5⟩; have HB5 := Lib.hid hb5; clear hb5; simp only [erO])
                go_roundw
                case rel => exact ⟨q + 1, acc ++ u, by simp, by rw [List.length_append]; omega, by omega, by go_num, Lib.hid (HSO.out u rfl), Lib.hid (HBW.out.trans (HB5.out.mono hbz))⟩
                case measure => simp [intOf]; omega
              · go_wp2_with (go_at_call 53; refine HI.out.mono ?_; rintro e w5 ⟨rfl, hb5⟩; have HB5 := Lib.hid hb5; clear hb5; simp only [erO])
                refine bodyPost_ret (v := .tuple #[.string ⟨([] : Txt).toArray⟩, .iface ErrT (.int .i64 e)]) (by simp [results, Tryz.results53, go_sem]) rfl ?_
                have hx := HSN.out u e rfl
                rw [HRES.out.symm] at hx
                refine ⟨?_, S.out.hb.trans ((HBW.out.trans (HB5.out.mono hbz)).mono S.out.hb.size)⟩
                rcases hy : Sp.shKids (Sp.shapeI (s.read V) n) p.kids with ⟨v, _ | e2⟩
                · rw [hy] at hx; simp [Sp.catSh] at hx
                · rw [hy] at hx
                  simp only [Sp.catSh, Prod.mk.injEq, Option.some.injEq, true_and] at hx
                  rw [Sp.shape_kid HRD.out hk2 hy, hx]
                  rfl
            · obtain rfl : q = p.kids.length := by omega
              have HF := HR.out
              rw [List.drop_length, Sp.shKids_nil] at HF
              subst HF
              have hacc2 : acc.length ≤ 4000000 := by omega
              go_wp2_with fail
              refine bodyPost_ret (v := .tuple #[.string ⟨(91 :: (acc ++ [93]) : Txt).toArray⟩, .nilIface]) (by simp [results, Tryz.results53, go_sem]) rfl ?_
              have hx := HRES.out
              refine ⟨?_, S.out.hb.trans (HBW.out.mono S.out.hb.size)⟩
              rcases hy : Sp.shKids (Sp.shapeI (s.read V) n) p.kids with ⟨v, _ | e2⟩
              · rw [hy] at hx
                simp only [Sp.catSh, List.nil_append, Prod.mk.injEq, and_true] at hx
                rw [Sp.shape_ok HRD.out hk2 hy, hx]
                rfl
              · rw [hy] at hx; simp [Sp.catSh] at hx
        · have HRES := Lib.hid (Sp.shape_no (n := n) hrd hk1 hk2)
          have e1 : (p.kind == 1) = false := beq_eq_false_iff_ne.2 hk1
          have e2 : (p.kind != 2) = true := bne_iff_ne.2 hk2
          go_wp2_with fail
          refine bodyPost_ret (v := .tuple #[.string ⟨([] : Txt).toArray⟩, .iface ErrT (.int .i64 12)]) (by simp [results, Tryz.results53, go_sem]) rfl ⟨by rw [HRES.out]; rfl, S.out.hb⟩
    · have HRES := Lib.hid (Sp.shape_err (n := n + 1) hrd)
      go_enter Tryz.func53, Tryz.ntmps53
      go_upto_region 2 with (first
        | (go_at_call 28; refine HRD.out.mono ?_; rintro e w2 ⟨r, rfl, hr, hb2⟩; have HB2 := Lib.hid hb2; clear hr hb2; rw [pv14 p r]; simp only [erO])
        | (refine wpList_new PageT _ _ rfl rfl rfl rfl rfl rfl _ rfl (of_decide_eq_true (by kernel_rfl)) (by kernel_rfl) (by kernel_rfl) (by kernel_rfl) ?_))
      go_wp2_with fail
      refine bodyPost_ret (v := .tuple #[.string ⟨([] : Txt).toArray⟩, .iface ErrT (.int .i64 e)]) (by simp [results, Tryz.results53, go_sem]) rfl ⟨by rw [HRES.out]; rfl, HB2.out.alloc HB2.out.size _⟩
end
end Go.Proofs.YtlpmjeiogdlifaaGreat
namespace Go.Proofs.YtlpmjeiogdlifaaGreat
open Go.RowKit
attribute [local go_sem low] mk_extract
attribute [local go_sem] After.cell After.frozen mk_extract_end ByteArray.mk_append_mk
def Sp.shapeT (V : List Txt) (s : Sp.Sto) (root : Int) : Txt × Option Int := if root = 0 then ([45], none) else Sp.shapeI (s.read V) 8 root
set_option maxRecDepth 100000 in
set_option maxHeartbeats 1600000 in
theorem treeShape_any (M : Nat → Prop) (t f m d : Nat) (fv : Value) (V : List Txt) (s : Sp.Sto) (root : Int) (w : World) (hst : StAt w M t f m d fv V s) (hok : s.Ok) (hV : V.length ≤ 400) (hP : Sp.RightP V s) :
    Calls Tryz.prog 22 #[.pointer (some ⟨t, 0, none⟩), .int .i64 root] w fun e w' => e = .returned (.tuple #[.string ⟨(Sp.shapeT V s root).1.toArray⟩, erO (Sp.shapeT V s root).2]) ∧ Below w.heap.size w w' := by
  have HS := Lib.hid (shape_any M t f m d fv V s hok hV hP 8 root 1 w hst (by omega) (by omega))
  have HT := Lib.hid (show Sp.shapeT V s root = if root = 0 then ([45], none) else Sp.shapeI (s.read V) 8 root from rfl)
  clear hst hok
  by_cases h0 : root = 0
  · subst h0
    rw [if_pos rfl] at HT
    go_enter Tryz.func22, Tryz.ntmps22
    go_wp2_with fail
    refine bodyPost_ret (v := .tuple #[.string ⟨([45] : Txt).toArray⟩, .nilIface]) (by simp [results, Tryz.results22, go_sem]) rfl ⟨by rw [HT.out]; rfl, Below.refl _ _⟩
  · rw [if_neg h0] at HT
    have hb0 : (root == 0) = false := beq_eq_false_iff_ne.2 h0
    generalize Sp.shapeI (s.read V) 8 root = R at *
    obtain ⟨x, er⟩ := R
    go_enter Tryz.func22, Tryz.ntmps22
    go_wp2_with (go_at_call 53; refine HS.out.mono ?_; rintro e w5 ⟨rfl, hb5⟩; have HB5 := Lib.hid hb5; clear hb5)
    rw [HT.out]
    rcases er with _ | e
    · refine bodyPost_ret (v := .tuple #[.string ⟨x.toArray⟩, .nilIface]) (by simp [results, Tryz.results22, go_sem, erO]) rfl ⟨rfl, HB5.out⟩
    · refine bodyPost_ret (v := .tuple #[.string ⟨x.toArray⟩, .iface ErrT (.int .i64 e)]) (by simp [results, Tryz.results22, go_sem, erO]) rfl ⟨rfl, HB5.out⟩
end Go.Proofs.YtlpmjeiogdlifaaGreat
namespace Go.Proofs.YtlpmjeiogdlifaaGreat
open Go.RowKit
attribute [local go_sem low] mk_extract
attribute [local go_sem] After.cell After.frozen mk_extract_end ByteArray.mk_append_mk
namespace Sp
theorem T.In.all {rd : Int → Page × Option Int} : ∀ {d : Nat} {t : T d}, T.In rd d t → ∀ x ∈ T.nodes d t, rd x.1 = (x.2, none)
  | 0, t, h, x, hx => by
    have : x = (((t.1 : Nat) : Int), T.page 0 t) := by simpa [T.nodes] using hx
    subst this
    exact h.2
  | d + 1, t, h, x, hx => by
    rcases List.mem_cons.1 hx with rfl | hx
    · exact h.1.2
    · obtain ⟨c, hc, hx⟩ := List.mem_flatMap.1 hx
      exact T.In.all (h.2 c hc) x hx
theorem read_new {l m : Int} {V : List Txt} {i : Int} {p : Page} (h : (Sto.new l m []).read V i = (p, none)) : 2 ≤ i ∧ i < (Sto.new l m []).most ∧ readOk (atV V i) = true ∧ p = parse (atV V i) := by
  unfold Sto.read at h
  by_cases h1 : i < 2 ∨ (Sto.new l m []).most ≤ i
  · rw [if_pos h1] at h; cases h
  · rw [if_neg h1] at h
    have h : readF (atV V i) = (p, none) := h
    unfold readF at h
    by_cases h2 : readOk (atV V i) = true
    · rw [if_pos h2] at h
      cases h
      exact ⟨by omega, by omega, h2, rfl⟩
    · rw [if_neg h2] at h; cases h
theorem new_right (l m : Int) (V : List Txt) : RightP V (Sto.new l m []) := fun i p h => by
  obtain ⟨_, _, h3, rfl⟩ := read_new h
  exact (readOk_page h3).1
theorem atV_out {V : List Txt} {i : Int} (h : (V.length : Int) ≤ i) : atV V i = [] := by
  unfold atV
  rw [if_neg (by omega), List.getD_eq_getElem?_getD, List.getElem?_eq_none (by omega)]
  rfl
theorem tree_node {keys : List Nat} {P : List Page} (h : TreeAt keys P) (hn : keys.length ≤ 120) {i : Int} (h2 : 2 ≤ i) (hi : i < ((P.length + 2 : Nat) : Int)) : ∃ x ∈ Rt.nodes (treeN keys).1, x.1 = i ∧ (Sto.new ((P.length + 2 : Nat) : Int) 400 []).read ([[], []] ++ P.map bytes) i = (x.2, none) := by
  have hw := whole_new h hn
  have hlen := h.len
  have hl : (Sto.new ((P.length + 2 : Nat) : Int) 400 []).last = ((P.length + 2 : Nat) : Int) := by
    show min (max ((P.length + 2 : Nat) : Int) 2) 400 = _
    omega
  rcases hw.cov i h2 (by rw [hl]; exact hi) with ⟨k, hk, rfl⟩ | hf | ha
  · have hm : ((k : Nat) : Int) ∈ (Rt.nodes (treeN keys).1).map (fun x => x.1) := by
      rw [Rt.nodes_ids]
      exact List.mem_map.2 ⟨k, hk, rfl⟩
    obtain ⟨x, hx, e⟩ := List.mem_map.1 hm
    refine ⟨x, hx, e, ?_⟩
    rw [← e]
    rcases ho : (treeN keys).1 with _ | r
    · rw [ho] at hx; cases hx
    · rw [ho] at hx
      exact T.In.all (hw.tr r ho).1.inn x hx
  · simp [Sto.new] at hf
  · simp [Sto.new] at ha
theorem tree_kind {keys : List Nat} {P : List Page} (h : TreeAt keys P) : ∀ x ∈ Rt.nodes (treeN keys).1, ∀ y ∈ x.2.items, y.kind = 1 := Rt.nodes_kind fun y hy => by
  rw [h.items] at hy
  obtain ⟨k, _, rfl⟩ := List.mem_map.1 hy
  rfl
theorem tree_vals {keys : List Nat} {P : List Page} (h : TreeAt keys P) (hn : keys.length ≤ 120) : ValsP ([[], []] ++ P.map bytes) (Sto.new ((P.length + 2 : Nat) : Int) 400 []) := by
  refine ⟨new_right _ _ _, fun i p hr => ?_⟩
  obtain ⟨h2, h4, h3, _⟩ := read_new hr
  have hi : i < ((P.length + 2 : Nat) : Int) := Int.not_le.1 fun hi => by
    rw [atV_out (by simp; omega)] at h3
    cases h3
  obtain ⟨x, hx, _, he⟩ := tree_node h hn h2 hi
  rw [he] at hr
  cases hr
  exact tree_kind h x hx
theorem compact_rise {L : List Int} (h : L.Pairwise (· < ·)) : Lib.compact L = L := by
  unfold Lib.compact Lib.compactUpTo
  rw [List.filter_eq_self.2]
  · refine List.ext_getElem (by simp) fun i h1 h2 => ?_
    simp [getElem!_pos, h2]
  · intro j hj
    have hj := List.mem_range.1 hj
    rcases j with _ | j
    · simp [Lib.keeps]
    · have := List.pairwise_iff_getElem.1 h j (j + 1) (by omega) hj (by omega)
      have e1 : (L[j]?).getD default = L[j] := by simp [show j < L.length by omega]
      simp [Lib.keeps, hj, show j < L.length by omega]
      omega
def Rt.shape (o : Option Rt) : Txt := match o with | none => [45] | some r => T.shape r.d r.t
section
variable {V : List Txt} {n : Int} {was : List Int} {s : Sto} {o : Option Rt}
theorem Whole.shapeT (h : Whole V n was s o) (hn : (Rt.items o).length < 256) : Sp.shapeT V s ((Rt.root o : Nat) : Int) = (Rt.shape o, none) := by
  rcases o with _ | r
  · rfl
  · unfold Sp.shapeT
    rw [if_neg, h.shape hn rfl]
    · rfl
    · intro e
      have := h.root0.1 (by omega)
      cases this
theorem Whole.pages (h : Whole V n was s o) (hn : (Rt.items o).length < 256) : (Sp.pagesI V s ((Rt.root o : Nat) : Int)).length = (Rt.ids o).length := by
  unfold Sp.pagesI
  rw [h.walk hn, if_pos rfl, compact_rise h.sorted, sortI_len, List.length_map, Rt.nodes_len]
theorem Whole.right (h : Whole V n was s o) (hn : (Rt.items o).length < 256) : Sp.rightI V s ((Rt.root o : Nat) : Int) = true := by
  unfold Sp.rightI
  rcases o with _ | r
  · rfl
  · rw [if_neg, if_neg, h.walk hn]
    · exact riseB_yes h.sorted
    · rw [h.walk hn, h.checks hn rfl]
      rintro (h | h)
      · exact h rfl
      · omega
    · intro e
      have := h.root0.1 (by omega)
      cases this
end
theorem right_zero (V : List Txt) (s : Sto) : Sp.rightI V s 0 = true := rfl
theorem right_err {V : List Txt} {s : Sto} {i : Int} {k : Int} (h0 : i ≠ 0) (h : (walkI (s.read V) 8 i).2 = some k) : Sp.rightI V s i = false := by
  unfold Sp.rightI
  rw [if_neg h0, if_pos (.inl (by rw [h]; simp))]
end Sp
end Go.Proofs.YtlpmjeiogdlifaaGreat
namespace Go.Proofs.YtlpmjeiogdlifaaGreat
open Go.RowKit
attribute [local go_sem low] mk_extract
attribute [local go_sem] After.cell After.frozen mk_extract_end ByteArray.mk_append_mk
abbrev StoreT : TypeId := 95
def PgCells (w : World) (M : Nat → Prop) : List Sp.Page → List Value → Prop
  | [], xs => xs = []
  | p :: P, xs => ∃ r ys, xs = pageV p r ++ ys ∧ PageRd w M p r ∧ PgCells w M P ys
theorem PgCells.chg {w w' : World} {M : Nat → Prop} (hk : Chg M w w') : ∀ {P : List Sp.Page} {xs : List Value}, PgCells w M P xs → PgCells w' M P xs
  | [], _, h => h
  | _ :: _, _, ⟨r, ys, e, hr, h⟩ => ⟨r, ys, e, hr.chg hk, h.chg hk⟩
theorem PgCells.len {w : World} {M : Nat → Prop} : ∀ {P : List Sp.Page} {xs : List Value}, PgCells w M P xs → xs.length = P.length * 14
  | [], xs, h => by
    have h : xs = [] := h
    rw [h]; rfl
  | _ :: P, _, ⟨r, ys, e, _, h⟩ => by
    have := h.len
    rw [e, List.length_append, this]
    simp [pageV, mtV]
    omega
theorem PgCells.app {w : World} {M : Nat → Prop} {Q : List Sp.Page} {ys : List Value} (hq : PgCells w M Q ys) : ∀ {P : List Sp.Page} {xs : List Value}, PgCells w M P xs → PgCells w M (P ++ Q) (xs ++ ys)
  | [], xs, h => by
    have h : xs = [] := h
    rw [h]; exact hq
  | _ :: P, _, ⟨r, zs, e, hr, h⟩ => ⟨r, zs ++ ys, by rw [e, List.append_assoc], hr, hq.app h⟩
theorem PgCells.at_ {w : World} {M : Nat → Prop} : ∀ {P : List Sp.Page} {xs : List Value} {k : Nat} {p : Sp.Page}, PgCells w M P xs → P[k]? = some p → ∃ r, PageRd w M p r ∧ ∀ j u, (pageV p r)[j]? = some u → xs[k * 14 + j]? = some u
  | [], _, _, _, _, h => by simp at h
  | q :: P, xs, 0, p, ⟨r, ys, e, hr, _⟩, h => by
    have : q = p := by simpa using h
    subst this
    refine ⟨r, hr, fun j u hu => ?_⟩
    rw [e, Nat.zero_mul, Nat.zero_add, List.getElem?_append_left (List.getElem?_eq_some_iff.1 hu).1]
    exact hu
  | q :: P, xs, k + 1, p, ⟨r, ys, e, _, hc⟩, h => by
    rw [List.getElem?_cons_succ] at h
    obtain ⟨r', hr', hx⟩ := hc.at_ h
    refine ⟨r', hr', fun j u hu => ?_⟩
    have hl : (pageV q r).length = 14 := by simp [pageV, mtV]
    rw [e, List.getElem?_append_right (by omega), hl, show (k + 1) * 14 + j - 14 = k * 14 + j by omega]
    exact hx j u hu
def idsV (n : Nat) : List Value := (List.range n).map fun k => Value.int .i64 ((k + 2 : Nat) : Int)
theorem idsV_at {n k : Nat} (h : k < n) : (idsV n)[k]? = some (.int .i64 ((k + 2 : Nat) : Int)) := by
  unfold idsV
  rw [List.getElem?_map, List.getElem?_range h]
  rfl
theorem idsV_succ (n : Nat) : idsV (n + 1) = idsV n ++ [.int .i64 ((n + 2 : Nat) : Int)] := by
  unfold idsV
  rw [List.range_succ, List.map_append]
  rfl
structure StoreAt (w : World) (s : Nat) (fp vi vp : Value) (P : List Sp.Page) : Prop where
  bs : Blk w s StoreT #[fp, .int .i64 ((P.length + 2 : Nat) : Int), .int .i64 400, .slice none 0 0, .slice none 0 0, vi, vp]
  oi : w.ownsRow 0 3 1 vi P.length (idsV P.length)
  op : ∃ xs, w.ownsRow 0 PageT 14 vp P.length xs ∧ PgCells w (OneM s) P xs
theorem StoreAt.go {w w' : World} {s : Nat} {fp vi vp : Value} {P : List Sp.Page} (h : StoreAt w s fp vi vp P) (hb : Below w.heap.size w w') : StoreAt w' s fp vi vp P := by
  obtain ⟨xs, h1, h2⟩ := h.op
  exact ⟨h.bs.below hb h.bs.lt, own_chg2 (S := NoM) h.oi (Chg.of_below hb) (fun _ _ h => h), ⟨xs, own_chg2 (S := NoM) h1 (Chg.of_below hb) (fun _ _ h => h), h2.chg (Chg.of_below hb)⟩⟩
end Go.Proofs.YtlpmjeiogdlifaaGreat
namespace Go.Proofs.YtlpmjeiogdlifaaGreat
open Go.RowKit
attribute [local go_sem low] mk_extract
attribute [local go_sem] After.cell After.frozen mk_extract_end ByteArray.mk_append_mk
set_option maxRecDepth 100000 in
set_option maxHeartbeats 1600000 in
theorem place_no (s : Nat) (fp vi vp : Value) (P : List Sp.Page) (id : Int) (w : World) (h : StoreAt w s fp vi vp P) (hn : P.length ≤ 400) :
    Calls Tryz.prog 193 #[.pointer (some ⟨s, 0, none⟩), .int .i64 id] w fun e w' => e = .returned (.int .i64 (if 2 ≤ id ∧ id < ((P.length + 2 : Nat) : Int) then id - 2 else -1)) ∧ w = w' := by
  obtain ⟨A, c, rfl⟩ := own_form h.oi
  have c5 : w.cell? ⟨s, 5, none⟩ = some (.slice A P.length c) := h.bs.cell 5
  have HO := Lib.hid h.oi
  have HV := Lib.hid (fun (x : Int) (hx : (if 2 ≤ id ∧ id < ((P.length + 2 : Nat) : Int) then id - 2 else -1) = x) => hx)
  generalize hv : (if 2 ≤ id ∧ id < ((P.length + 2 : Nat) : Int) then id - 2 else -1) = v at *
  have HVV := Lib.hid hv
  clear h hv HV
  go_enter Tryz.func193, Tryz.ntmps193
  go_wp2_with fail
  go_loopw [5] (fun i wr => ∃ k : Nat, k ≤ P.length ∧ i = .int .i64 (k : Int) ∧ wr = w ∧ Hid (∀ j : Nat, j < k → ((j + 2 : Nat) : Int) ≠ id)) (fun i _ => P.length - (intOf i).toNat)
  case atStart => exact ⟨0, by omega, rfl, rfl, Lib.hid (fun j hj => absurd hj (by omega))⟩
  case round =>
    obtain ⟨k, hk, rfl, rfl, hno⟩ := hrel
    by_cases hlt : k < P.length
    · obtain ⟨g, rfl⟩ : ∃ g, A = some ⟨g, 0, none⟩ := by
        rcases HO.out.2 with ⟨_, h0⟩ | ⟨g, cap, cur, h0, _⟩
        · omega
        · exact ⟨g, by simpa using (Value.slice.inj h0).1⟩
      have hc := (own_at HO.out hlt).1
      have e : (idsV P.length).getD k undef = .int .i64 ((k : Int) + 2) := by
        rw [List.getD_eq_getElem?_getD, idsV_at hlt]
        rfl
      rw [e] at hc
      by_cases he : (k : Int) + 2 = id
      · have heb : ((k : Int) + 2 == id) = true := beq_iff_eq.2 he
        have HE := Lib.hid he
        clear he e
        go_wp2_with fail
        go_ret
        refine ⟨ret_int ?_, rfl⟩
        rw [← HVV.out, if_pos ⟨by have := HE.out; omega, by have := HE.out; omega⟩]
        have := HE.out
        omega
      · have heb : ((k : Int) + 2 == id) = false := beq_eq_false_iff_ne.2 he
        have HE := Lib.hid he
        clear he e
        go_wp2_with fail
        go_roundw
        case rel =>
          refine ⟨k + 1, by omega, by go_num, trivial, Lib.hid fun j hj => ?_⟩
          rcases Nat.lt_succ_iff_lt_or_eq.1 hj with h' | rfl
          · exact hno.out j h'
          · have := HE.out; omega
        case measure => simp [intOf]; omega
    · obtain rfl : k = P.length := by omega
      clear hlt
      go_wp2_with fail
      go_ret
      refine ⟨ret_int ?_, rfl⟩
      rw [← HVV.out, if_neg (fun h => hno.out (id - 2).toNat (by omega) (by omega))]
set_option maxRecDepth 100000 in
set_option maxHeartbeats 400000 in
theorem half_any (n : Int) (h0 : 0 ≤ n) (h1 : n ≤ 1000) (w : World) : Calls Tryz.prog 150 #[.int .i64 n] w fun e w' => e = .returned (.int .i64 ((n + 1) / 2)) ∧ w = w' := by
  go_enter Tryz.func150, Tryz.ntmps150
  go_wp2
  go_ret
  refine ⟨ret_int ?_, rfl⟩
  first | rfl | (simp [IntKind.wrap_i64, Int.tdiv_eq_ediv_of_nonneg (show 0 ≤ n + 1 by omega)]; omega) | omega
namespace Sp
def dn (ks : List Txt) (key : Txt) : Nat → Nat
  | 0 => 0
  | i + 1 => if i ≠ 0 ∧ lt key (ks.getD i []) = false then i else dn ks key i
theorem dn_at (ks : List Txt) (key : Txt) : ∀ i, (dn ks key i = 0 ∨ lt key (ks.getD (dn ks key i) []) = false) ∧ (dn ks key i = 0 ∨ dn ks key i < i) ∧ ∀ m, dn ks key i < m → m < i → lt key (ks.getD m []) = true
  | 0 => ⟨.inl rfl, .inl rfl, fun m _ h => absurd h (by omega)⟩
  | i + 1 => by
    obtain ⟨h1, h2, h3⟩ := dn_at ks key i
    unfold dn
    by_cases h : i ≠ 0 ∧ lt key (ks.getD i []) = false
    · rw [if_pos h]
      exact ⟨.inr h.2, .inr (by omega), fun m h4 h5 => absurd h4 (by omega)⟩
    · rw [if_neg h]
      refine ⟨h1, by omega, fun m h4 h5 => ?_⟩
      rcases Nat.lt_succ_iff_lt_or_eq.1 h5 with h6 | rfl
      · exact h3 m h4 h6
      · have hm : m ≠ 0 := by omega
        rcases hq : lt key (ks.getD m []) with _ | _
        · exact absurd ⟨hm, hq⟩ h
        · rfl
theorem dn_downI {α : Type} {key : Txt} {cs : List (Txt × α)} (hk : KeysRise cs) (hne : cs ≠ []) : dn (cs.map (·.1)) key cs.length = downI key cs := by
  obtain ⟨h1, h2, h3⟩ := dn_at (cs.map (·.1)) key cs.length
  have hpos : 0 < cs.length := List.length_pos_iff.2 hne
  have hlt : dn (cs.map (·.1)) key cs.length < cs.length := by omega
  generalize dn (cs.map (·.1)) key cs.length = j at *
  have e : ∀ m (hm : m < cs.length), (cs.map (·.1)).getD m [] = cs[m].1 := fun m hm => by simp [List.getD, hm]
  refine (downI_uniq hk (List.getElem?_eq_getElem hlt) ?_ fun p hp => ?_).symm
  · rw [e j hlt] at h1
    exact h1
  · obtain ⟨i, hi, rfl⟩ := List.getElem_of_mem hp
    rw [List.length_drop] at hi
    rw [List.getElem_drop]
    have := h3 (j + 1 + i) (by omega) (by omega)
    rw [e (j + 1 + i) (by omega)] at this
    exact this
end Sp
end Go.Proofs.YtlpmjeiogdlifaaGreat
