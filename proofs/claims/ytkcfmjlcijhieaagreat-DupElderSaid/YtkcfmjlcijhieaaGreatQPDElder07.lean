/- Many values of a key: one more, that may not be, that is there, that is too many; the first one. Many values of a key: one taken. Long values: the known store of law 13. -/
import Derived.Test.YtkcfmjlcijhieaaGreatQB11
import Derived.Test.YtkcfmjlcijhieaaGreatQB16
import Derived.Test.YtkcfmjlcijhieaaGreatQB24
import Derived.Test.YtkcfmjlcijhieaaGreatQPDElder03
import Derived.Test.YtkcfmjlcijhieaaGreatQPDElder05
import Derived.Laws.MakeOwn
set_option linter.unusedSimpArgs false
set_option linter.unusedVariables false
namespace Go.Proofs.YtkcfmjlcijhieaaGreat
open Go.RowKit
attribute [local go_sem low] mk_extract
attribute [local go_sem] After.cell After.frozen mk_extract_end ByteArray.mk_append_mk
set_option maxRecDepth 100000 in
set_option maxHeartbeats 1600000 in
theorem add_no0 (M : Nat → Prop) (t f m d : Nat) (fv : Value) (V : List Txt) (s : Sp.Sto) (k : Txt) (l : List Txt) (kind : Int) (A : Option Addr) (n c : Nat) (dup : Int) (v : Txt) (w : World) (h : StAt w M t f m d fv V s) (hv : v = []) :
    Calls Tryz.prog 50 #[.pointer (some ⟨t, 0, none⟩), .agg (itA k kind A n c dup), .string ⟨v.toArray⟩] w fun e w' => e = .returned (.tuple #[.agg (itA k kind A n c dup), erO (some 22)]) ∧ StAt w' M t f m d fv V s ∧ Chg (TwoM t d) w w' := by
  have HN := Lib.hid (AdS.new_ h (itA k kind A n c dup))
  have HMM := Lib.hid h.hM
  subst hv
  clear h
  go_enter Tryz.func50, Tryz.ntmps50
  go_upto_region 1 with fail
  refine wp_gen _ HN.out ?_
  intro w2 hw2
  have S2 := Lib.hid hw2
  clear hw2 HN
  go_wp2_with (first
    | (refine wpList_row ItemT _ rfl w.heap.size rfl rfl ItemT _ (0, 0) _ S2.out.bx Tryz.underlying90 rfl rfl ?_)
    | (refine wpList_store_row rfl ItemT _ _ rfl (w.heap.size + 1) _ rfl rfl ItemT _ S2.out.bz (by kernel_rfl) rfl (itA_all _ _ _ _ _ _) ?_))
  obtain ⟨z0, z1, z2, z3, z4, z5, z6, z7, z8, z9⟩ := (S2.out.bz.row (ds := itA k kind A n c dup)).at10.1
  obtain ⟨hfs, hfk⟩ := S2.out.done (itA k kind A n c dup) HMM.out
  refine bodyPost_ret (v := .tuple #[.agg (itA k kind A n c dup), erO (some 22)]) (by simp [results, Tryz.results50, go_sem, erO, z0, z1, z2, z3, z4, z5, z6, z7, z8, z9]) rfl ⟨rfl, hfs, hfk⟩
set_option maxRecDepth 100000 in
set_option maxHeartbeats 1600000 in
theorem add_no1 (M : Nat → Prop) (t f m d : Nat) (fv : Value) (V : List Txt) (s : Sp.Sto) (k : Txt) (l : List Txt) (kind : Int) (A : Option Addr) (n c : Nat) (dup : Int) (v : Txt) (w : World) (h : StAt w M t f m d fv V s) (hv : 12 < v.length) :
    Calls Tryz.prog 50 #[.pointer (some ⟨t, 0, none⟩), .agg (itA k kind A n c dup), .string ⟨v.toArray⟩] w fun e w' => e = .returned (.tuple #[.agg (itA k kind A n c dup), erO (some 22)]) ∧ StAt w' M t f m d fv V s ∧ Chg (TwoM t d) w w' := by
  have HN := Lib.hid (AdS.new_ h (itA k kind A n c dup))
  have HMM := Lib.hid h.hM
  have hve : v.isEmpty = false := by
    rcases v with _ | _
    · simp at hv
    · rfl
  clear h
  go_enter Tryz.func50, Tryz.ntmps50
  go_upto_region 1 with fail
  refine wp_gen _ HN.out ?_
  intro w2 hw2
  have S2 := Lib.hid hw2
  clear hw2 HN
  go_wp2_with (first
    | (refine wpList_row ItemT _ rfl w.heap.size rfl rfl ItemT _ (0, 0) _ S2.out.bx Tryz.underlying90 rfl rfl ?_)
    | (refine wpList_store_row rfl ItemT _ _ rfl (w.heap.size + 1) _ rfl rfl ItemT _ S2.out.bz (by kernel_rfl) rfl (itA_all _ _ _ _ _ _) ?_))
  obtain ⟨z0, z1, z2, z3, z4, z5, z6, z7, z8, z9⟩ := (S2.out.bz.row (ds := itA k kind A n c dup)).at10.1
  obtain ⟨hfs, hfk⟩ := S2.out.done (itA k kind A n c dup) HMM.out
  refine bodyPost_ret (v := .tuple #[.agg (itA k kind A n c dup), erO (some 22)]) (by simp [results, Tryz.results50, go_sem, erO, z0, z1, z2, z3, z4, z5, z6, z7, z8, z9]) rfl ⟨rfl, hfs, hfk⟩
set_option maxRecDepth 100000 in
set_option maxHeartbeats 1600000 in
theorem add_has (M : Nat → Prop) (t f m d : Nat) (fv : Value) (V : List Txt) (s : Sp.Sto) (k : Txt) (l : List Txt) (kind : Int) (A : Option Addr) (n c : Nat) (dup : Int) (v : Txt) (w : World) (h : StAt w M t f m d fv V s) (hd : Sp.DuSt l s) (hi : DuI l kind A n dup w) (hne : l ≠ []) (h12 : l.length ≤ 12) (hv : 1 ≤ v.length ∧ v.length ≤ 12) (hno : Sp.hasV l v = true) :
    Calls Tryz.prog 50 #[.pointer (some ⟨t, 0, none⟩), .agg (itA k kind A n c dup), .string ⟨v.toArray⟩] w fun e w' => e = .returned (.tuple #[.agg (itA k kind A n c dup), erO (some 20)]) ∧ StAt w' M t f m d fv V s ∧ Chg (TwoM t d) w w' := by
  obtain rfl := hi.nz hne
  obtain rfl := hi.dp
  have HI0 := Lib.hid (fun W (hk : Chg (TwoM t d) w W) => hi.chg hk (h.not_kind (by decide)))
  have HN := Lib.hid (AdS.new_ h (itA k 3 A n c (Sp.duP l)))
  have HMM := Lib.hid h.hM
  have hve : v.isEmpty = false := by
    rcases v with _ | _
    · simp at hv
    · rfl
  clear h hi
  go_enter Tryz.func50, Tryz.ntmps50
  go_upto_region 1 with fail
  refine wp_gen _ HN.out ?_
  intro w2 hw2
  have S2 := Lib.hid hw2
  clear hw2 HN
  have hkd : w2.cell? ⟨w.heap.size, 1, none⟩ = some (.int .i64 3) := S2.out.bx.cell 1
  have HVC := Lib.hid (duVals_any _ t f m d fv V s k l 3 A n c (Sp.duP l) w2 S2.out.st hd (HI0.out _ S2.out.ck) hne (by omega))
  go_upto_region 8 with (first
    | (refine wpList_row ItemT _ rfl w.heap.size rfl rfl ItemT _ (0, 0) _ S2.out.bx Tryz.underlying90 rfl rfl ?_)
    | (go_at_call 51; refine HVC.out.mono ?_; rintro e w3 ⟨A1, cA1, rfl, ho3, hb3⟩; have HO := Lib.hid ho3; have HB3 := Lib.hid hb3; clear ho3 hb3))
  have hpl := Sp.plc_le l v
  have S3 := Lib.hid (S2.out.go HB3.out)
  have HT3 := Lib.hid (own_rowT (N := NoM) HO.out (by omega) (fun _ _ _ h => h))
  have HPC := Lib.hid (place_any l v A1 cA1 w3 HT3.out)
  rw [hno] at HPC
  go_upto_region 9 with (go_at_call 81; refine HPC.out.mono ?_; rintro e w4 ⟨rfl, hb4⟩; have HB4 := Lib.hid hb4; clear hb4)
  have hB24 := HB3.out.trans (HB4.out.mono HB3.out.size)
  have HO4 := Lib.hid (own_chg2 (S := NoM) HO.out (Chg.of_below HB4.out) (fun _ _ h => h))
  have S4 := Lib.hid (S3.out.go HB4.out)
  clear HO S3 HT3 HPC HB3 HB4 HVC hkd
  go_wp2_with (first
    | (refine wpList_row ItemT _ rfl w.heap.size rfl rfl ItemT _ (0, 0) _ S4.out.bx Tryz.underlying90 rfl rfl ?_)
    | (refine wpList_store_row rfl ItemT _ _ rfl (w.heap.size + 1) _ rfl rfl ItemT _ S4.out.bz (by kernel_rfl) rfl (itA_all _ _ _ _ _ _) ?_))
  obtain ⟨z0, z1, z2, z3, z4, z5, z6, z7, z8, z9⟩ := (S4.out.bz.row (ds := itA k 3 A n c (Sp.duP l))).at10.1
  obtain ⟨hfs, hfk⟩ := S4.out.done (itA k 3 A n c (Sp.duP l)) HMM.out
  refine bodyPost_ret (v := .tuple #[.agg (itA k 3 A n c (Sp.duP l)), erO (some 20)]) (by simp [results, Tryz.results50, go_sem, erO, z0, z1, z2, z3, z4, z5, z6, z7, z8, z9]) rfl ⟨rfl, hfs, hfk⟩
set_option maxRecDepth 100000 in
set_option maxHeartbeats 1600000 in
theorem add_full (M : Nat → Prop) (t f m d : Nat) (fv : Value) (V : List Txt) (s : Sp.Sto) (k : Txt) (l : List Txt) (kind : Int) (A : Option Addr) (n c : Nat) (dup : Int) (v : Txt) (w : World) (h : StAt w M t f m d fv V s) (hd : Sp.DuSt l s) (hi : DuI l kind A n dup w) (hne : l ≠ []) (h12 : l.length ≤ 12) (hv : 1 ≤ v.length ∧ v.length ≤ 12) (hful : 12 ≤ l.length) (hno : Sp.hasV l v = false) :
    Calls Tryz.prog 50 #[.pointer (some ⟨t, 0, none⟩), .agg (itA k kind A n c dup), .string ⟨v.toArray⟩] w fun e w' => e = .returned (.tuple #[.agg (itA k kind A n c dup), erO (some 28)]) ∧ StAt w' M t f m d fv V s ∧ Chg (TwoM t d) w w' := by
  obtain rfl := hi.nz hne
  obtain rfl := hi.dp
  have HI0 := Lib.hid (fun W (hk : Chg (TwoM t d) w W) => hi.chg hk (h.not_kind (by decide)))
  have HN := Lib.hid (AdS.new_ h (itA k 3 A n c (Sp.duP l)))
  have HMM := Lib.hid h.hM
  have hve : v.isEmpty = false := by
    rcases v with _ | _
    · simp at hv
    · rfl
  clear h hi
  go_enter Tryz.func50, Tryz.ntmps50
  go_upto_region 1 with fail
  refine wp_gen _ HN.out ?_
  intro w2 hw2
  have S2 := Lib.hid hw2
  clear hw2 HN
  have hkd : w2.cell? ⟨w.heap.size, 1, none⟩ = some (.int .i64 3) := S2.out.bx.cell 1
  have HVC := Lib.hid (duVals_any _ t f m d fv V s k l 3 A n c (Sp.duP l) w2 S2.out.st hd (HI0.out _ S2.out.ck) hne (by omega))
  go_upto_region 8 with (first
    | (refine wpList_row ItemT _ rfl w.heap.size rfl rfl ItemT _ (0, 0) _ S2.out.bx Tryz.underlying90 rfl rfl ?_)
    | (go_at_call 51; refine HVC.out.mono ?_; rintro e w3 ⟨A1, cA1, rfl, ho3, hb3⟩; have HO := Lib.hid ho3; have HB3 := Lib.hid hb3; clear ho3 hb3))
  have hpl := Sp.plc_le l v
  have S3 := Lib.hid (S2.out.go HB3.out)
  have HT3 := Lib.hid (own_rowT (N := NoM) HO.out (by omega) (fun _ _ _ h => h))
  have HPC := Lib.hid (place_any l v A1 cA1 w3 HT3.out)
  rw [hno] at HPC
  go_upto_region 9 with (go_at_call 81; refine HPC.out.mono ?_; rintro e w4 ⟨rfl, hb4⟩; have HB4 := Lib.hid hb4; clear hb4)
  have hB24 := HB3.out.trans (HB4.out.mono HB3.out.size)
  have HO4 := Lib.hid (own_chg2 (S := NoM) HO.out (Chg.of_below HB4.out) (fun _ _ h => h))
  have S4 := Lib.hid (S3.out.go HB4.out)
  clear HO S3 HT3 HPC HB3 HB4 HVC hkd
  go_wp2_with (first
    | (refine wpList_row ItemT _ rfl w.heap.size rfl rfl ItemT _ (0, 0) _ S4.out.bx Tryz.underlying90 rfl rfl ?_)
    | (refine wpList_store_row rfl ItemT _ _ rfl (w.heap.size + 1) _ rfl rfl ItemT _ S4.out.bz (by kernel_rfl) rfl (itA_all _ _ _ _ _ _) ?_))
  obtain ⟨z0, z1, z2, z3, z4, z5, z6, z7, z8, z9⟩ := (S4.out.bz.row (ds := itA k 3 A n c (Sp.duP l))).at10.1
  obtain ⟨hfs, hfk⟩ := S4.out.done (itA k 3 A n c (Sp.duP l)) HMM.out
  refine bodyPost_ret (v := .tuple #[.agg (itA k 3 A n c (Sp.duP l)), erO (some 28)]) (by simp [results, Tryz.results50, go_sem, erO, z0, z1, z2, z3, z4, z5, z6, z7, z8, z9]) rfl ⟨rfl, hfs, hfk⟩
set_option maxRecDepth 100000 in
set_option maxHeartbeats 1600000 in
theorem add_first (M : Nat → Prop) (t f m d : Nat) (fv : Value) (V : List Txt) (s : Sp.Sto) (k : Txt) (kind : Int) (A : Option Addr) (n c : Nat) (dup : Int) (v : Txt) (w : World) (h : StAt w M t f m d fv V s) (hd : Sp.DuSt [] s) (hi : DuI [] kind A n dup w) (hv : 1 ≤ v.length ∧ v.length ≤ 12) :
    Calls Tryz.prog 50 #[.pointer (some ⟨t, 0, none⟩), .agg (itA k kind A n c dup), .string ⟨v.toArray⟩] w fun e w' => ∃ x, e = .returned (.tuple #[x, .nilIface]) ∧ DuR M t f m d fv V k [v] w' x ∧ Chg (TwoM t d) w w' := by
  obtain rfl := hi.z rfl
  have HN := Lib.hid (AdS.new_ h (itA k 0 A n c dup))
  have HMM := Lib.hid h.hM
  have hve : v.isEmpty = false := by
    rcases v with _ | _
    · simp at hv
    · rfl
  clear h hi
  go_enter Tryz.func50, Tryz.ntmps50
  go_upto_region 1 with fail
  refine wp_gen _ HN.out ?_
  intro w2 hw2
  have S2 := Lib.hid hw2
  clear hw2 HN
  have hkd : w2.cell? ⟨w.heap.size, 1, none⟩ = some (.int .i64 0) := S2.out.bx.cell 1
  have hky : w2.cell? ⟨w.heap.size, 0, none⟩ = some (.string ⟨k.toArray⟩) := S2.out.bx.cell 0
  have S5 := Lib.hid (S2.out.go ((Below.refl _ _).alloc (Nat.le_refl _) (.cells #[.string ⟨v.toArray⟩] StrT)))
  have hbv := Blk.new w2 StrT #[.string ⟨v.toArray⟩]
  have HBV := Lib.hid hbv
  have HT := Lib.hid (show TxK (w2.alloc (.cells #[.string ⟨v.toArray⟩] StrT)) (some ⟨w2.heap.size, 0, none⟩) [v] from
    ⟨⟨by simp, .inr ⟨w2.heap.size, 0, rfl, hbv.lt, fun h => h, fun j u hu => by
      rw [Nat.zero_add]
      refine (hbv.cell j).trans ?_
      rcases j with _ | j
      · exact hu
      · simp at hu⟩⟩, fun b off e _ => by
      simp only [Option.some.injEq, Addr.mk.injEq] at e
      rw [← e.1]
      exact ⟨_, hbv⟩⟩)
  clear hbv
  go_wp2_with (refine wpList_store_row rfl ItemT _ _ rfl (w.heap.size + 1) _ rfl rfl ItemT _ S5.out.bz (by kernel_rfl) rfl (itA_all k 3 (some ⟨w2.heap.size, 0, none⟩) 1 1 0) ?_)
  obtain ⟨z0, z1, z2, z3, z4, z5, z6, z7, z8, z9⟩ := (S5.out.bz.row (ds := itA k 3 (some ⟨w2.heap.size, 0, none⟩) 1 1 0)).at10.1
  obtain ⟨hfs, hfk⟩ := S5.out.done (itA k 3 (some ⟨w2.heap.size, 0, none⟩) 1 1 0) HMM.out
  have hI : DuI [v] 3 (some ⟨w2.heap.size, 0, none⟩) 1 0 (w2.alloc (.cells #[.string ⟨v.toArray⟩] StrT)) := ⟨fun e => (by cases e), fun _ => rfl, rfl, fun _ => ⟨rfl, HT.out⟩, fun e => by simp at e⟩
  have hD : Sp.DuSt [v] s := ⟨hd.ok, hd.most, fun _ => hd.few (by simp), fun e => by simp at e⟩
  refine bodyPost_ret (v := .tuple #[.agg (itA k 3 (some ⟨w2.heap.size, 0, none⟩) 1 1 0), .nilIface]) (by simp [results, Tryz.results50, go_sem, z0, z1, z2, z3, z4, z5, z6, z7, z8, z9]) rfl ⟨_, rfl, ⟨3, _, 1, 1, 0, s, rfl, hI.row S5.out.bz, hD, hfs⟩, hfk⟩
end Go.Proofs.YtkcfmjlcijhieaaGreat
namespace Go.Proofs.YtkcfmjlcijhieaaGreat
open Go.RowKit
attribute [local go_sem low] mk_extract
attribute [local go_sem] After.cell After.frozen mk_extract_end ByteArray.mk_append_mk
set_option maxRecDepth 100000 in
set_option maxHeartbeats 1600000 in
theorem take_none (M : Nat → Prop) (t f m d : Nat) (fv : Value) (V : List Txt) (s : Sp.Sto) (k : Txt) (l : List Txt) (kind : Int) (A : Option Addr) (n c : Nat) (dup : Int) (v : Txt) (w : World) (h : StAt w M t f m d fv V s) (hd : Sp.DuSt l s) (hi : DuI l kind A n dup w) (hne : l ≠ []) (h12 : l.length ≤ 12) (hno : Sp.hasV l v = false) :
    Calls Tryz.prog 52 #[.pointer (some ⟨t, 0, none⟩), .agg (itA k kind A n c dup), .string ⟨v.toArray⟩] w fun e w' => e = .returned (.tuple #[.agg (itA k kind A n c dup), erO (some 21)]) ∧ StAt w' M t f m d fv V s ∧ Chg (TwoM t d) w w' := by
  obtain rfl := hi.nz hne
  obtain rfl := hi.dp
  have HI0 := Lib.hid (fun W (hk : Chg (TwoM t d) w W) => hi.chg hk (h.not_kind (by decide)))
  have HN := Lib.hid (AdS.new_ h (itA k 3 A n c (Sp.duP l)))
  have HMM := Lib.hid h.hM
  clear h hi
  go_enter Tryz.func52, Tryz.ntmps52
  go_upto_region 1 with fail
  refine wp_gen _ HN.out ?_
  intro w2 hw2
  have S2 := Lib.hid hw2
  clear hw2 HN
  have hkd : w2.cell? ⟨w.heap.size, 1, none⟩ = some (.int .i64 3) := S2.out.bx.cell 1
  have HVC := Lib.hid (duVals_any _ t f m d fv V s k l 3 A n c (Sp.duP l) w2 S2.out.st hd (HI0.out _ S2.out.ck) hne (by omega))
  go_upto_region 4 with (first
    | (refine wpList_row ItemT _ rfl w.heap.size rfl rfl ItemT _ (0, 0) _ S2.out.bx Tryz.underlying90 rfl rfl ?_)
    | (go_at_call 51; refine HVC.out.mono ?_; rintro e w3 ⟨A1, cA1, rfl, ho3, hb3⟩; have HO := Lib.hid ho3; have HB3 := Lib.hid hb3; clear ho3 hb3))
  have hpl := Sp.plc_le l v
  have S3 := Lib.hid (S2.out.go HB3.out)
  have HT3 := Lib.hid (own_rowT (N := NoM) HO.out (by omega) (fun _ _ _ h => h))
  have HPC := Lib.hid (place_any l v A1 cA1 w3 HT3.out)
  rw [hno] at HPC
  go_upto_region 5 with (go_at_call 81; refine HPC.out.mono ?_; rintro e w4 ⟨rfl, hb4⟩; have HB4 := Lib.hid hb4; clear hb4)
  have hB24 := HB3.out.trans (HB4.out.mono HB3.out.size)
  have HO4 := Lib.hid (own_chg2 (S := NoM) HO.out (Chg.of_below HB4.out) (fun _ _ h => h))
  have S4 := Lib.hid (S3.out.go HB4.out)
  clear HO S3 HT3 HPC HB3 HB4 HVC hkd
  go_wp2_with (first
    | (refine wpList_row ItemT _ rfl w.heap.size rfl rfl ItemT _ (0, 0) _ S4.out.bx Tryz.underlying90 rfl rfl ?_)
    | (refine wpList_store_row rfl ItemT _ _ rfl (w.heap.size + 1) _ rfl rfl ItemT _ S4.out.bz (by kernel_rfl) rfl (itA_all _ _ _ _ _ _) ?_))
  obtain ⟨z0, z1, z2, z3, z4, z5, z6, z7, z8, z9⟩ := (S4.out.bz.row (ds := itA k 3 A n c (Sp.duP l))).at10.1
  obtain ⟨hfs, hfk⟩ := S4.out.done (itA k 3 A n c (Sp.duP l)) HMM.out
  refine bodyPost_ret (v := .tuple #[.agg (itA k 3 A n c (Sp.duP l)), erO (some 21)]) (by simp [results, Tryz.results52, go_sem, erO, z0, z1, z2, z3, z4, z5, z6, z7, z8, z9]) rfl ⟨rfl, hfs, hfk⟩
set_option maxRecDepth 100000 in
set_option maxHeartbeats 1600000 in
theorem take_last (M : Nat → Prop) (t f m d : Nat) (fv : Value) (V : List Txt) (s : Sp.Sto) (k : Txt) (l : List Txt) (kind : Int) (A : Option Addr) (n c : Nat) (dup : Int) (v : Txt) (w : World) (h : StAt w M t f m d fv V s) (hd : Sp.DuSt l s) (hi : DuI l kind A n dup w) (hne : l ≠ []) (h12 : l.length ≤ 12) (hone : l.length = 1) (hno : Sp.hasV l v = true) :
    Calls Tryz.prog 52 #[.pointer (some ⟨t, 0, none⟩), .agg (itA k kind A n c dup), .string ⟨v.toArray⟩] w fun e w' => ∃ x, e = .returned (.tuple #[x, .nilIface]) ∧ DuR M t f m d fv V k [] w' x ∧ Chg (TwoM t d) w w' := by
  obtain rfl := hi.nz hne
  obtain rfl := hi.dp
  have HI0 := Lib.hid (fun W (hk : Chg (TwoM t d) w W) => hi.chg hk (h.not_kind (by decide)))
  have HN := Lib.hid (AdS.new_ h (itA k 3 A n c (Sp.duP l)))
  have HMM := Lib.hid h.hM
  have HONE := Lib.hid hone
  clear h hi hone
  go_enter Tryz.func52, Tryz.ntmps52
  go_upto_region 1 with fail
  refine wp_gen _ HN.out ?_
  intro w2 hw2
  have S2 := Lib.hid hw2
  clear hw2 HN
  have hkd : w2.cell? ⟨w.heap.size, 1, none⟩ = some (.int .i64 3) := S2.out.bx.cell 1
  have HVC := Lib.hid (duVals_any _ t f m d fv V s k l 3 A n c (Sp.duP l) w2 S2.out.st hd (HI0.out _ S2.out.ck) hne (by omega))
  go_upto_region 4 with (first
    | (refine wpList_row ItemT _ rfl w.heap.size rfl rfl ItemT _ (0, 0) _ S2.out.bx Tryz.underlying90 rfl rfl ?_)
    | (go_at_call 51; refine HVC.out.mono ?_; rintro e w3 ⟨A1, cA1, rfl, ho3, hb3⟩; have HO := Lib.hid ho3; have HB3 := Lib.hid hb3; clear ho3 hb3))
  have hpl := Sp.plc_le l v
  have S3 := Lib.hid (S2.out.go HB3.out)
  have HT3 := Lib.hid (own_rowT (N := NoM) HO.out (by omega) (fun _ _ _ h => h))
  have HPC := Lib.hid (place_any l v A1 cA1 w3 HT3.out)
  rw [hno] at HPC
  go_upto_region 5 with (go_at_call 81; refine HPC.out.mono ?_; rintro e w4 ⟨rfl, hb4⟩; have HB4 := Lib.hid hb4; clear hb4)
  have hB24 := HB3.out.trans (HB4.out.mono HB3.out.size)
  have HO4 := Lib.hid (own_chg2 (S := NoM) HO.out (Chg.of_below HB4.out) (fun _ _ h => h))
  have S4 := Lib.hid (S3.out.go HB4.out)
  clear HO S3 HT3 HPC HB3 HB4 HVC hkd
  have hone := HONE.out
  have hky : w4.cell? ⟨w.heap.size, 0, none⟩ = some (.string ⟨k.toArray⟩) := S4.out.bx.cell 0
  go_wp2_with (refine wpList_store_row rfl ItemT _ _ rfl (w.heap.size + 1) _ rfl rfl ItemT _ S4.out.bz (by kernel_rfl) rfl (itA_all k 0 none 0 0 0) ?_)
  obtain ⟨z0, z1, z2, z3, z4, z5, z6, z7, z8, z9⟩ := (S4.out.bz.row (ds := itA k 0 none 0 0 0)).at10.1
  obtain ⟨hfs, hfk⟩ := S4.out.done (itA k 0 none 0 0 0) HMM.out
  have hD : Sp.DuSt [] s := ⟨hd.ok, hd.most, fun _ => hd.few (by omega), fun e => by simp at e⟩
  refine bodyPost_ret (v := .tuple #[.agg (itA k 0 none 0 0 0), .nilIface]) (by simp [results, Tryz.results52, go_sem, z0, z1, z2, z3, z4, z5, z6, z7, z8, z9]) rfl ⟨_, rfl, ⟨0, none, 0, 0, 0, s, rfl, DuI.nil, hD, hfs⟩, hfk⟩
set_option maxRecDepth 100000 in
set_option maxHeartbeats 1600000 in
theorem take_more (M : Nat → Prop) (t f m d : Nat) (fv : Value) (V : List Txt) (s : Sp.Sto) (k : Txt) (l : List Txt) (kind : Int) (A : Option Addr) (n c : Nat) (dup : Int) (v : Txt) (w : World) (h : StAt w M t f m d fv V s) (hV : V.length ≤ 400) (hd : Sp.DuSt l s) (hi : DuI l kind A n dup w) (hne : l ≠ []) (h12 : l.length ≤ 12) (hs : Sp.SrtV l) (hone : 1 < l.length) (hno : Sp.hasV l v = true) :
    Calls Tryz.prog 52 #[.pointer (some ⟨t, 0, none⟩), .agg (itA k kind A n c dup), .string ⟨v.toArray⟩] w fun e w' => ∃ x, e = .returned (.tuple #[x, .nilIface]) ∧ DuR M t f m d fv V k (l.eraseIdx (Sp.plc l v)) w' x ∧ Chg (TwoM t d) w w' := by
  obtain rfl := hi.nz hne
  obtain rfl := hi.dp
  have HI0 := Lib.hid (fun W (hk : Chg (TwoM t d) w W) => hi.chg hk (h.not_kind (by decide)))
  have HN := Lib.hid (AdS.new_ h (itA k 3 A n c (Sp.duP l)))
  have HMM := Lib.hid h.hM
  have hplt : Sp.plc l v < l.length := by
    unfold Sp.hasV at hno
    rw [Bool.and_eq_true] at hno
    exact of_decide_eq_true hno.1
  clear h hi
  go_enter Tryz.func52, Tryz.ntmps52
  go_upto_region 1 with fail
  refine wp_gen _ HN.out ?_
  intro w2 hw2
  have S2 := Lib.hid hw2
  clear hw2 HN
  have hkd : w2.cell? ⟨w.heap.size, 1, none⟩ = some (.int .i64 3) := S2.out.bx.cell 1
  have HVC := Lib.hid (duVals_any _ t f m d fv V s k l 3 A n c (Sp.duP l) w2 S2.out.st hd (HI0.out _ S2.out.ck) hne (by omega))
  go_upto_region 4 with (first
    | (refine wpList_row ItemT _ rfl w.heap.size rfl rfl ItemT _ (0, 0) _ S2.out.bx Tryz.underlying90 rfl rfl ?_)
    | (go_at_call 51; refine HVC.out.mono ?_; rintro e w3 ⟨A1, cA1, rfl, ho3, hb3⟩; have HO := Lib.hid ho3; have HB3 := Lib.hid hb3; clear ho3 hb3))
  have hpl := hplt
  have S3 := Lib.hid (S2.out.go HB3.out)
  have HT3 := Lib.hid (own_rowT (N := NoM) HO.out (by omega) (fun _ _ _ h => h))
  have HPC := Lib.hid (place_any l v A1 cA1 w3 HT3.out)
  rw [hno] at HPC
  go_upto_region 9 with (go_at_call 81; refine HPC.out.mono ?_; rintro e w4 ⟨rfl, hb4⟩; have HB4 := Lib.hid hb4; clear hb4)
  have hB24 := HB3.out.trans (HB4.out.mono HB3.out.size)
  have HO4 := Lib.hid (own_chg2 (S := NoM) HO.out (Chg.of_below HB4.out) (fun _ _ h => h))
  have S4 := Lib.hid (S3.out.go HB4.out)
  clear HO S3 HT3 HPC HB3 HB4 HVC hkd
  obtain ⟨w3', rfl⟩ : ∃ W, W = w4 := ⟨_, rfl⟩
  have hz23 : w2.heap.size ≤ w3'.heap.size := hB24.size
  have hx2 : w.heap.size < w2.heap.size := S2.out.bx.lt
  refine wp_region_in 12 7 (fun W => Below w2.heap.size w3' W) (by kernel_rfl) rfl ?_
  refine wpIn_takeV 0 [7] (.pointer (some ⟨t, 0, none⟩)) rfl (by kernel_rfl) (by kernel_rfl) (by kernel_rfl) (by kernel_rfl) (by kernel_rfl) (by kernel_rfl) (by kernel_rfl) (by rfl) (fun _ _ _ h => h) (Below.refl w2.heap.size w3').drew (fun W hW => by go_simp; all_goals first | with_reducible rfl | rfl | omega) ?_
  try simp only [List.getElem_toArray, List.getElem_cons_zero, List.getElem_cons_succ, Act.put, List.setIfInBounds_toArray, List.set_cons_succ, List.set_cons_zero]
  refine wpIn_takeV 1 [7] (.agg (itA k 3 A n c (Sp.duP l))) rfl (by kernel_rfl) (by kernel_rfl) (by kernel_rfl) (by kernel_rfl) (by kernel_rfl) (by kernel_rfl) (by kernel_rfl) (by rfl) (fun _ _ _ h => h) (Below.refl w2.heap.size w3').drew (fun W hW => exec_item _ rfl w.heap.size rfl _ (S4.out.bx.below hW hx2) rfl) ?_
  try simp only [List.getElem_toArray, List.getElem_cons_zero, List.getElem_cons_succ, Act.put, List.setIfInBounds_toArray, List.set_cons_succ, List.set_cons_zero]
  refine wpIn_takeV 2 [6, 7] (.slice A1 l.length cA1) rfl (by kernel_rfl) (by kernel_rfl) (by kernel_rfl) (by kernel_rfl) (by kernel_rfl) (by kernel_rfl) (by kernel_rfl) (by rfl) (fun _ _ _ h => h) (Below.refl w2.heap.size w3').drew (fun W hW => by go_simp; all_goals first | with_reducible rfl | rfl | omega) ?_
  try simp only [List.getElem_toArray, List.getElem_cons_zero, List.getElem_cons_succ, Act.put, List.setIfInBounds_toArray, List.set_cons_succ, List.set_cons_zero]
  refine wpIn_takeV 3 [6, 7] (.int .i64 (Sp.plc l v : Int)) rfl (by kernel_rfl) (by kernel_rfl) (by kernel_rfl) (by kernel_rfl) (by kernel_rfl) (by kernel_rfl) (by kernel_rfl) (by rfl) (fun _ _ _ h => h) (Below.refl w2.heap.size w3').drew (fun W hW => by go_simp; all_goals first | with_reducible rfl | rfl | omega) ?_
  try simp only [List.getElem_toArray, List.getElem_cons_zero, List.getElem_cons_succ, Act.put, List.setIfInBounds_toArray, List.set_cons_succ, List.set_cons_zero]
  refine wpIn_takeV 4 [5, 6, 7] (.int .i64 (Sp.plc l v : Int)) rfl (by kernel_rfl) (by kernel_rfl) (by kernel_rfl) (by kernel_rfl) (by kernel_rfl) (by kernel_rfl) (by kernel_rfl) (by rfl) (fun _ _ _ h => h) (Below.refl w2.heap.size w3').drew (fun W hW => by go_simp; all_goals first | with_reducible rfl | rfl | omega) ?_
  try simp only [List.getElem_toArray, List.getElem_cons_zero, List.getElem_cons_succ, Act.put, List.setIfInBounds_toArray, List.set_cons_succ, List.set_cons_zero]
  refine wpIn_takeV 5 [6, 7] (.int .i64 ((Sp.plc l v : Int) + 1)) rfl (by kernel_rfl) (by kernel_rfl) (by kernel_rfl) (by kernel_rfl) (by kernel_rfl) (by kernel_rfl) (by kernel_rfl) (by rfl) (fun _ _ _ h => h) (Below.refl w2.heap.size w3').drew (fun W hW => by have hw : IntKind.i64.wrap ((Sp.plc l v : Int) + 1) = (Sp.plc l v : Int) + 1 := (by simp only [IntKind.wrap_i64]; omega); go_simp; all_goals first | with_reducible rfl | rfl | omega) ?_
  try simp only [List.getElem_toArray, List.getElem_cons_zero, List.getElem_cons_succ, Act.put, List.setIfInBounds_toArray, List.set_cons_succ, List.set_cons_zero]
  refine wpIn_one 6 rfl (by kernel_rfl) (fun _ => (Below.refl w2.heap.size w3').drew) (by rfl) ?_
  go_simp
  refine (delS_any (B := w2.heap.size) (Sp.plc l v) hpl (own_chg2 (S := NoM) HO4.out (Chg.of_below (Below.refl w3'.heap.size w3').drew) (fun _ _ h => h)) (by show w2.heap.size ≤ w3'.heap.size; omega)).mono ?_
  rintro e w6 ⟨vr, rfl, ho6, hb6⟩
  obtain ⟨A6, c6, rfl⟩ := own_slice ho6
  have hB6 : Below w2.heap.size w3' w6 := Below.trans (Below.refl w2.heap.size w3').drew hb6
  have hlen6 : (l.eraseIdx (Sp.plc l v)).length = l.length - 1 := by rw [List.length_eraseIdx, if_pos hpl]
  have S6 := Lib.hid (S2.out.go (hB24.trans hB6))
  have HT6 := Lib.hid (own_tk ho6 (by omega))
  clear ho6 hb6
  try simp only [List.getElem_toArray, List.getElem_cons_zero, List.getElem_cons_succ, Act.put, List.setIfInBounds_toArray, List.set_cons_succ, List.set_cons_zero]
  refine wpIn_one 7 rfl (by kernel_rfl) (fun _ => hB6) (by rfl) ?_
  go_simp
  rw [← hlen6]
  refine (with_any _ t f m d fv V s k l 3 A n c (l.eraseIdx (Sp.plc l v)) A6 c6 w6 S6.out.st hV hd (by intro e; have := congrArg List.length e; rw [hlen6] at this; simp at this; omega) (Sp.era_srt hs _) (by rw [hlen6]; omega) HT6.out).mono ?_
  rintro e w7 ⟨vv, rfl, ⟨kind', A', n', c', dup', s', rfl, hI', hD', hst'⟩, hk7⟩
  have S7 := Lib.hid (S6.out.turn hst' hk7)
  have HI := Lib.hid hI'
  have HD := Lib.hid hD'
  clear hst' hk7 hI' hD' S6
  try simp only [List.getElem_toArray, List.getElem_cons_zero, List.getElem_cons_succ, Act.put, List.setIfInBounds_toArray, List.set_cons_succ, List.set_cons_zero]
  refine wpIn_two 8 9 rfl rfl (by kernel_rfl) (fun h => Bool.noConfusion (show true = false from h)) (by rfl) (by rfl) ?_ ?_
  · go_simp
    try simp only [List.getElem_toArray, List.getElem_cons_zero, List.getElem_cons_succ, Act.put, List.setIfInBounds_toArray, List.set_cons_succ, List.set_cons_zero]
    refine wpIn_one 9 rfl (by kernel_rfl) (fun h => Bool.noConfusion (show true = false from h)) (by rfl) ?_
    go_simp
    try simp only [List.getElem_toArray, List.getElem_cons_zero, List.getElem_cons_succ, Act.put, List.setIfInBounds_toArray, List.set_cons_succ, List.set_cons_zero]
    refine wpIn_one 10 rfl (by kernel_rfl) (fun h => Bool.noConfusion (show true = false from h)) (by rfl) ?_
    refine wp_store_row ItemT _ _ rfl (w.heap.size + 1) (itA k kind' A' n' c' dup') rfl rfl ItemT _ S7.out.bz (by kernel_rfl) rfl (itA_all _ _ _ _ _ _) ?_
    try simp only [List.getElem_toArray, List.getElem_cons_zero, List.getElem_cons_succ, Act.put, List.setIfInBounds_toArray, List.set_cons_succ, List.set_cons_zero]
    refine wpIn_one 11 rfl (by kernel_rfl) (fun h => Bool.noConfusion (show true = false from h)) (by rfl) ?_
    go_simp
    refine wpIn_done (by kernel_rfl) (by kernel_rfl) ?_ _
    simp only [Exit.then]
    go_wp2_with fail
    obtain ⟨z0, z1, z2, z3, z4, z5, z6, z7, z8, z9⟩ := (S7.out.bz.row (ds := itA k kind' A' n' c' dup')).at10.1
    obtain ⟨hfs, hfk⟩ := S7.out.done (itA k kind' A' n' c' dup') HMM.out
    refine bodyPost_ret (v := .tuple #[.agg (itA k kind' A' n' c' dup'), .nilIface]) (by simp [results, Tryz.results52, go_sem, z0, z1, z2, z3, z4, z5, z6, z7, z8, z9]) rfl ⟨_, rfl, ⟨kind', A', n', c', dup', s', rfl, HI.out.row S7.out.bz, HD.out, hfs⟩, hfk⟩
  · go_simp
    try simp only [List.getElem_toArray, List.getElem_cons_zero, List.getElem_cons_succ, Act.put, List.setIfInBounds_toArray, List.set_cons_succ, List.set_cons_zero]
    refine wpIn_one 8 rfl (by kernel_rfl) (fun h => Bool.noConfusion (show true = false from h)) (by rfl) ?_
    go_simp
    try simp only [List.getElem_toArray, List.getElem_cons_zero, List.getElem_cons_succ, Act.put, List.setIfInBounds_toArray, List.set_cons_succ, List.set_cons_zero]
    refine wpIn_one 10 rfl (by kernel_rfl) (fun h => Bool.noConfusion (show true = false from h)) (by rfl) ?_
    refine wp_store_row ItemT _ _ rfl (w.heap.size + 1) (itA k kind' A' n' c' dup') rfl rfl ItemT _ S7.out.bz (by kernel_rfl) rfl (itA_all _ _ _ _ _ _) ?_
    try simp only [List.getElem_toArray, List.getElem_cons_zero, List.getElem_cons_succ, Act.put, List.setIfInBounds_toArray, List.set_cons_succ, List.set_cons_zero]
    refine wpIn_one 11 rfl (by kernel_rfl) (fun h => Bool.noConfusion (show true = false from h)) (by rfl) ?_
    go_simp
    refine wpIn_done (by kernel_rfl) (by kernel_rfl) ?_ _
    simp only [Exit.then]
    go_wp2_with fail
    obtain ⟨z0, z1, z2, z3, z4, z5, z6, z7, z8, z9⟩ := (S7.out.bz.row (ds := itA k kind' A' n' c' dup')).at10.1
    obtain ⟨hfs, hfk⟩ := S7.out.done (itA k kind' A' n' c' dup') HMM.out
    refine bodyPost_ret (v := .tuple #[.agg (itA k kind' A' n' c' dup'), .nilIface]) (by simp [results, Tryz.results52, go_sem, z0, z1, z2, z3, z4, z5, z6, z7, z8, z9]) rfl ⟨_, rfl, ⟨kind', A', n', c', dup', s', rfl, HI.out.row S7.out.bz, HD.out, hfs⟩, hfk⟩
end Go.Proofs.YtkcfmjlcijhieaaGreat
namespace Go.Proofs.YtkcfmjlcijhieaaGreat
open Go.RowKit
attribute [local go_sem low] mk_extract
attribute [local go_sem] After.cell After.frozen mk_extract_end ByteArray.mk_append_mk
theorem info_u8b : (Tryz.prog.info? 5).map (fun i => (i.zero, i.size, i.bytes)) = some (some (.int .u8 0), 1, 1) := by kernel_rfl
/-- A row of so many zeros, made. -/
def zB (w : World) (n : Nat) : World := w.alloc (.cells (madeCells #[.int .u8 0] n) 5)
theorem zB_below {B : Nat} {w0 w : World} (n : Nat) (h : Below B w0 w) (hB : B ≤ w.heap.size) : Below B w0 (zB w n) := h.alloc hB _
theorem zB_row (w : World) (n : Nat) : ∀ i, i < n → (zB w n).cell? ⟨w.heap.size, i, none⟩ = some (.int .u8 0) := fun i hi => by
  refine ((Blk.new w 5 (madeCells #[.int .u8 0] n)).cell i).trans ?_
  simp [madeCells, hi, Nat.mod_one]
theorem mkBytes (n : Nat) (h : n ≤ 100000) (w : World) : (Instr.makeSlice 22 (.int .i64 n) (.int .i64 n)).run Tryz.prog w = .ok (.slice (some ⟨w.heap.size, 0, none⟩) n n) (zB w n) := by
  obtain ⟨i0, hi0, hz0, hz1, hz2⟩ := info_parts info_u8b
  have h1 := run_makeSlice (P := Tryz.prog) (w := w) 22 5 i0 _ Tryz.underlying22 hi0 hz0 .i64 .i64 n n (by omega) (by omega) (by rw [hz1]; simp; omega) (by rw [hz2]; simp; omega) (by omega)
  rw [h1, hz1, Int.toNat_natCast, Nat.mul_one]
  rfl
theorem backZ (n : Nat) (w : World) : (convert 22 9 (.slice (some ⟨w.heap.size, 0, none⟩) n n)).run Tryz.prog (zB w n) = .ok (.string ⟨(List.replicate n (0 : UInt8)).toArray⟩) (zB w n) := by
  have h := run_convert_bytes_back (P := Tryz.prog) (zB w n) 22 9 5 ⟨w.heap.size, 0, none⟩ n (List.replicate n (0 : UInt8)) Tryz.underlying22 Tryz.underlying5 Tryz.underlying9 (fun j hj => by
    have hp : (⟨w.heap.size, 0, none⟩ : Addr).add j = ⟨w.heap.size, 0 + j, none⟩ := by simp [Addr.add]; omega
    rw [hp, Nat.zero_add]
    rw [List.length_replicate] at hj
    rw [zB_row w n j hj, List.getElem_replicate]
    rfl)
  rw [List.length_replicate] at h
  exact h
namespace Sp
def eV : List Txt := [[], []]
theorem eV_sz : ∀ s ∈ eV, s.length ≤ 4611686018427387904 := by decide
def e0 : Sto := Sto.new 2 400 []
theorem e0_full : Full 0 e0 := Full.zero
def oT : Txt := List.replicate 101 0
def oS : Sto := (e0.write oT).2
theorem o_w : e0.write oT = ((2, none), oS) := by kernel_rfl
theorem o_r1 : oS.readO eV 2 101 = (oT, none) := by kernel_rfl
theorem o_r2 : oS.readO eV 2 102 = ([], some 12) := by kernel_rfl
theorem o_w2 : oS.write [115, 104, 111, 114, 116] = ((0, some 22), oS) := by kernel_rfl
theorem o_d : (dropTo oS 2 2).d = [] := by kernel_rfl
theorem o_ok : oS.Ok := by
  obtain ⟨s1, h1, h2, _⟩ := e0_full.write (T := oT) (by kernel_rfl) (by decide +kernel)
  rw [o_w] at h1
  rw [show oS = s1 from congrArg (fun x => x.2) h1]
  exact h2.ok
end Sp
theorem eV_txts (W : World) : Txts (W.alloc (.cells #[.string ⟨#[]⟩, .string ⟨#[]⟩] StrT)) NoM (some ⟨W.heap.size, 0, none⟩) Sp.eV := by
  have hb := Blk.new W StrT #[.string ⟨#[]⟩, .string ⟨#[]⟩]
  refine ⟨by simp [Sp.eV], .inr ⟨W.heap.size, 0, rfl, hb.lt, fun h => h, fun j v hv => ?_⟩⟩
  rw [Nat.zero_add]
  refine (hb.cell j).trans ?_
  rcases j with _ | _ | j
  · exact hv
  · exact hv
  · simp [Sp.eV] at hv
theorem nil_ivO (W : World) : IV W (.slice none 0 0) [] := ⟨⟨none, 0, rfl, .inl ⟨rfl, rfl⟩⟩, by simp⟩
/-- A store over a file of two pages. -/
structure OvS (w : World) (M : Nat → Prop) (t f m d : Nat) (fv : Value) (s : Sp.Sto) (W : World) : Prop where
  st : StAt W M t f m d fv Sp.eV s
  ok : s.Ok
  hb : Below w.heap.size w W
  ht : w.heap.size ≤ t ∧ w.heap.size ≤ d
theorem OvS.step {w W W' : World} {M : Nat → Prop} {t f m d : Nat} {fv : Value} {s s' : Sp.Sto} (h : OvS w M t f m d fv s W) (hs : StAt W' M t f m d fv Sp.eV s') (ho : s'.Ok) (hk : Chg (TwoM t d) W W') : OvS w M t f m d fv s' W' :=
  ⟨hs, ho, h.hb.trans (hk.below h.hb.size fun k hk' e => by
    have := h.ht
    rcases e with rfl | rfl <;> omega), h.ht⟩
theorem OvS.go {w W W' : World} {M : Nat → Prop} {t f m d : Nat} {fv : Value} {s : Sp.Sto} (h : OvS w M t f m d fv s W) (hb : Below W.heap.size W W') : OvS w M t f m d fv s W' :=
  ⟨h.st.go hb, h.ok, h.hb.trans (hb.mono h.hb.size), h.ht⟩
theorem OvS.new_ {w w1 w2 w3 : World} {M : Nat → Prop} {t f m d : Nat} {fv : Value} (h1 : Below w.heap.size w w1) (h2 : Below w1.heap.size w1 w2) (h3 : Below w2.heap.size w2 w3) (hst : StAt w3 M t f m d fv Sp.eV (Sp.Sto.new 2 400 [])) (ht : w2.heap.size ≤ t) (hd : w2.heap.size ≤ d) : OvS w M t f m d fv Sp.e0 w3 := by
  have z1 := h1.size
  have z2 := h2.size
  exact ⟨hst, Sp.Sto.new_ok 2 400 [], (h1.trans (h2.mono z1)).trans (h3.mono (by omega)), ⟨by omega, by omega⟩⟩
set_option maxRecDepth 100000 in
set_option maxHeartbeats 1600000 in
theorem known13_any (w : World) : Calls Tryz.prog 44 #[] w fun e w' => e = .returned (.bool true) ∧ Below w.heap.size w w' := by
  have hmk : ∀ w, (Instr.makeSlice 22 (.int .i64 101) (.int .i64 101)).run Tryz.prog w = .ok (.slice (some ⟨w.heap.size, 0, none⟩) 101 101) (zB w 101) := fun w => mkBytes 101 (by decide) w
  have hbk := fun w => backZ 101 w
  have hoT : List.replicate 101 (0 : UInt8) = Sp.oT := rfl
  rw [hoT] at hbk
  go_enter Tryz.func44, Tryz.ntmps44
  go_upto_region 2 with (first
    | (go_at_call 20; refine (fileNew_any Sp.eV w.heap.size 0 2 _ (eV_txts w) (by decide) (by decide) Sp.eV_sz).mono ?_; rintro e w2 ⟨f, fv, m, rfl, hf, _, _, _, hb2⟩; have HF := Lib.hid hf; have HB2 := Lib.hid hb2; clear hf hb2)
    | (go_at_call 28; refine (stoNew_any f m fv Sp.eV 2 400 (.slice none 0 0) [] _ HF.out (nil_ivO _)).mono ?_; rintro e w3 ⟨t, d, M, rfl, hst, hM, hb3, ht, hd⟩; have HST := Lib.hid hst; have HB3 := Lib.hid hb3; clear hst hM hb3))
  have S0 := Lib.hid (OvS.new_ ((Below.refl _ _).alloc (Nat.le_refl _) _) HB2.out HB3.out HST.out ht hd)
  clear HF HB2 HB3 HST ht hd
  go_upto_region 5 with fail
  have S1 := Lib.hid (S0.out.go (zB_below 101 (Below.refl _ _) (Nat.le_refl _)))
  generalize zB w3 101 = w4 at *
  clear S0 hmk hbk
  have HW1 := Lib.hid (owrite_any M t f m d fv Sp.eV Sp.e0 Sp.oT w4 S1.out.st S1.out.ok (by decide))
  rw [Sp.o_w] at HW1
  go_upto_region 6 with (go_at_call 45; refine HW1.out.mono ?_; rintro e w5 ⟨rfl, hst5, hk5⟩; have S2 := Lib.hid (S1.out.step hst5 Sp.o_ok hk5); clear hst5 hk5; simp only [erO])
  clear S1 HW1
  have HR1 := Lib.hid (oread_any M t f m d fv Sp.eV Sp.oS 2 101 w5 S2.out.st S2.out.ok (by decide) (by decide) (by decide))
  rw [Sp.o_r1] at HR1
  go_upto_region 7 with (go_at_call 47; refine HR1.out.mono ?_; rintro e w6 ⟨rfl, hb6⟩; have S3 := Lib.hid (S2.out.go hb6); clear hb6; simp only [erO])
  clear S2 HR1
  have HR2 := Lib.hid (oread_any M t f m d fv Sp.eV Sp.oS 2 102 w6 S3.out.st S3.out.ok (by decide) (by decide) (by decide))
  rw [Sp.o_r2] at HR2
  go_upto_region 8 with (go_at_call 47; refine HR2.out.mono ?_; rintro e w7 ⟨rfl, hb7⟩; have S4 := Lib.hid (S3.out.go hb7); clear hb7; simp only [erO])
  clear S3 HR2
  have HW2 := Lib.hid (owrite_any M t f m d fv Sp.eV Sp.oS [115, 104, 111, 114, 116] w7 S4.out.st S4.out.ok (by decide))
  rw [Sp.o_w2] at HW2
  go_upto_region 9 with (go_at_call 45; refine HW2.out.mono ?_; rintro e w8 ⟨rfl, hst8, hk8⟩; have S5 := Lib.hid (S4.out.step hst8 Sp.o_ok hk8); clear hst8 hk8; simp only [erO])
  clear S4 HW2
  have HD := Lib.hid (odrop_any M t f m d fv Sp.eV Sp.oS 2 101 w8 S5.out.st S5.out.ok (by decide) (by decide))
  rw [show Sp.cntO 101 = 2 from by decide] at HD
  go_upto_region 10 with (go_at_call 48; refine HD.out.mono ?_; rintro e w9 ⟨rfl, hst9, hk9⟩; have S6 := Lib.hid (S5.out.step hst9 (Sp.dropTo_ok Sp.o_ok 2 2) hk9); clear hst9 hk9)
  clear S5 HD
  have HL := Lib.hid (show (Sp.dropTo Sp.oS 2 2).dirty.length = 0 from by rw [Sp.Sto.dirty_len, Sp.o_d]; rfl)
  generalize Sp.dropTo Sp.oS 2 2 = s6 at *
  have c0 := show Sp.cntO 0 = 0 from by decide
  have c1 := show Sp.cntO 100 = 1 from by decide
  have c2 := show Sp.cntO 101 = 2 from by decide
  go_wp2_with (first
    | (go_at_call_of 26 (Value.iface 55 (Value.int IntKind.i64 12)); refine (errIs_same 12 _).mono ?_; rintro e wa ⟨rfl, rfl⟩)
    | (go_at_call_of 26 (Value.iface 55 (Value.int IntKind.i64 22)); refine (errIs_same 22 _).mono ?_; rintro e wa ⟨rfl, rfl⟩)
    | (go_at_call_of 46 (Value.int IntKind.i64 100); refine (count_any 100 _ (by decide) (by decide)).mono ?_; rintro e wa ⟨rfl, rfl⟩; rw [c1])
    | (go_at_call_of 46 (Value.int IntKind.i64 101); refine (count_any 101 _ (by decide) (by decide)).mono ?_; rintro e wa ⟨rfl, rfl⟩; rw [c2])
    | (go_at_call_of 46 (Value.int IntKind.i64 0); refine (count_any 0 _ (by decide) (by decide)).mono ?_; rintro e wa ⟨rfl, rfl⟩; rw [c0])
    | (go_at_call 36; refine (stoDirty_any M t f m d fv Sp.eV s6 _ S6.out.st S6.out.ok).mono ?_; rintro e wa ⟨rd, rfl, hod, hbd⟩; rw [HL.out] at hod; obtain ⟨Ad, cd, rfl⟩ := own_slice hod; have S7 := Lib.hid (S6.out.go hbd); clear hod hbd))
  go_ret
  exact ⟨by simp, S7.out.hb⟩
end Go.Proofs.YtkcfmjlcijhieaaGreat
