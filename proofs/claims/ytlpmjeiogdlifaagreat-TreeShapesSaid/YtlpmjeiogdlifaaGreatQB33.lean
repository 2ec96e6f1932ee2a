/- The document's put: at a branch: down to the child. -/
import Derived.Test.YtlpmjeiogdlifaaGreatQB32
import Derived.Deep.RegionLaw
set_option linter.unusedSimpArgs false
set_option linter.unusedVariables false
namespace Go.Proofs.YtlpmjeiogdlifaaGreat
open Go.RowKit
attribute [local go_sem low] mk_extract
attribute [local go_sem] After.cell After.frozen mk_extract_end ByteArray.mk_append_mk
namespace Sp
theorem T.put_le {x : Item} {d id n : Nat} {cs : List (Txt × T d)} {c : Txt × T d} (hc : cs[downI x.key cs]? = some c) : (T.put x d c.2 n).2.2 ≤ (T.put x (d + 1) (id, cs) n).2.2 := by
  rw [put_succ, hc]
  dsimp only
  split
  · exact Nat.le_refl _
  · rename_i h
    split
    · rename_i h2
      have := congrArg List.length h2
      rw [List.length_drop, List.length_nil] at this
      omega
    · exact Nat.le_succ _
theorem T.put_ge (x : Item) : ∀ (d : Nat) (t : T d) (n : Nat), n ≤ (T.put x d t n).2.2
  | 0, (id, l), n => by
    rw [put_zero]
    split
    · exact Nat.le_refl _
    · exact Nat.le_succ _
  | d + 1, (id, cs), n => by
    cases hc : cs[downI x.key cs]? with
    | none =>
      rw [put_succ, hc]
      exact Nat.le_refl _
    | some c => exact Nat.le_trans (T.put_ge x d c.2 n) (T.put_le hc)
end Sp
attribute [local go_sem] itemV_len
def KidOk (x : Sp.Item) (V : Option Addr) (c d : Nat) : Prop := ∀ (b : Bool) (t : Sp.T d) (s n : Nat) (fp : Value) (P : List Sp.Page) (w : World), StF w s fp P → Txts w (OneM s) V x.vals → Sp.T.Ok d b t → Sp.T.On P d t n → (Sp.T.put x d t n).2.2 ≤ 122 →
  Calls Tryz.prog 90 #[.pointer (some ⟨s, 0, none⟩), .int .i64 ((Sp.T.id d t : Nat) : Int), .agg (itemV x V c).toArray] w fun e w' => PutOut x d t s n fp P w e w'
set_option maxRecDepth 100000 in
set_option maxHeartbeats 16000000 in
theorem put_at_branch (x : Sp.Item) (V : Option Addr) (c d : Nat) (IH : KidOk x V c d) (s : Nat) (fp : Value) (P : List Sp.Page) (i n : Nat) (cs : List (Txt × Sp.T d)) (b : Bool) (w : World) (h : StF w s fp P) (hV : Txts w (OneM s) V x.vals)
    (hx : Sp.isItem x = true) (hok : Sp.T.Ok (d + 1) b (i + 2, cs)) (hon : Sp.T.On P (d + 1) (i + 2, cs) n) (hn : (Sp.T.put x (d + 1) (i + 2, cs) n).2.2 ≤ 122) :
    Calls Tryz.prog 90 #[.pointer (some ⟨s, 0, none⟩), .int .i64 ((i : Int) + 2), .agg (itemV x V c).toArray] w fun e w' => PutOut x (d + 1) (i + 2, cs) s n fp P w e w' := by
  have S := Lib.hid (PuS.start c h hV)
  have hidn : i + 2 < n := hon.lt (i + 2) (List.mem_cons_self ..)
  have hlen := hon.len
  have hpg : P[i]? = some (Sp.branchPg (cs.map (·.1)) (cs.map fun c => ((Sp.T.id d c.2 : Nat) : Int))) := hon.holds.1.2
  have l2 : 2 ≤ cs.length := hok.1
  have l4 : cs.length ≤ 4 := hok.2.1
  have hke := Sp.parted_keys hok.2.2.2.1 fun c hc => (hok.2.2.2.2.2 c hc).ne
  have hcne : cs ≠ [] := by intro e; rw [e] at l2; simp at l2
  have hkl := Sp.downI_lt x.key hcne
  have hdn := Sp.dn_downI (key := x.key) hke hcne
  obtain ⟨cc, hcc⟩ : ∃ cc, cs[Sp.downI x.key cs]? = some cc := ⟨_, List.getElem?_eq_getElem hkl⟩
  have hput := Sp.T.put_le (id := i + 2) (n := n) hcc
  have hpl : n ≤ (Sp.T.put x d cc.2 n).2.2 := Sp.T.put_ge x d cc.2 n
  have HPG := Lib.hid hpg
  have HX := Lib.hid hx
  have HOK := Lib.hid hok
  have HON := Lib.hid hon
  have HN := Lib.hid hn
  have HKID := Lib.hid (hon.kid hcc)
  have HKOK := Lib.hid (hok.2.2.2.2.2 cc (List.mem_of_getElem? hcc))
  have HKN := Lib.hid (Nat.le_trans hput hn)
  have HCC := Lib.hid hcc
  have HDN := Lib.hid hdn
  have HIH := Lib.hid IH
  have hPn : P.length ≤ 120 := by omega
  have hkid : (cs.map fun c => ((Sp.T.id d c.2 : Nat) : Int)).getD (Sp.downI x.key cs) 0 = ((Sp.T.id d cc.2 : Nat) : Int) := by simp [List.getD, hcc]
  have HKI := Lib.hid hkid
  have hcl1 : (cs.map (·.1)).length = cs.length := List.length_map _
  have hcl2 : (cs.map fun c => ((Sp.T.id d c.2 : Nat) : Int)).length = cs.length := List.length_map _
  clear h hV hx hok hon hn hpg hke hcne hput hpl IH hkid hcc
  generalize hks : cs.map (·.1) = ks0 at *
  generalize his : (cs.map fun c => ((Sp.T.id d c.2 : Nat) : Int)) = is0 at *
  generalize hkk : Sp.downI x.key cs = k at *
  have HKS := Lib.hid hks
  have HIS := Lib.hid his
  have HKK := Lib.hid hkk
  rw [← hcl1] at hdn
  have HDO := Lib.hid (fun (r : Refs) (W : World) (hT : Txts W (OneM s) r.K ks0) => show Calls Tryz.prog 148 #[.agg (pageV (Sp.branchPg ks0 is0) r).toArray, .string ⟨x.key.toArray⟩] W (fun e w' => e = .returned (.int .i64 ((k : Nat) : Int)) ∧ Below W.heap.size W w') from by
    have h1 := down_any (Sp.branchPg ks0 is0) r x.key (M := OneM s) W hT (by show 1 ≤ ks0.length; omega) (by show ks0.length ≤ 1000; omega)
    have e1 : Sp.dn (Sp.branchPg ks0 is0).keys x.key (Sp.branchPg ks0 is0).keys.length = k := hdn
    rw [e1] at h1
    exact h1)
  clear hks his hkk hdn
  go_enter Tryz.func90, Tryz.ntmps90
  go_upto_region 7 with (first
    | (go_at_call 145; refine (touch_own s fp P i _ S.out.st (by omega) hPn).mono ?_; rintro e w2 ⟨rfl, rfl⟩)
    | (go_at_call 146; refine (read_own s fp P i (Sp.branchPg ks0 is0) _ S.out.st HPG.out hPn (by simp [Sp.branchPg])).mono ?_; rintro e w3 ⟨r, rfl, hr, hb3⟩; replace S := Lib.hid (S.out.go hb3); have HR := Lib.hid hr; clear hr hb3)
    | (refine wpList_new PageT _ _ rfl rfl rfl rfl rfl rfl _ rfl (of_decide_eq_true (by kernel_rfl)) (by kernel_rfl) (by kernel_rfl) (by kernel_rfl) ?_))
  refine wp_gen (fun W => PqS w W s w3.heap.size fp P x V c (Sp.branchPg ks0 is0) r) (PqS.start S.out HR.out) ?_
  intro w4 hT
  have T := Lib.hid hT
  clear hT S HR HPG
  generalize w3.heap.size = bq at *
  have c0 : w4.cell? ⟨bq, 0, none⟩ = some (.int .i64 2) := T.out.bp.cell 0
  have e0 : w4.cell? ⟨w.heap.size, 0, none⟩ = some (.string ⟨x.key.toArray⟩) := T.out.u.bx.cell 0
  go_upto_region 12 with (first
    | (go_at_call 148; refine (HDO.out r _ T.out.pr.keys).mono ?_; rintro e w5 ⟨rfl, hb5⟩; replace T := Lib.hid (T.out.go hb5); clear hb5)
    | (refine wpList_row PageT _ rfl bq rfl rfl PageT _ (0, 0) _ T.out.bp Tryz.underlying59 rfl (by kernel_rfl) ?_))
  have HXV := Lib.hid T.out.u.xv
  have HST := Lib.hid T.out.u.st
  have HCK := Lib.hid T.out.u.ck
  obtain ⟨kb, ko, hKA, hkb, hkc⟩ := T.out.pr.keys.at_ (k := 0) (by show 0 < ks0.length; omega)
  obtain ⟨ib, io, hIA, hib, hic⟩ := T.out.pr.kids.at_ (k := 0) (by show 0 < is0.length; omega)
  have hik : w5.cell? ⟨ib, io + k, none⟩ = some (.int .i64 ((Sp.T.id d cc.2 : Nat) : Int)) := by rw [← HKI.out]; exact hic k (by show k < is0.length; omega)
  have c3 : w5.cell? ⟨bq, 3, none⟩ = some (.slice (some ⟨ib, io, none⟩) is0.length r.d) := hIA ▸ T.out.bp.cell 3
  have HKC := Lib.hid hkc
  have HIC := Lib.hid hic
  have HKA := Lib.hid hKA
  have HIA := Lib.hid hIA
  obtain ⟨d0, d1, d2, d3, d4, d5, d6, d7, d8, d9⟩ := T.out.u.bx.at10i
  have hbql := T.out.bp.lt
  clear hkc hic hKA hIA
  clear c0 e0
  have hdr : Below w5.heap.size w5 w5.drew := (Below.refl _ _).drew
  have HSTd := Lib.hid (HST.out.go hdr)
  have HXVd := Lib.hid (HXV.out.go hdr)
  have HCKd := Lib.hid (HCK.out.drew)
  have hsw := T.out.u.hs
  have hki0 : k < is0.length := by omega
  clear HST HXV HCK hdr HDO HDN
  have TD := Lib.hid (T.out.go ((Below.refl _ _).drew))
  go_cut [10, 13, 14, 15] (fun s10 s13 s14 s15 W => s10 = .int .i64 0 ∧ s13 = .int .i64 ((Sp.T.id d cc.2 : Nat) : Int) ∧ s14 = .int .i64 ((Sp.moreId d (Sp.T.put x d cc.2 n).2.1 : Nat) : Int) ∧ s15 = .string ⟨(Sp.moreKey (Sp.T.put x d cc.2 n).2.1).toArray⟩ ∧ ∃ P1, Hid (PqS w W s bq fp P1 x V c (Sp.branchPg ks0 is0) r) ∧ Hid (Sp.PutRes P P1 d cc.2 n (Sp.T.put x d cc.2 n)))
  case first =>
    as_aux_lemma =>
      refine wp_region_in 17 16 (fun W => ∃ P', PqS w W s bq fp P' x V c (Sp.branchPg ks0 is0) r) (by kernel_rfl) rfl ?_
      refine wpIn_take 0 (.pointer (some ⟨s, 0, none⟩)) rfl (by kernel_rfl) (by kernel_rfl) (by kernel_rfl) (by kernel_rfl) (by kernel_rfl) (by rfl) (fun _ _ _ h => h) ⟨P, TD.out⟩ (fun W hW => by go_simp; all_goals first | with_reducible rfl | rfl) ?_
      simp only [List.getElem_toArray, List.getElem_cons_zero, List.getElem_cons_succ, Act.put, List.setIfInBounds_toArray, List.set_cons_succ, List.set_cons_zero]
      refine wpIn_take 1 (.pointer (some ⟨bq, 3, none⟩)) rfl (by kernel_rfl) (by kernel_rfl) (by kernel_rfl) (by kernel_rfl) (by kernel_rfl) (by rfl) (fun _ _ _ h => h) ⟨P, TD.out⟩ (fun W hW => by go_simp; all_goals first | with_reducible rfl | rfl) ?_
      simp only [List.getElem_toArray, List.getElem_cons_zero, List.getElem_cons_succ, Act.put, List.setIfInBounds_toArray, List.set_cons_succ, List.set_cons_zero]
      refine wpIn_take 2 (.slice (some ⟨ib, io, none⟩) is0.length r.d) rfl (by kernel_rfl) (by kernel_rfl) (by kernel_rfl) (by kernel_rfl) (by kernel_rfl) (by rfl) (fun _ _ _ h => h) ⟨P, TD.out⟩ (fun W hW => by obtain ⟨P', hP⟩ := hW; have hc : W.cell? ⟨bq, 3, none⟩ = some (.slice (some ⟨ib, io, none⟩) is0.length r.d) := HIA.out ▸ hP.bp.cell 3; go_simp; all_goals first | with_reducible rfl | rfl) ?_
      simp only [List.getElem_toArray, List.getElem_cons_zero, List.getElem_cons_succ, Act.put, List.setIfInBounds_toArray, List.set_cons_succ, List.set_cons_zero]
      refine wpIn_take 3 (.int .i64 (k : Int)) rfl (by kernel_rfl) (by kernel_rfl) (by kernel_rfl) (by kernel_rfl) (by kernel_rfl) (by rfl) (fun _ _ _ h => h) ⟨P, TD.out⟩ (fun W hW => by go_simp; all_goals first | with_reducible rfl | rfl) ?_
      simp only [List.getElem_toArray, List.getElem_cons_zero, List.getElem_cons_succ, Act.put, List.setIfInBounds_toArray, List.set_cons_succ, List.set_cons_zero]
      refine wpIn_take 4 (.pointer (some ⟨ib, io + k, none⟩)) rfl (by kernel_rfl) (by kernel_rfl) (by kernel_rfl) (by kernel_rfl) (by kernel_rfl) (by rfl) (fun _ _ _ h => h) ⟨P, TD.out⟩ (fun W hW => by go_simp; all_goals first | with_reducible rfl | rfl) ?_
      simp only [List.getElem_toArray, List.getElem_cons_zero, List.getElem_cons_succ, Act.put, List.setIfInBounds_toArray, List.set_cons_succ, List.set_cons_zero]
      refine wpIn_take 5 (.int .i64 ((Sp.T.id d cc.2 : Nat) : Int)) rfl (by kernel_rfl) (by kernel_rfl) (by kernel_rfl) (by kernel_rfl) (by kernel_rfl) (by rfl) (fun _ _ _ h => h) ⟨P, TD.out⟩ (fun W hW => by obtain ⟨P', hP⟩ := hW; obtain ⟨ib', io', e', _, hc'⟩ := hP.pr.kids.at_ (k := k) hki0; obtain ⟨rfl, rfl⟩ : ib = ib' ∧ io = io' := (by simpa using HIA.out.symm.trans e'); have hc : W.cell? ⟨ib, io + k, none⟩ = some (.int .i64 ((Sp.T.id d cc.2 : Nat) : Int)) := (by rw [← HKI.out]; exact hc' k hki0); go_simp; all_goals first | with_reducible rfl | rfl) ?_
      simp only [List.getElem_toArray, List.getElem_cons_zero, List.getElem_cons_succ, Act.put, List.setIfInBounds_toArray, List.set_cons_succ, List.set_cons_zero]
      refine wpIn_take 6 (.agg (itemV x V c).toArray) rfl (by kernel_rfl) (by kernel_rfl) (by kernel_rfl) (by kernel_rfl) (by kernel_rfl) (by rfl) (fun _ _ _ h => h) ⟨P, TD.out⟩ (fun W hW => by obtain ⟨P', hP⟩ := hW; obtain ⟨d0, d1, d2, d3, d4, d5, d6, d7, d8, d9⟩ := hP.u.bx.at10i; go_simp; all_goals first | with_reducible rfl | rfl) ?_
      simp only [List.getElem_toArray, List.getElem_cons_zero, List.getElem_cons_succ, Act.put, List.setIfInBounds_toArray, List.set_cons_succ, List.set_cons_zero]
      refine wpIn_one 7 rfl (by kernel_rfl) (fun _ => ⟨P, TD.out⟩) (by rfl) ?_
      go_simp
      go_at_call 90
      refine (HIH.out false cc.2 s n fp P _ HSTd.out HXVd.out HKOK.out HKID.out HKN.out).mono ?_
      rintro e w6 ⟨rfl, P1, st1, res1, ck1⟩
      have HT6 := Lib.hid (TD.out.call st1 ck1)
      have HR6 := Lib.hid res1
      clear st1 res1 ck1
      dsimp only
      try simp only [List.getElem_toArray, List.getElem_cons_zero, List.getElem_cons_succ, Act.put, List.setIfInBounds_toArray, List.set_cons_succ, List.set_cons_zero]
      refine wpIn_take 8 (.tuple #[.int .i64 ((Sp.T.id d cc.2 : Nat) : Int), .int .i64 ((Sp.moreId d (Sp.T.put x d cc.2 n).2.1 : Nat) : Int), .string ⟨(Sp.moreKey (Sp.T.put x d cc.2 n).2.1).toArray⟩, .int .i64 0]) rfl (by kernel_rfl) (by kernel_rfl) (by kernel_rfl) (by kernel_rfl) (by kernel_rfl) (by rfl) (fun _ _ _ h => h) ⟨P1, HT6.out⟩ (fun W hW => by go_simp; all_goals first | with_reducible rfl | rfl) ?_
      simp only [List.getElem_toArray, List.getElem_cons_zero, List.getElem_cons_succ, Act.put, List.setIfInBounds_toArray, List.set_cons_succ, List.set_cons_zero]
      refine wpIn_take 9 (.int .i64 ((Sp.T.id d cc.2 : Nat) : Int)) rfl (by kernel_rfl) (by kernel_rfl) (by kernel_rfl) (by kernel_rfl) (by kernel_rfl) (by rfl) (fun _ _ _ h => h) ⟨P1, HT6.out⟩ (fun W hW => by go_simp; all_goals first | with_reducible rfl | rfl) ?_
      simp only [List.getElem_toArray, List.getElem_cons_zero, List.getElem_cons_succ, Act.put, List.setIfInBounds_toArray, List.set_cons_succ, List.set_cons_zero]
      refine wpIn_take 10 (.int .i64 ((Sp.moreId d (Sp.T.put x d cc.2 n).2.1 : Nat) : Int)) rfl (by kernel_rfl) (by kernel_rfl) (by kernel_rfl) (by kernel_rfl) (by kernel_rfl) (by rfl) (fun _ _ _ h => h) ⟨P1, HT6.out⟩ (fun W hW => by go_simp; all_goals first | with_reducible rfl | rfl) ?_
      simp only [List.getElem_toArray, List.getElem_cons_zero, List.getElem_cons_succ, Act.put, List.setIfInBounds_toArray, List.set_cons_succ, List.set_cons_zero]
      refine wpIn_take 11 (.string ⟨(Sp.moreKey (Sp.T.put x d cc.2 n).2.1).toArray⟩) rfl (by kernel_rfl) (by kernel_rfl) (by kernel_rfl) (by kernel_rfl) (by kernel_rfl) (by rfl) (fun _ _ _ h => h) ⟨P1, HT6.out⟩ (fun W hW => by go_simp; all_goals first | with_reducible rfl | rfl) ?_
      simp only [List.getElem_toArray, List.getElem_cons_zero, List.getElem_cons_succ, Act.put, List.setIfInBounds_toArray, List.set_cons_succ, List.set_cons_zero]
      refine wpIn_take 12 (.int .i64 0) rfl (by kernel_rfl) (by kernel_rfl) (by kernel_rfl) (by kernel_rfl) (by kernel_rfl) (by rfl) (fun _ _ _ h => h) ⟨P1, HT6.out⟩ (fun W hW => by go_simp; all_goals first | with_reducible rfl | rfl) ?_
      simp only [List.getElem_toArray, List.getElem_cons_zero, List.getElem_cons_succ, Act.put, List.setIfInBounds_toArray, List.set_cons_succ, List.set_cons_zero]
      refine wpIn_take 13 (.int .i64 ((Sp.T.id d cc.2 : Nat) : Int)) rfl (by kernel_rfl) (by kernel_rfl) (by kernel_rfl) (by kernel_rfl) (by kernel_rfl) (by rfl) (fun _ _ _ h => h) ⟨P1, HT6.out⟩ (fun W hW => by go_simp; all_goals first | with_reducible rfl | rfl) ?_
      simp only [List.getElem_toArray, List.getElem_cons_zero, List.getElem_cons_succ, Act.put, List.setIfInBounds_toArray, List.set_cons_succ, List.set_cons_zero]
      refine wpIn_take 14 (.int .i64 ((Sp.moreId d (Sp.T.put x d cc.2 n).2.1 : Nat) : Int)) rfl (by kernel_rfl) (by kernel_rfl) (by kernel_rfl) (by kernel_rfl) (by kernel_rfl) (by rfl) (fun _ _ _ h => h) ⟨P1, HT6.out⟩ (fun W hW => by go_simp; all_goals first | with_reducible rfl | rfl) ?_
      simp only [List.getElem_toArray, List.getElem_cons_zero, List.getElem_cons_succ, Act.put, List.setIfInBounds_toArray, List.set_cons_succ, List.set_cons_zero]
      refine wpIn_take 15 (.string ⟨(Sp.moreKey (Sp.T.put x d cc.2 n).2.1).toArray⟩) rfl (by kernel_rfl) (by kernel_rfl) (by kernel_rfl) (by kernel_rfl) (by kernel_rfl) (by rfl) (fun _ _ _ h => h) ⟨P1, HT6.out⟩ (fun W hW => by go_simp; all_goals first | with_reducible rfl | rfl) ?_
      simp only [List.getElem_toArray, List.getElem_cons_zero, List.getElem_cons_succ, Act.put, List.setIfInBounds_toArray, List.set_cons_succ, List.set_cons_zero]
      refine wpIn_one 16 rfl (by kernel_rfl) (fun _ => ⟨P1, HT6.out⟩) (by rfl) ?_
      go_simp
      refine wpIn_done (by kernel_rfl) (by kernel_rfl) ?_ _
      simp only [Exit.then]
      refine ‹∀ (a' : Act) (w' : World), Met _ a' w' → _› _ _ ?_
      go_meet
      case rel => exact ⟨rfl, rfl, rfl, rfl, P1, HT6, HR6⟩
  case rest =>
  obtain ⟨rfl, rfl, rfl, rfl, P1, T6, HR6⟩ := hcut
  obtain ⟨w6, rfl⟩ : ∃ W, W = wc := ⟨_, rfl⟩
  clear TD T HSTd HXVd HCKd HKC HIC c3 hik d0 d1 d2 d3 d4 d5 d6 d7 d8 d9 hkb hib hbql
  obtain ⟨i0, hii0, hz0, hz1, hz2⟩ := info_parts info_str
  obtain ⟨i1, hii1, hy0, hy1, hy2⟩ := info_parts info_int
  go_upto_region 15 with fail
  obtain ⟨kb, ko, hKA, hkb, _, hkc⟩ := Row.open_ (cs := ks0.map tv) T6.out.pr.keys (by rw [List.length_map]; omega)
  obtain ⟨ib, io, hIA, hib, _, hic⟩ := Row.open_ (cs := is0.map iv) T6.out.pr.kids (by rw [List.length_map]; omega)
  have c2 : w6.cell? ⟨bq, 2, none⟩ = some (.slice (some ⟨kb, ko, none⟩) ks0.length r.k) := hKA ▸ T6.out.bp.cell 2
  have c3 : w6.cell? ⟨bq, 3, none⟩ = some (.slice (some ⟨ib, io, none⟩) is0.length r.d) := hIA ▸ T6.out.bp.cell 3
  have hbql := T6.out.bp.lt
  have HKC := Lib.hid hkc
  have HIC := Lib.hid hic
  have HK1 := Lib.hid (show ∀ u ∈ ks0.map tv, u.oneCell' = true from fun u hu => by obtain ⟨s, _, rfl⟩ := List.mem_map.1 hu; rfl)
  have HI1 := Lib.hid (show ∀ u ∈ is0.map iv, u.oneCell' = true from fun u hu => by obtain ⟨s, _, rfl⟩ := List.mem_map.1 hu; rfl)
  have HLK := Lib.hid (show (ks0.map tv).length = ks0.length * 1 by simp)
  have HLI := Lib.hid (show (is0.map iv).length = is0.length * 1 by simp)
  have hk4 : ks0.length ≤ 4 := by omega
  have hi4 : is0.length ≤ 4 := by omega
  have hk0 : 0 < ks0.length := by omega
  have hi0 : 0 < is0.length := by omega
  have hki : is0.length = ks0.length := by omega
  have HCL1 := Lib.hid hcl1
  have HCL2 := Lib.hid hcl2
  have HKI2 := Lib.hid hki
  clear hkc hic hKA hIA hcl1 hcl2 hki
  go_cut [16] (fun s16 W => ∃ b g gc dd dc, s16 = .pointer (some ⟨b, 0, none⟩) ∧ Hid (QkS w6 W b g gc dd dc ks0 is0))
  case first =>
    as_aux_lemma =>
      refine wp_region_in 9 8 (fun W => Below w6.heap.size w6 W) (by kernel_rfl) rfl ?_
      refine wpIn_take 0 (.pointer (some ⟨bq, 2, none⟩)) rfl (by kernel_rfl) (by kernel_rfl) (by kernel_rfl) (by kernel_rfl) (by kernel_rfl) (by rfl) (fun _ _ _ h => h) ((Below.refl w6.heap.size w6).drew) (fun W hW => by go_simp; all_goals first | with_reducible rfl | rfl) ?_
      simp only [List.getElem_toArray, List.getElem_cons_zero, List.getElem_cons_succ, Act.put, List.setIfInBounds_toArray, List.set_cons_succ, List.set_cons_zero]
      refine wpIn_take 1 (.slice (some ⟨kb, ko, none⟩) ks0.length r.k) rfl (by kernel_rfl) (by kernel_rfl) (by kernel_rfl) (by kernel_rfl) (by kernel_rfl) (by rfl) (fun _ _ _ h => h) ((Below.refl w6.heap.size w6).drew) (fun W hW => by have hc := (hW.cell (p := ⟨bq, 2, none⟩) hbql).trans c2; go_simp; all_goals first | with_reducible rfl | rfl) ?_
      simp only [List.getElem_toArray, List.getElem_cons_zero, List.getElem_cons_succ, Act.put, List.setIfInBounds_toArray, List.set_cons_succ, List.set_cons_zero]
      refine wpIn_take 3 (.pointer (some ⟨bq, 3, none⟩)) rfl (by kernel_rfl) (by kernel_rfl) (by kernel_rfl) (by kernel_rfl) (by kernel_rfl) (by rfl) (fun _ _ _ h => h) ((Below.refl w6.heap.size w6).drew) (fun W hW => by go_simp; all_goals first | with_reducible rfl | rfl) ?_
      simp only [List.getElem_toArray, List.getElem_cons_zero, List.getElem_cons_succ, Act.put, List.setIfInBounds_toArray, List.set_cons_succ, List.set_cons_zero]
      refine wpIn_take 4 (.slice (some ⟨ib, io, none⟩) is0.length r.d) rfl (by kernel_rfl) (by kernel_rfl) (by kernel_rfl) (by kernel_rfl) (by kernel_rfl) (by rfl) (fun _ _ _ h => h) ((Below.refl w6.heap.size w6).drew) (fun W hW => by have hc := (hW.cell (p := ⟨bq, 3, none⟩) hbql).trans c3; go_simp; all_goals first | with_reducible rfl | rfl) ?_
      simp only [List.getElem_toArray, List.getElem_cons_zero, List.getElem_cons_succ, Act.put, List.setIfInBounds_toArray, List.set_cons_succ, List.set_cons_zero]
      refine wpIn_two 2 7 rfl rfl (by kernel_rfl) (fun _ => ((Below.refl w6.heap.size w6).drew)) (by rfl) (by rfl) ?_ ?_
      · refine wp_append_own _ (.const (.slice none 0 0)) (.tmp 75) _ rfl w6.heap.size StrT i0 _ 1 16 Tryz.underlying31 hii0 hz0 hz1 hz2 rfl (by decide) (.slice none 0 0) 0 [] rfl (own_nil _ _ _ _) ⟨kb, ko, none⟩ ks0.length r.k (ks0.map tv) rfl HLK.out (cells_keep (w := w6) ((Below.refl w6.heap.size w6).drew) hkb HKC.out) HK1.out (by simp only [maxLen]; omega) (by omega) (Nat.le_refl _) ?_
        intro v2 w2 hown2 hgr2 hnil2
        replace hown2 : w2.ownsRow w6.heap.size StrT 1 v2 ks0.length (ks0.map tv) := by simpa using hown2
        obtain ⟨gK, cK, rfl, _, _⟩ := own_some hown2 hk0
        have hb2 := grown_below hgr2
        have hB2 : Below w6.heap.size w6 w2 := ((Below.refl w6.heap.size w6).drew).trans (hb2.mono (Nat.le_refl _))
        have HOK2 := Lib.hid hown2
        have hz2' := hB2.size
        clear hown2 hgr2 hnil2
        simp only [List.getElem_toArray, List.getElem_cons_zero, List.getElem_cons_succ, Act.put, List.setIfInBounds_toArray, List.set_cons_succ, List.set_cons_zero]
        refine wpIn_two 5 7 rfl rfl (by kernel_rfl) (fun _ => hB2) (by rfl) (by rfl) ?_ ?_
        · refine wp_append_own _ (.const (.slice none 0 0)) (.tmp 78) _ rfl w6.heap.size IntT i1 _ 1 8 Tryz.underlying32 hii1 hy0 hy1 hy2 rfl (by decide) (.slice none 0 0) 0 [] rfl (own_nil _ _ _ _) ⟨ib, io, none⟩ is0.length r.d (is0.map iv) rfl HLI.out (cells_keep (w := w6) hB2 hib HIC.out) HI1.out (by simp only [maxLen]; omega) (by omega) hz2' ?_
          intro v3 w3 hown3 hgr3 hnil3
          replace hown3 : w3.ownsRow w6.heap.size IntT 1 v3 is0.length (is0.map iv) := by simpa using hown3
          obtain ⟨gI, cI, rfl, _, _⟩ := own_some hown3 hi0
          have hb3 := grown_below hgr3
          have hB3 : Below w6.heap.size w6 w3 := hB2.trans (hb3.mono hz2')
          have HOK3 := Lib.hid (own_chg2 (S := NoM) HOK2.out (Chg.of_below (show Below w2.heap.size w2 w3 from hb3)) (fun _ _ h => h))
          have HOD3 := Lib.hid hown3
          have hz3' := hB3.size
          clear hown3 hgr3 hnil3
          simp only [List.getElem_toArray, List.getElem_cons_zero, List.getElem_cons_succ, Act.put, List.setIfInBounds_toArray, List.set_cons_succ, List.set_cons_zero]
          refine wpIn_take 6 (.agg (pageV (Sp.branchPg ks0 is0) (refsB (some ⟨gK, 0, none⟩) cK (some ⟨gI, 0, none⟩) cI)).toArray) rfl (by kernel_rfl) (by kernel_rfl) (by kernel_rfl) (by kernel_rfl) (by kernel_rfl) (by rfl) (fun _ _ _ h => h) hB3 (fun W hW => by go_simp; all_goals first | with_reducible rfl | rfl) ?_
          simp only [List.getElem_toArray, List.getElem_cons_zero, List.getElem_cons_succ, Act.put, List.setIfInBounds_toArray, List.set_cons_succ, List.set_cons_zero]
          refine wpIn_one 7 rfl (by kernel_rfl) (fun _ => hB3) (by rfl) ?_
          go_simp
          refine wpIn_one 8 rfl (by kernel_rfl) (fun _ => (hB3.alloc hz3' _)) (by rfl) ?_
          refine wp_store_row PageT _ _ rfl w3.heap.size (pageV (Sp.branchPg ks0 is0) (refsB (some ⟨gK, 0, none⟩) cK (some ⟨gI, 0, none⟩) cI)).toArray rfl rfl PageT _ (Blk.new w3 PageT pgZ) (by kernel_rfl) rfl (pageV_all _ _) ?_
          simp only [List.getElem_toArray, List.getElem_cons_zero, List.getElem_cons_succ, Act.put, List.setIfInBounds_toArray, List.set_cons_succ, List.set_cons_zero]
          refine wpIn_done (by kernel_rfl) (by kernel_rfl) ?_ _
          simp only [Exit.then]
          refine ‹∀ (a' : Act) (w' : World), Met _ a' w' → _› _ _ ?_
          go_meet
          case rel => exact ⟨w3.heap.size, gK, cK, gI, cI, rfl, Lib.hid (QkS.row (hB3.alloc hz3' _) (Blk.new w3 PageT pgZ) hz3' (own_chg2 (S := NoM) HOK3.out (Chg.of_below ((Below.refl _ w3).alloc (Nat.le_refl _) (.cells pgZ PageT))) (fun _ _ h => h)) (own_chg2 (S := NoM) HOD3.out (Chg.of_below ((Below.refl _ w3).alloc (Nat.le_refl _) (.cells pgZ PageT))) (fun _ _ h => h)))⟩
        · go_simp
          refine wpIn_one 5 rfl (by kernel_rfl) (fun _ => (hB2.alloc hz2' _)) (by rfl) ?_
          refine wp_append_own _ (.const (.slice none 0 0)) (.tmp 78) _ rfl w6.heap.size IntT i1 _ 1 8 Tryz.underlying32 hii1 hy0 hy1 hy2 rfl (by decide) (.slice none 0 0) 0 [] rfl (own_nil _ _ _ _) ⟨ib, io, none⟩ is0.length r.d (is0.map iv) rfl HLI.out (cells_keep (w := w6) (hB2.alloc hz2' _) hib HIC.out) HI1.out (by simp only [maxLen]; omega) (by omega) (Below.size (hB2.alloc hz2' _)) ?_
          intro v3 w3 hown3 hgr3 hnil3
          replace hown3 : w3.ownsRow w6.heap.size IntT 1 v3 is0.length (is0.map iv) := by simpa using hown3
          obtain ⟨gI, cI, rfl, _, _⟩ := own_some hown3 hi0
          have hb3 := grown_below hgr3
          have hB3 : Below w6.heap.size w6 w3 := (hB2.alloc hz2' _).trans (hb3.mono (Below.size (hB2.alloc hz2' _)))
          have HOK3 := Lib.hid (own_chg2 (S := NoM) HOK2.out (Chg.of_below (show Below w2.heap.size w2 w3 from ((Below.refl _ _).alloc (Nat.le_refl _) _).trans (hb3.mono (Below.size ((Below.refl w2.heap.size w2).alloc (Nat.le_refl _) _))))) (fun _ _ h => h))
          have HOD3 := Lib.hid hown3
          have hz3' := hB3.size
          clear hown3 hgr3 hnil3
          simp only [List.getElem_toArray, List.getElem_cons_zero, List.getElem_cons_succ, Act.put, List.setIfInBounds_toArray, List.set_cons_succ, List.set_cons_zero]
          refine wpIn_take 6 (.agg (pageV (Sp.branchPg ks0 is0) (refsB (some ⟨gK, 0, none⟩) cK (some ⟨gI, 0, none⟩) cI)).toArray) rfl (by kernel_rfl) (by kernel_rfl) (by kernel_rfl) (by kernel_rfl) (by kernel_rfl) (by rfl) (fun _ _ _ h => h) hB3 (fun W hW => by go_simp; all_goals first | with_reducible rfl | rfl) ?_
          simp only [List.getElem_toArray, List.getElem_cons_zero, List.getElem_cons_succ, Act.put, List.setIfInBounds_toArray, List.set_cons_succ, List.set_cons_zero]
          refine wpIn_one 8 rfl (by kernel_rfl) (fun _ => hB3) (by rfl) ?_
          refine wp_store_row PageT _ _ rfl w2.heap.size (pageV (Sp.branchPg ks0 is0) (refsB (some ⟨gK, 0, none⟩) cK (some ⟨gI, 0, none⟩) cI)).toArray rfl rfl PageT _ ((Blk.new w2 PageT pgZ).below hb3 (Blk.new w2 PageT pgZ).lt) (by kernel_rfl) rfl (pageV_all _ _) ?_
          simp only [List.getElem_toArray, List.getElem_cons_zero, List.getElem_cons_succ, Act.put, List.setIfInBounds_toArray, List.set_cons_succ, List.set_cons_zero]
          refine wpIn_done (by kernel_rfl) (by kernel_rfl) ?_ _
          simp only [Exit.then]
          refine ‹∀ (a' : Act) (w' : World), Met _ a' w' → _› _ _ ?_
          go_meet
          case rel => exact ⟨w2.heap.size, gK, cK, gI, cI, rfl, Lib.hid (QkS.row hB3 ((Blk.new w2 PageT pgZ).below hb3 (Blk.new w2 PageT pgZ).lt) hz2' HOK3.out HOD3.out)⟩
      · go_simp
        refine wpIn_one 2 rfl (by kernel_rfl) (fun _ => (((Below.refl w6.heap.size w6).alloc (Nat.le_refl _) _).drew)) (by rfl) ?_
        refine wp_append_own _ (.const (.slice none 0 0)) (.tmp 75) _ rfl w6.heap.size StrT i0 _ 1 16 Tryz.underlying31 hii0 hz0 hz1 hz2 rfl (by decide) (.slice none 0 0) 0 [] rfl (own_nil _ _ _ _) ⟨kb, ko, none⟩ ks0.length r.k (ks0.map tv) rfl HLK.out (cells_keep (w := w6) (((Below.refl w6.heap.size w6).alloc (Nat.le_refl _) _).drew) hkb HKC.out) HK1.out (by simp only [maxLen]; omega) (by omega) (Below.size (((Below.refl w6.heap.size w6).alloc (Nat.le_refl _) _).drew)) ?_
        intro v2 w2 hown2 hgr2 hnil2
        replace hown2 : w2.ownsRow w6.heap.size StrT 1 v2 ks0.length (ks0.map tv) := by simpa using hown2
        obtain ⟨gK, cK, rfl, _, _⟩ := own_some hown2 hk0
        have hb2 := grown_below hgr2
        have hB2 : Below w6.heap.size w6 w2 := (((Below.refl w6.heap.size w6).alloc (Nat.le_refl _) _).drew).trans (hb2.mono (Below.size (((Below.refl w6.heap.size w6).alloc (Nat.le_refl _) _).drew)))
        have HOK2 := Lib.hid hown2
        have hz2' := hB2.size
        clear hown2 hgr2 hnil2
        simp only [List.getElem_toArray, List.getElem_cons_zero, List.getElem_cons_succ, Act.put, List.setIfInBounds_toArray, List.set_cons_succ, List.set_cons_zero]
        refine wpIn_one 5 rfl (by kernel_rfl) (fun _ => hB2) (by rfl) ?_
        refine wp_append_own _ (.const (.slice none 0 0)) (.tmp 78) _ rfl w6.heap.size IntT i1 _ 1 8 Tryz.underlying32 hii1 hy0 hy1 hy2 rfl (by decide) (.slice none 0 0) 0 [] rfl (own_nil _ _ _ _) ⟨ib, io, none⟩ is0.length r.d (is0.map iv) rfl HLI.out (cells_keep (w := w6) hB2 hib HIC.out) HI1.out (by simp only [maxLen]; omega) (by omega) hz2' ?_
        intro v3 w3 hown3 hgr3 hnil3
        replace hown3 : w3.ownsRow w6.heap.size IntT 1 v3 is0.length (is0.map iv) := by simpa using hown3
        obtain ⟨gI, cI, rfl, _, _⟩ := own_some hown3 hi0
        have hb3 := grown_below hgr3
        have hB3 : Below w6.heap.size w6 w3 := hB2.trans (hb3.mono hz2')
        have HOK3 := Lib.hid (own_chg2 (S := NoM) HOK2.out (Chg.of_below (show Below w2.heap.size w2 w3 from hb3)) (fun _ _ h => h))
        have HOD3 := Lib.hid hown3
        have hz3' := hB3.size
        clear hown3 hgr3 hnil3
        simp only [List.getElem_toArray, List.getElem_cons_zero, List.getElem_cons_succ, Act.put, List.setIfInBounds_toArray, List.set_cons_succ, List.set_cons_zero]
        refine wpIn_take 6 (.agg (pageV (Sp.branchPg ks0 is0) (refsB (some ⟨gK, 0, none⟩) cK (some ⟨gI, 0, none⟩) cI)).toArray) rfl (by kernel_rfl) (by kernel_rfl) (by kernel_rfl) (by kernel_rfl) (by kernel_rfl) (by rfl) (fun _ _ _ h => h) hB3 (fun W hW => by go_simp; all_goals first | with_reducible rfl | rfl) ?_
        simp only [List.getElem_toArray, List.getElem_cons_zero, List.getElem_cons_succ, Act.put, List.setIfInBounds_toArray, List.set_cons_succ, List.set_cons_zero]
        refine wpIn_one 8 rfl (by kernel_rfl) (fun _ => hB3) (by rfl) ?_
        refine wp_store_row PageT _ _ rfl w6.heap.size (pageV (Sp.branchPg ks0 is0) (refsB (some ⟨gK, 0, none⟩) cK (some ⟨gI, 0, none⟩) cI)).toArray rfl rfl PageT _ (((Blk.new w6 PageT pgZ).drew.below hb2 (Blk.new w6 PageT pgZ).lt).below hb3 (Blk.lt ((Blk.new w6 PageT pgZ).drew.below hb2 (Blk.new w6 PageT pgZ).lt))) (by kernel_rfl) rfl (pageV_all _ _) ?_
        simp only [List.getElem_toArray, List.getElem_cons_zero, List.getElem_cons_succ, Act.put, List.setIfInBounds_toArray, List.set_cons_succ, List.set_cons_zero]
        refine wpIn_done (by kernel_rfl) (by kernel_rfl) ?_ _
        simp only [Exit.then]
        refine ‹∀ (a' : Act) (w' : World), Met _ a' w' → _› _ _ ?_
        go_meet
        case rel => exact ⟨w6.heap.size, gK, cK, gI, cI, rfl, Lib.hid (QkS.row hB3 (((Blk.new w6 PageT pgZ).drew.below hb2 (Blk.new w6 PageT pgZ).lt).below hb3 (Blk.lt ((Blk.new w6 PageT pgZ).drew.below hb2 (Blk.new w6 PageT pgZ).lt))) (Nat.le_refl _) HOK3.out HOD3.out)⟩
  case rest =>
  obtain ⟨b16, g, gc, dd, dc, rfl, Q⟩ := hcut
  obtain ⟨w7, rfl⟩ : ∃ W, W = wc := ⟨_, rfl⟩
  clear c2 c3 HKC HIC HK1 HI1 HLK HLI hk4 hi4 hk0 hi0 hkb hib hbql
  have HST6 := Lib.hid T6.out.u.st
  have HCK6 := Lib.hid T6.out.u.ck
  have hs6 : s < w6.heap.size := by
    obtain ⟨_, _, h, _⟩ := HST6.out
    exact h.bs.lt
  clear T6
  have hkl1 : k < is0.length := by rw [HCL2.out]; exact hkl
  obtain ⟨hd3, hf3⟩ := own_at Q.out.od hkl1
  have e3 : w7.cell? ⟨b16, 3, none⟩ = some (.slice (some ⟨dd, 0, none⟩) is0.length dc) := Q.out.bh.cell 3
  go_upto_region 17 with fail
  refine wp_gen (fun W => QkS w6 W b16 g gc dd dc ks0 (is0.set k ((Sp.T.id d cc.2 : Nat) : Int))) (Q.out.kid k _) ?_
  intro w8 hQ
  replace Q := Lib.hid hQ
  clear hQ e3 hd3 hf3 hkl1
  have hil1 : (is0.set k ((Sp.T.id d cc.2 : Nat) : Int)).length = is0.length := List.length_set
  have hil : (is0.set k ((Sp.T.id d cc.2 : Nat) : Int)).length = cs.length := by rw [hil1, HCL2.out]
  have hkL0 : ks0.length = cs.length := HCL1.out
  have HID := Lib.hid (show Sp.T.id d (Sp.T.put x d cc.2 n).1 = Sp.T.id d cc.2 from (Sp.put_spec HX.out d false cc.2 n HKOK.out).1)
  have HIS1 := Lib.hid (show is0.set k ((Sp.T.id d cc.2 : Nat) : Int) = (cs.map fun c => ((Sp.T.id d c.2 : Nat) : Int)).set k ((Sp.T.id d (Sp.T.put x d cc.2 n).1 : Nat) : Int) by rw [HIS.out, HID.out])
  clear hil1 HKI2
  generalize is0.set k ((Sp.T.id d cc.2 : Nat) : Int) = is1 at *
  go_upto_if 87 with fail
  have HCCK := Lib.hid (show cs[k]? = some cc from HKK.out ▸ HCC.out)
  go_cut [14, 15] (fun _ _ W => ∃ g gc dd dc ks is, Hid (QkS w6 W b16 g gc dd dc ks is) ∧ Hid (ks = (Sp.graft k (Sp.T.put x d cc.2 n).1 (Sp.T.put x d cc.2 n).2.1 cs).map (·.1)) ∧ Hid (is = (Sp.graft k (Sp.T.put x d cc.2 n).1 (Sp.T.put x d cc.2 n).2.1 cs).map fun c => ((Sp.T.id d c.2 : Nat) : Int)))
  case first =>
    rcases hm : (Sp.T.put x d cc.2 n).2.1 with _ | m
    · have hk1 := Sp.graft_keys (t := (Sp.T.put x d cc.2 n).1) HCCK.out
      have hi1 := Sp.graft_ids (f := fun t => ((Sp.T.id d t : Nat) : Int)) (t := (Sp.T.put x d cc.2 n).1) HCCK.out
      have HK1 := Lib.hid (show ks0 = (Sp.graft k (Sp.T.put x d cc.2 n).1 none cs).map (·.1) from HKS.out.symm.trans hk1.symm)
      have HI1 := Lib.hid (show is1 = (Sp.graft k (Sp.T.put x d cc.2 n).1 none cs).map fun c => ((Sp.T.id d c.2 : Nat) : Int) from HIS1.out.trans hi1.symm)
      clear hk1 hi1
      simp only [Sp.moreId, Sp.moreKey]
      go_wp2_with fail
      go_meet
      case rel => exact ⟨_, _, _, _, _, _, Q, Lib.hid (by rw [hm]; exact HK1.out), Lib.hid (by rw [hm]; exact HI1.out)⟩
    · have hk1 := Sp.graft_keys' (m := m) (t := (Sp.T.put x d cc.2 n).1) HCCK.out
      have hi1 := Sp.graft_ids' (f := fun t => ((Sp.T.id d t : Nat) : Int)) (m := m) (t := (Sp.T.put x d cc.2 n).1) HCCK.out
      have hm2 : 2 ≤ Sp.T.id d m.2 := (HR6.out.more m (by rw [hm]; rfl)).root.1
      have HK1 := Lib.hid (show ks0.take (k + 1) ++ [m.1] ++ ks0.drop (k + 1) = (Sp.graft k (Sp.T.put x d cc.2 n).1 (some m) cs).map (·.1) by rw [hk1, HKS.out])
      have HI2 := Lib.hid (show is1.take (k + 1) ++ [((Sp.T.id d m.2 : Nat) : Int)] ++ is1.drop (k + 1) = (Sp.graft k (Sp.T.put x d cc.2 n).1 (some m) cs).map fun c => ((Sp.T.id d c.2 : Nat) : Int) by rw [hi1, HIS1.out])
      clear hk1 hi1
      simp only [Sp.moreId, Sp.moreKey]
      generalize m.1 = mk at *
      generalize Sp.T.id d m.2 = mid at *
      have hmid : ¬ ((mid : Int) = 0) := by omega
      have hmidb : ((mid : Int) == 0) = false := beq_eq_false_iff_ne.2 hmid
      go_upto_region 18 with fail
      have hgw : g < w8.heap.size := (own_blk_lt Q.out.ok_).elim fun _ h => Blk.lt h
      have hcg := own_cells Q.out.ok_
      obtain ⟨hca, hcb⟩ := own_cap Q.out.ok_
      simp only [maxLen] at hcb
      have hb16 : b16 < w8.heap.size := Q.out.bh.lt
      have hkL : k < ks0.length := by omega
      have h4L : ks0.length ≤ 4 := by omega
      have HLa := Lib.hid (show ((ks0.take (k + 1)).map tv).length = (k + 1) * 1 by rw [List.length_map, List.length_take]; omega)
      have HLc := Lib.hid (show ((ks0.drop (k + 1)).map tv).length = (ks0.length - (k + 1)) * 1 by rw [List.length_map, List.length_drop, Nat.mul_one])
      have HOa := Lib.hid (show ∀ u ∈ (ks0.take (k + 1)).map tv, u.oneCell' = true from fun u hu => by obtain ⟨s, _, rfl⟩ := List.mem_map.1 hu; rfl)
      have HOc := Lib.hid (show ∀ u ∈ (ks0.drop (k + 1)).map tv, u.oneCell' = true from fun u hu => by obtain ⟨s, _, rfl⟩ := List.mem_map.1 hu; rfl)
      have HI1 := Lib.hid (show ∀ u ∈ [tv mk], u.oneCell' = true from fun u hu => by rw [List.mem_singleton.1 hu]; rfl)
      have HCa := Lib.hid (show ∀ j u, ((ks0.take (k + 1)).map tv)[j]? = some u → w8.cell? ⟨g, 0 + j, none⟩ = some u from fun j u hu => by
        rw [Nat.zero_add]
        refine hcg j u ?_
        rw [List.map_take, List.getElem?_take] at hu
        split at hu
        · exact hu
        · cases hu)
      obtain ⟨oA, hif, hcc⟩ : ∃ oA : Nat, (if gc = k + 1 then some (⟨g, 0, none⟩ : Addr) else some ⟨g, k + 1, none⟩) = some ⟨g, oA, none⟩ ∧ ∀ j u, ((ks0.drop (k + 1)).map tv)[j]? = some u → w8.cell? ⟨g, oA + j, none⟩ = some u := by
        by_cases hq : gc = k + 1
        · refine ⟨0, if_pos hq, fun j u hu => ?_⟩
          rw [List.drop_eq_nil_of_le (by omega)] at hu
          simp at hu
        · refine ⟨k + 1, if_neg hq, fun j u hu => hcg (k + 1 + j) u ?_⟩
          rw [List.map_drop, List.getElem?_drop] at hu
          exact hu
      have HAV := Lib.hid hif
      have HCc := Lib.hid hcc
      obtain ⟨ks1, hks1⟩ : ∃ l, l = ks0.take (k + 1) ++ [mk] ++ ks0.drop (k + 1) := ⟨_, rfl⟩
      have hnl : 0 < ks1.length := by rw [hks1]; simp only [List.length_append, List.length_cons]; omega
      have HNL := Lib.hid (show ∀ (v : Value) (W : World), W.ownsRow w8.heap.size StrT 1 v (k + 1 + 1 + (ks0.length - (k + 1))) ((ks0.take (k + 1)).map tv ++ [tv mk] ++ (ks0.drop (k + 1)).map tv) → W.ownsRow w8.heap.size StrT 1 v ks1.length (ks1.map tv) from fun v W h => by
        rw [hks1]
        have e1 : (ks0.take (k + 1) ++ [mk] ++ ks0.drop (k + 1)).length = k + 1 + 1 + (ks0.length - (k + 1)) := by simp only [List.length_append, List.length_take, List.length_drop, List.length_cons, List.length_nil]; omega
        rw [e1]
        simpa only [List.map_append, List.map_cons, List.map_nil] using h)
      have e2 : w8.cell? ⟨b16, 2, none⟩ = some (.slice (some ⟨g, 0, none⟩) ks0.length gc) := Q.out.bh.cell 2
      have f2 := Q.out.bh.frozen 2
      have hw1 : IntKind.i64.wrap ((k : Int) + 1) = (k : Int) + 1 := by simp [IntKind.wrap_i64]; omega
      have hw2 : ((k : Int) + 1).toNat = k + 1 := by omega
      have hw3 : 0 ≤ (k : Int) + 1 := by omega
      have hw4 : (k : Int) + 1 ≤ (gc : Int) := by omega
      have hw5 : (k : Int) + 1 ≤ (ks0.length : Int) := by omega
      have hw6 : k + 1 ≤ ks0.length := by omega
      have HEks1 := Lib.hid hks1
      clear hcg hif hcc hks1
      have HCL1' := Lib.hid hkL0
      have HIL' := Lib.hid hil
      clear hkL0 hil
      go_cut [] (fun W => ∃ g gc, Hid (QkS w6 W b16 g gc dd dc ks1 is1))
      case first =>
        as_aux_lemma =>
          refine wp_region_in 17 16 (fun W => Below w8.heap.size w8 W) (by kernel_rfl) rfl ?_
          refine wpIn_take 0 (.pointer (some ⟨b16, 2, none⟩)) rfl (by kernel_rfl) (by kernel_rfl) (by kernel_rfl) (by kernel_rfl) (by kernel_rfl) (by rfl) (fun _ _ _ h => h) ((Below.refl w8.heap.size w8).drew) (fun W hW => by go_simp; all_goals first | with_reducible rfl | rfl) ?_
          simp only [List.getElem_toArray, List.getElem_cons_zero, List.getElem_cons_succ, Act.put, List.setIfInBounds_toArray, List.set_cons_succ, List.set_cons_zero]
          refine wpIn_take 1 (.slice (some ⟨g, 0, none⟩) ks0.length gc) rfl (by kernel_rfl) (by kernel_rfl) (by kernel_rfl) (by kernel_rfl) (by kernel_rfl) (by rfl) (fun _ _ _ h => h) ((Below.refl w8.heap.size w8).drew) (fun W hW => by have hc := (hW.cell (p := ⟨b16, 2, none⟩) hb16).trans e2; go_simp; all_goals first | with_reducible rfl | rfl) ?_
          simp only [List.getElem_toArray, List.getElem_cons_zero, List.getElem_cons_succ, Act.put, List.setIfInBounds_toArray, List.set_cons_succ, List.set_cons_zero]
          refine wpIn_take 2 (.int .i64 (k : Int)) rfl (by kernel_rfl) (by kernel_rfl) (by kernel_rfl) (by kernel_rfl) (by kernel_rfl) (by rfl) (fun _ _ _ h => h) ((Below.refl w8.heap.size w8).drew) (fun W hW => by go_simp; all_goals first | with_reducible rfl | rfl) ?_
          simp only [List.getElem_toArray, List.getElem_cons_zero, List.getElem_cons_succ, Act.put, List.setIfInBounds_toArray, List.set_cons_succ, List.set_cons_zero]
          refine wpIn_take 3 (.int .i64 ((k : Int) + 1)) rfl (by kernel_rfl) (by kernel_rfl) (by kernel_rfl) (by kernel_rfl) (by kernel_rfl) (by rfl) (fun _ _ _ h => h) ((Below.refl w8.heap.size w8).drew) (fun W hW => by go_simp; all_goals first | with_reducible rfl | rfl) ?_
          simp only [List.getElem_toArray, List.getElem_cons_zero, List.getElem_cons_succ, Act.put, List.setIfInBounds_toArray, List.set_cons_succ, List.set_cons_zero]
          refine wpIn_take 4 (.slice (some ⟨g, 0, none⟩) (k + 1) gc) rfl (by kernel_rfl) (by kernel_rfl) (by kernel_rfl) (by kernel_rfl) (by kernel_rfl) (by rfl) (fun _ _ _ h => h) ((Below.refl w8.heap.size w8).drew) (fun W hW => by go_simp; all_goals first | with_reducible rfl | rfl) ?_
          simp only [List.getElem_toArray, List.getElem_cons_zero, List.getElem_cons_succ, Act.put, List.setIfInBounds_toArray, List.set_cons_succ, List.set_cons_zero]
          refine wpIn_take 6 (.string ⟨mk.toArray⟩) rfl (by kernel_rfl) (by kernel_rfl) (by kernel_rfl) (by kernel_rfl) (by kernel_rfl) (by rfl) (fun _ _ _ h => h) ((Below.refl w8.heap.size w8).drew) (fun W hW => by go_simp; all_goals first | with_reducible rfl | rfl) ?_
          simp only [List.getElem_toArray, List.getElem_cons_zero, List.getElem_cons_succ, Act.put, List.setIfInBounds_toArray, List.set_cons_succ, List.set_cons_zero]
          refine wpIn_take 9 (.pointer (some ⟨b16, 2, none⟩)) rfl (by kernel_rfl) (by kernel_rfl) (by kernel_rfl) (by kernel_rfl) (by kernel_rfl) (by rfl) (fun _ _ _ h => h) ((Below.refl w8.heap.size w8).drew) (fun W hW => by go_simp; all_goals first | with_reducible rfl | rfl) ?_
          simp only [List.getElem_toArray, List.getElem_cons_zero, List.getElem_cons_succ, Act.put, List.setIfInBounds_toArray, List.set_cons_succ, List.set_cons_zero]
          refine wpIn_take 10 (.slice (some ⟨g, 0, none⟩) ks0.length gc) rfl (by kernel_rfl) (by kernel_rfl) (by kernel_rfl) (by kernel_rfl) (by kernel_rfl) (by rfl) (fun _ _ _ h => h) ((Below.refl w8.heap.size w8).drew) (fun W hW => by have hc := (hW.cell (p := ⟨b16, 2, none⟩) hb16).trans e2; go_simp; all_goals first | with_reducible rfl | rfl) ?_
          simp only [List.getElem_toArray, List.getElem_cons_zero, List.getElem_cons_succ, Act.put, List.setIfInBounds_toArray, List.set_cons_succ, List.set_cons_zero]
          refine wpIn_take 11 (.int .i64 (k : Int)) rfl (by kernel_rfl) (by kernel_rfl) (by kernel_rfl) (by kernel_rfl) (by kernel_rfl) (by rfl) (fun _ _ _ h => h) ((Below.refl w8.heap.size w8).drew) (fun W hW => by go_simp; all_goals first | with_reducible rfl | rfl) ?_
          simp only [List.getElem_toArray, List.getElem_cons_zero, List.getElem_cons_succ, Act.put, List.setIfInBounds_toArray, List.set_cons_succ, List.set_cons_zero]
          refine wpIn_take 12 (.int .i64 ((k : Int) + 1)) rfl (by kernel_rfl) (by kernel_rfl) (by kernel_rfl) (by kernel_rfl) (by kernel_rfl) (by rfl) (fun _ _ _ h => h) ((Below.refl w8.heap.size w8).drew) (fun W hW => by go_simp; all_goals first | with_reducible rfl | rfl) ?_
          simp only [List.getElem_toArray, List.getElem_cons_zero, List.getElem_cons_succ, Act.put, List.setIfInBounds_toArray, List.set_cons_succ, List.set_cons_zero]
          refine wpIn_take 13 (.slice (some ⟨g, oA, none⟩) (ks0.length - (k + 1)) (gc - (k + 1))) rfl (by kernel_rfl) (by kernel_rfl) (by kernel_rfl) (by kernel_rfl) (by kernel_rfl) (by rfl) (fun _ _ _ h => h) ((Below.refl w8.heap.size w8).drew) (fun W hW => by go_simp; all_goals first | with_reducible rfl | rfl | exact HAV.out | (simp only [HAV.out]; done)) ?_
          simp only [List.getElem_toArray, List.getElem_cons_zero, List.getElem_cons_succ, Act.put, List.setIfInBounds_toArray, List.set_cons_succ, List.set_cons_zero]
          refine wpIn_two 5 7 rfl rfl (by kernel_rfl) (fun _ => ((Below.refl w8.heap.size w8).drew)) (by rfl) (by rfl) ?_ ?_
          · refine wp_append_own _ (.const (.slice none 0 0)) (.tmp 92) _ rfl w8.heap.size StrT i0 _ 1 16 Tryz.underlying31 hii0 hz0 hz1 hz2 rfl (by decide) (.slice none 0 0) 0 [] rfl (own_nil _ _ _ _) ⟨g, 0, none⟩ (k + 1) gc ((ks0.take (k + 1)).map tv) rfl HLa.out (cells_keep (w := w8) ((Below.refl w8.heap.size w8).drew) hgw HCa.out) HOa.out (by simp only [maxLen]; omega) (by omega) (Nat.le_refl _) ?_
            intro v2 w2 hown2 hgr2 hnil2
            replace hown2 : w2.ownsRow w8.heap.size StrT 1 v2 (k + 1) ((ks0.take (k + 1)).map tv) := by simpa using hown2
            obtain ⟨g1, cap1, rfl, hg1, _⟩ := own_some hown2 (Nat.succ_pos k)
            have hb1 := grown_below hgr2
            have hB2 : Below w8.heap.size w8 w2 := ((Below.refl w8.heap.size w8).drew).trans (hb1.mono (Nat.le_refl _))
            have HO2 := Lib.hid hown2
            have hz2w := hB2.size
            clear hown2 hgr2 hnil2
            simp only [List.getElem_toArray, List.getElem_cons_zero, List.getElem_cons_succ, Act.put, List.setIfInBounds_toArray, List.set_cons_succ, List.set_cons_zero]
            refine wpIn_one 7 rfl (by kernel_rfl) (fun _ => hB2) (by rfl) ?_
            go_simp
            refine wpIn_one 8 rfl (by kernel_rfl) (fun _ => (hB2.alloc hz2w _)) (by rfl) ?_
            refine wp_append_own _ (.tmp 93) (.tmp 95) _ rfl w8.heap.size StrT i0 _ 1 16 Tryz.underlying31 hii0 hz0 hz1 hz2 rfl (by decide) (.slice (some ⟨g1, 0, none⟩) (k + 1) cap1) (k + 1) ((ks0.take (k + 1)).map tv) rfl (own_chg2 (S := NoM) HO2.out ((Chg.refl _ _).alloc (.cells #[.string ⟨mk.toArray⟩] StrT)) (fun _ _ h => h)) ⟨w2.heap.size, 0, none⟩ 1 1 [tv mk] rfl rfl (cells_new w2 StrT [tv mk]) HI1.out (by simp only [maxLen]; omega) (by omega) (Below.size (hB2.alloc hz2w _)) ?_
            intro v3 w3 hown3 hgr3 hnil3
            obtain ⟨g2, cap2, rfl, _, _⟩ := own_some hown3 (Nat.succ_pos _)
            have hB3 : Below w8.heap.size w8 w3 := (hB2.alloc hz2w _).trans (grown_own (own_chg2 (S := NoM) HO2.out ((Chg.refl _ _).alloc (.cells #[.string ⟨mk.toArray⟩] StrT)) (fun _ _ h => h)) (Below.size (hB2.alloc hz2w _)) hgr3)
            have HO3 := Lib.hid hown3
            have hz3w := hB3.size
            clear hown3 hgr3 hnil3
            simp only [List.getElem_toArray, List.getElem_cons_zero, List.getElem_cons_succ, Act.put, List.setIfInBounds_toArray, List.set_cons_succ, List.set_cons_zero]
            refine wpIn_one 14 rfl (by kernel_rfl) (fun _ => hB3) (by rfl) ?_
            refine wp_append_own _ (.tmp 96) (.tmp 101) _ rfl w8.heap.size StrT i0 _ 1 16 Tryz.underlying31 hii0 hz0 hz1 hz2 rfl (by decide) (.slice (some ⟨g2, 0, none⟩) (k + 1 + 1) cap2) (k + 1 + 1) ((ks0.take (k + 1)).map tv ++ [tv mk]) rfl HO3.out ⟨g, oA, none⟩ (ks0.length - (k + 1)) (gc - (k + 1)) ((ks0.drop (k + 1)).map tv) rfl HLc.out (cells_keep (w := w8) hB3 hgw HCc.out) HOc.out (by simp only [maxLen]; omega) (by omega) hz3w ?_
            intro v4 w4 hown4 hgr4 hnil4
            replace hown4 := HNL.out v4 w4 hown4
            obtain ⟨g4, cap4, rfl, _, _⟩ := own_some hown4 hnl
            have hB4 : Below w8.heap.size w8 w4 := hB3.trans (grown_own HO3.out hz3w hgr4)
            have HO4 := Lib.hid hown4
            have f5 := (hB4.frozen (p := ⟨b16, 2, none⟩) hb16).trans f2
            have e5 := (hB4.cell (p := ⟨b16, 2, none⟩) hb16).trans e2
            clear hown4 hgr4 hnil4
            simp only [List.getElem_toArray, List.getElem_cons_zero, List.getElem_cons_succ, Act.put, List.setIfInBounds_toArray, List.set_cons_succ, List.set_cons_zero]
            refine wpIn_take 15 (.pointer (some ⟨b16, 2, none⟩)) rfl (by kernel_rfl) (by kernel_rfl) (by kernel_rfl) (by kernel_rfl) (by kernel_rfl) (by rfl) (fun _ _ _ h => h) hB4 (fun W hW => by go_simp; all_goals first | with_reducible rfl | rfl) ?_
            simp only [List.getElem_toArray, List.getElem_cons_zero, List.getElem_cons_succ, Act.put, List.setIfInBounds_toArray, List.set_cons_succ, List.set_cons_zero]
            refine wpIn_one 16 rfl (by kernel_rfl) (fun _ => hB4) (by rfl) ?_
            go_simp
            refine wpIn_done (by kernel_rfl) (by kernel_rfl) ?_ _
            simp only [Exit.then]
            refine ‹∀ (a' : Act) (w' : World), Met _ a' w' → _› _ _ ?_
            go_meet
            case rel => exact ⟨g4, cap4, Lib.hid (QkS.keys Q.out hB4 HO4.out)⟩
          · go_simp
            refine wpIn_one 5 rfl (by kernel_rfl) (fun _ => (((Below.refl w8.heap.size w8).alloc (Nat.le_refl _) (.cells #[.string ⟨mk.toArray⟩] StrT)).drew)) (by rfl) ?_
            refine wp_append_own _ (.const (.slice none 0 0)) (.tmp 92) _ rfl w8.heap.size StrT i0 _ 1 16 Tryz.underlying31 hii0 hz0 hz1 hz2 rfl (by decide) (.slice none 0 0) 0 [] rfl (own_nil _ _ _ _) ⟨g, 0, none⟩ (k + 1) gc ((ks0.take (k + 1)).map tv) rfl HLa.out (cells_keep (w := w8) (((Below.refl w8.heap.size w8).alloc (Nat.le_refl _) (.cells #[.string ⟨mk.toArray⟩] StrT)).drew) hgw HCa.out) HOa.out (by simp only [maxLen]; omega) (by omega) (Below.size (((Below.refl w8.heap.size w8).alloc (Nat.le_refl _) (.cells #[.string ⟨mk.toArray⟩] StrT)).drew)) ?_
            intro v2 w2 hown2 hgr2 hnil2
            replace hown2 : w2.ownsRow w8.heap.size StrT 1 v2 (k + 1) ((ks0.take (k + 1)).map tv) := by simpa using hown2
            obtain ⟨g1, cap1, rfl, hg1, _⟩ := own_some hown2 (Nat.succ_pos k)
            have hb1 := grown_below hgr2
            have hB2 : Below w8.heap.size w8 w2 := (((Below.refl w8.heap.size w8).alloc (Nat.le_refl _) (.cells #[.string ⟨mk.toArray⟩] StrT)).drew).trans (hb1.mono (Below.size (((Below.refl w8.heap.size w8).alloc (Nat.le_refl _) (.cells #[.string ⟨mk.toArray⟩] StrT)).drew)))
            have HO2 := Lib.hid hown2
            have hz2w := hB2.size
            clear hown2 hgr2 hnil2
            simp only [List.getElem_toArray, List.getElem_cons_zero, List.getElem_cons_succ, Act.put, List.setIfInBounds_toArray, List.set_cons_succ, List.set_cons_zero]
            refine wpIn_one 8 rfl (by kernel_rfl) (fun _ => hB2) (by rfl) ?_
            refine wp_append_own _ (.tmp 93) (.tmp 95) _ rfl w8.heap.size StrT i0 _ 1 16 Tryz.underlying31 hii0 hz0 hz1 hz2 rfl (by decide) (.slice (some ⟨g1, 0, none⟩) (k + 1) cap1) (k + 1) ((ks0.take (k + 1)).map tv) rfl HO2.out ⟨w8.heap.size, 0, none⟩ 1 1 [tv mk] rfl rfl (cell_one_keepD hb1) HI1.out (by simp only [maxLen]; omega) (by omega) hz2w ?_
            intro v3 w3 hown3 hgr3 hnil3
            obtain ⟨g2, cap2, rfl, _, _⟩ := own_some hown3 (Nat.succ_pos _)
            have hB3 : Below w8.heap.size w8 w3 := hB2.trans (grown_own HO2.out hz2w hgr3)
            have HO3 := Lib.hid hown3
            have hz3w := hB3.size
            clear hown3 hgr3 hnil3
            simp only [List.getElem_toArray, List.getElem_cons_zero, List.getElem_cons_succ, Act.put, List.setIfInBounds_toArray, List.set_cons_succ, List.set_cons_zero]
            refine wpIn_one 14 rfl (by kernel_rfl) (fun _ => hB3) (by rfl) ?_
            refine wp_append_own _ (.tmp 96) (.tmp 101) _ rfl w8.heap.size StrT i0 _ 1 16 Tryz.underlying31 hii0 hz0 hz1 hz2 rfl (by decide) (.slice (some ⟨g2, 0, none⟩) (k + 1 + 1) cap2) (k + 1 + 1) ((ks0.take (k + 1)).map tv ++ [tv mk]) rfl HO3.out ⟨g, oA, none⟩ (ks0.length - (k + 1)) (gc - (k + 1)) ((ks0.drop (k + 1)).map tv) rfl HLc.out (cells_keep (w := w8) hB3 hgw HCc.out) HOc.out (by simp only [maxLen]; omega) (by omega) hz3w ?_
            intro v4 w4 hown4 hgr4 hnil4
            replace hown4 := HNL.out v4 w4 hown4
            obtain ⟨g4, cap4, rfl, _, _⟩ := own_some hown4 hnl
            have hB4 : Below w8.heap.size w8 w4 := hB3.trans (grown_own HO3.out hz3w hgr4)
            have HO4 := Lib.hid hown4
            have f5 := (hB4.frozen (p := ⟨b16, 2, none⟩) hb16).trans f2
            have e5 := (hB4.cell (p := ⟨b16, 2, none⟩) hb16).trans e2
            clear hown4 hgr4 hnil4
            simp only [List.getElem_toArray, List.getElem_cons_zero, List.getElem_cons_succ, Act.put, List.setIfInBounds_toArray, List.set_cons_succ, List.set_cons_zero]
            refine wpIn_take 15 (.pointer (some ⟨b16, 2, none⟩)) rfl (by kernel_rfl) (by kernel_rfl) (by kernel_rfl) (by kernel_rfl) (by kernel_rfl) (by rfl) (fun _ _ _ h => h) hB4 (fun W hW => by go_simp; all_goals first | with_reducible rfl | rfl) ?_
            simp only [List.getElem_toArray, List.getElem_cons_zero, List.getElem_cons_succ, Act.put, List.setIfInBounds_toArray, List.set_cons_succ, List.set_cons_zero]
            refine wpIn_one 16 rfl (by kernel_rfl) (fun _ => hB4) (by rfl) ?_
            go_simp
            refine wpIn_done (by kernel_rfl) (by kernel_rfl) ?_ _
            simp only [Exit.then]
            refine ‹∀ (a' : Act) (w' : World), Met _ a' w' → _› _ _ ?_
            go_meet
            case rel => exact ⟨g4, cap4, Lib.hid (QkS.keys Q.out hB4 HO4.out)⟩
      case rest =>
        obtain ⟨g', gc', Q2⟩ := hcut
        obtain ⟨w9, rfl⟩ : ∃ W, W = wc := ⟨_, rfl⟩
        replace Q := Q2
        go_upto_region 19 with fail
        clear Q2 hgw hcb hca hb16 hkL h4L HLa HLc HOa HOc HI1 HCa HAV HCc hnl HNL e2 f2 oA hw1 hw2 hw3 hw4 hw5 hw6
        have hil := HIL'.out
        have hgw : dd < w9.heap.size := (own_blk_lt Q.out.od).elim fun _ h => Blk.lt h
        have hcg := own_cells Q.out.od
        obtain ⟨hca, hcb⟩ := own_cap Q.out.od
        simp only [maxLen] at hcb
        have hb16 : b16 < w9.heap.size := Q.out.bh.lt
        have hkL : k < is1.length := by omega
        have h4L : is1.length ≤ 4 := by omega
        have HLa := Lib.hid (show ((is1.take (k + 1)).map iv).length = (k + 1) * 1 by rw [List.length_map, List.length_take]; omega)
        have HLc := Lib.hid (show ((is1.drop (k + 1)).map iv).length = (is1.length - (k + 1)) * 1 by rw [List.length_map, List.length_drop, Nat.mul_one])
        have HOa := Lib.hid (show ∀ u ∈ (is1.take (k + 1)).map iv, u.oneCell' = true from fun u hu => by obtain ⟨s, _, rfl⟩ := List.mem_map.1 hu; rfl)
        have HOc := Lib.hid (show ∀ u ∈ (is1.drop (k + 1)).map iv, u.oneCell' = true from fun u hu => by obtain ⟨s, _, rfl⟩ := List.mem_map.1 hu; rfl)
        have HI1 := Lib.hid (show ∀ u ∈ [iv ((mid : Nat) : Int)], u.oneCell' = true from fun u hu => by rw [List.mem_singleton.1 hu]; rfl)
        have HCa := Lib.hid (show ∀ j u, ((is1.take (k + 1)).map iv)[j]? = some u → w9.cell? ⟨dd, 0 + j, none⟩ = some u from fun j u hu => by
          rw [Nat.zero_add]
          refine hcg j u ?_
          rw [List.map_take, List.getElem?_take] at hu
          split at hu
          · exact hu
          · cases hu)
        obtain ⟨oA, hif, hcc⟩ : ∃ oA : Nat, (if dc = k + 1 then some (⟨dd, 0, none⟩ : Addr) else some ⟨dd, k + 1, none⟩) = some ⟨dd, oA, none⟩ ∧ ∀ j u, ((is1.drop (k + 1)).map iv)[j]? = some u → w9.cell? ⟨dd, oA + j, none⟩ = some u := by
          by_cases hq : dc = k + 1
          · refine ⟨0, if_pos hq, fun j u hu => ?_⟩
            rw [List.drop_eq_nil_of_le (by omega)] at hu
            simp at hu
          · refine ⟨k + 1, if_neg hq, fun j u hu => hcg (k + 1 + j) u ?_⟩
            rw [List.map_drop, List.getElem?_drop] at hu
            exact hu
        have HAV := Lib.hid hif
        have HCc := Lib.hid hcc
        obtain ⟨is2, his2⟩ : ∃ l, l = is1.take (k + 1) ++ [((mid : Nat) : Int)] ++ is1.drop (k + 1) := ⟨_, rfl⟩
        have hnl : 0 < is2.length := by rw [his2]; simp only [List.length_append, List.length_cons]; omega
        have HNL := Lib.hid (show ∀ (v : Value) (W : World), W.ownsRow w9.heap.size IntT 1 v (k + 1 + 1 + (is1.length - (k + 1))) ((is1.take (k + 1)).map iv ++ [iv ((mid : Nat) : Int)] ++ (is1.drop (k + 1)).map iv) → W.ownsRow w9.heap.size IntT 1 v is2.length (is2.map iv) from fun v W h => by
          rw [his2]
          have e1 : (is1.take (k + 1) ++ [((mid : Nat) : Int)] ++ is1.drop (k + 1)).length = k + 1 + 1 + (is1.length - (k + 1)) := by simp only [List.length_append, List.length_take, List.length_drop, List.length_cons, List.length_nil]; omega
          rw [e1]
          simpa only [List.map_append, List.map_cons, List.map_nil] using h)
        have e3 : w9.cell? ⟨b16, 3, none⟩ = some (.slice (some ⟨dd, 0, none⟩) is1.length dc) := Q.out.bh.cell 3
        have f3 := Q.out.bh.frozen 3
        have hw1 : IntKind.i64.wrap ((k : Int) + 1) = (k : Int) + 1 := by simp [IntKind.wrap_i64]; omega
        have hw2 : ((k : Int) + 1).toNat = k + 1 := by omega
        have hw3 : 0 ≤ (k : Int) + 1 := by omega
        have hw4 : (k : Int) + 1 ≤ (dc : Int) := by omega
        have hw5 : (k : Int) + 1 ≤ (is1.length : Int) := by omega
        have hw6 : k + 1 ≤ is1.length := by omega
        have HEis2 := Lib.hid his2
        clear hcg hif hcc his2
        have HIL2 := Lib.hid hil
        clear hil HIL'
        as_aux_lemma =>
          refine wp_region_in 17 16 (fun W => Below w9.heap.size w9 W) (by kernel_rfl) rfl ?_
          refine wpIn_take 0 (.pointer (some ⟨b16, 3, none⟩)) rfl (by kernel_rfl) (by kernel_rfl) (by kernel_rfl) (by kernel_rfl) (by kernel_rfl) (by rfl) (fun _ _ _ h => h) ((Below.refl w9.heap.size w9).drew) (fun W hW => by go_simp; all_goals first | with_reducible rfl | rfl) ?_
          simp only [List.getElem_toArray, List.getElem_cons_zero, List.getElem_cons_succ, Act.put, List.setIfInBounds_toArray, List.set_cons_succ, List.set_cons_zero]
          refine wpIn_take 1 (.slice (some ⟨dd, 0, none⟩) is1.length dc) rfl (by kernel_rfl) (by kernel_rfl) (by kernel_rfl) (by kernel_rfl) (by kernel_rfl) (by rfl) (fun _ _ _ h => h) ((Below.refl w9.heap.size w9).drew) (fun W hW => by have hc := (hW.cell (p := ⟨b16, 3, none⟩) hb16).trans e3; go_simp; all_goals first | with_reducible rfl | rfl) ?_
          simp only [List.getElem_toArray, List.getElem_cons_zero, List.getElem_cons_succ, Act.put, List.setIfInBounds_toArray, List.set_cons_succ, List.set_cons_zero]
          refine wpIn_take 2 (.int .i64 (k : Int)) rfl (by kernel_rfl) (by kernel_rfl) (by kernel_rfl) (by kernel_rfl) (by kernel_rfl) (by rfl) (fun _ _ _ h => h) ((Below.refl w9.heap.size w9).drew) (fun W hW => by go_simp; all_goals first | with_reducible rfl | rfl) ?_
          simp only [List.getElem_toArray, List.getElem_cons_zero, List.getElem_cons_succ, Act.put, List.setIfInBounds_toArray, List.set_cons_succ, List.set_cons_zero]
          refine wpIn_take 3 (.int .i64 ((k : Int) + 1)) rfl (by kernel_rfl) (by kernel_rfl) (by kernel_rfl) (by kernel_rfl) (by kernel_rfl) (by rfl) (fun _ _ _ h => h) ((Below.refl w9.heap.size w9).drew) (fun W hW => by go_simp; all_goals first | with_reducible rfl | rfl) ?_
          simp only [List.getElem_toArray, List.getElem_cons_zero, List.getElem_cons_succ, Act.put, List.setIfInBounds_toArray, List.set_cons_succ, List.set_cons_zero]
          refine wpIn_take 4 (.slice (some ⟨dd, 0, none⟩) (k + 1) dc) rfl (by kernel_rfl) (by kernel_rfl) (by kernel_rfl) (by kernel_rfl) (by kernel_rfl) (by rfl) (fun _ _ _ h => h) ((Below.refl w9.heap.size w9).drew) (fun W hW => by go_simp; all_goals first | with_reducible rfl | rfl) ?_
          simp only [List.getElem_toArray, List.getElem_cons_zero, List.getElem_cons_succ, Act.put, List.setIfInBounds_toArray, List.set_cons_succ, List.set_cons_zero]
          refine wpIn_take 6 (.int .i64 ((mid : Nat) : Int)) rfl (by kernel_rfl) (by kernel_rfl) (by kernel_rfl) (by kernel_rfl) (by kernel_rfl) (by rfl) (fun _ _ _ h => h) ((Below.refl w9.heap.size w9).drew) (fun W hW => by go_simp; all_goals first | with_reducible rfl | rfl) ?_
          simp only [List.getElem_toArray, List.getElem_cons_zero, List.getElem_cons_succ, Act.put, List.setIfInBounds_toArray, List.set_cons_succ, List.set_cons_zero]
          refine wpIn_take 9 (.pointer (some ⟨b16, 3, none⟩)) rfl (by kernel_rfl) (by kernel_rfl) (by kernel_rfl) (by kernel_rfl) (by kernel_rfl) (by rfl) (fun _ _ _ h => h) ((Below.refl w9.heap.size w9).drew) (fun W hW => by go_simp; all_goals first | with_reducible rfl | rfl) ?_
          simp only [List.getElem_toArray, List.getElem_cons_zero, List.getElem_cons_succ, Act.put, List.setIfInBounds_toArray, List.set_cons_succ, List.set_cons_zero]
          refine wpIn_take 10 (.slice (some ⟨dd, 0, none⟩) is1.length dc) rfl (by kernel_rfl) (by kernel_rfl) (by kernel_rfl) (by kernel_rfl) (by kernel_rfl) (by rfl) (fun _ _ _ h => h) ((Below.refl w9.heap.size w9).drew) (fun W hW => by have hc := (hW.cell (p := ⟨b16, 3, none⟩) hb16).trans e3; go_simp; all_goals first | with_reducible rfl | rfl) ?_
          simp only [List.getElem_toArray, List.getElem_cons_zero, List.getElem_cons_succ, Act.put, List.setIfInBounds_toArray, List.set_cons_succ, List.set_cons_zero]
          refine wpIn_take 11 (.int .i64 (k : Int)) rfl (by kernel_rfl) (by kernel_rfl) (by kernel_rfl) (by kernel_rfl) (by kernel_rfl) (by rfl) (fun _ _ _ h => h) ((Below.refl w9.heap.size w9).drew) (fun W hW => by go_simp; all_goals first | with_reducible rfl | rfl) ?_
          simp only [List.getElem_toArray, List.getElem_cons_zero, List.getElem_cons_succ, Act.put, List.setIfInBounds_toArray, List.set_cons_succ, List.set_cons_zero]
          refine wpIn_take 12 (.int .i64 ((k : Int) + 1)) rfl (by kernel_rfl) (by kernel_rfl) (by kernel_rfl) (by kernel_rfl) (by kernel_rfl) (by rfl) (fun _ _ _ h => h) ((Below.refl w9.heap.size w9).drew) (fun W hW => by go_simp; all_goals first | with_reducible rfl | rfl) ?_
          simp only [List.getElem_toArray, List.getElem_cons_zero, List.getElem_cons_succ, Act.put, List.setIfInBounds_toArray, List.set_cons_succ, List.set_cons_zero]
          refine wpIn_take 13 (.slice (some ⟨dd, oA, none⟩) (is1.length - (k + 1)) (dc - (k + 1))) rfl (by kernel_rfl) (by kernel_rfl) (by kernel_rfl) (by kernel_rfl) (by kernel_rfl) (by rfl) (fun _ _ _ h => h) ((Below.refl w9.heap.size w9).drew) (fun W hW => by go_simp; all_goals first | with_reducible rfl | rfl | exact HAV.out | (simp only [HAV.out]; done)) ?_
          simp only [List.getElem_toArray, List.getElem_cons_zero, List.getElem_cons_succ, Act.put, List.setIfInBounds_toArray, List.set_cons_succ, List.set_cons_zero]
          refine wpIn_two 5 7 rfl rfl (by kernel_rfl) (fun _ => ((Below.refl w9.heap.size w9).drew)) (by rfl) (by rfl) ?_ ?_
          · refine wp_append_own _ (.const (.slice none 0 0)) (.tmp 108) _ rfl w9.heap.size IntT i1 _ 1 8 Tryz.underlying32 hii1 hy0 hy1 hy2 rfl (by decide) (.slice none 0 0) 0 [] rfl (own_nil _ _ _ _) ⟨dd, 0, none⟩ (k + 1) dc ((is1.take (k + 1)).map iv) rfl HLa.out (cells_keep (w := w9) ((Below.refl w9.heap.size w9).drew) hgw HCa.out) HOa.out (by simp only [maxLen]; omega) (by omega) (Nat.le_refl _) ?_
            intro v2 w2 hown2 hgr2 hnil2
            replace hown2 : w2.ownsRow w9.heap.size IntT 1 v2 (k + 1) ((is1.take (k + 1)).map iv) := by simpa using hown2
            obtain ⟨g1, cap1, rfl, hg1, _⟩ := own_some hown2 (Nat.succ_pos k)
            have hb1 := grown_below hgr2
            have hB2 : Below w9.heap.size w9 w2 := ((Below.refl w9.heap.size w9).drew).trans (hb1.mono (Nat.le_refl _))
            have HO2 := Lib.hid hown2
            have hz2w := hB2.size
            clear hown2 hgr2 hnil2
            simp only [List.getElem_toArray, List.getElem_cons_zero, List.getElem_cons_succ, Act.put, List.setIfInBounds_toArray, List.set_cons_succ, List.set_cons_zero]
            refine wpIn_one 7 rfl (by kernel_rfl) (fun _ => hB2) (by rfl) ?_
            go_simp
            refine wpIn_one 8 rfl (by kernel_rfl) (fun _ => (hB2.alloc hz2w _)) (by rfl) ?_
            refine wp_append_own _ (.tmp 109) (.tmp 111) _ rfl w9.heap.size IntT i1 _ 1 8 Tryz.underlying32 hii1 hy0 hy1 hy2 rfl (by decide) (.slice (some ⟨g1, 0, none⟩) (k + 1) cap1) (k + 1) ((is1.take (k + 1)).map iv) rfl (own_chg2 (S := NoM) HO2.out ((Chg.refl _ _).alloc (.cells #[.int .i64 ((mid : Nat) : Int)] IntT)) (fun _ _ h => h)) ⟨w2.heap.size, 0, none⟩ 1 1 [iv ((mid : Nat) : Int)] rfl rfl (cells_new w2 IntT [iv ((mid : Nat) : Int)]) HI1.out (by simp only [maxLen]; omega) (by omega) (Below.size (hB2.alloc hz2w _)) ?_
            intro v3 w3 hown3 hgr3 hnil3
            obtain ⟨g2, cap2, rfl, _, _⟩ := own_some hown3 (Nat.succ_pos _)
            have hB3 : Below w9.heap.size w9 w3 := (hB2.alloc hz2w _).trans (grown_own (own_chg2 (S := NoM) HO2.out ((Chg.refl _ _).alloc (.cells #[.int .i64 ((mid : Nat) : Int)] IntT)) (fun _ _ h => h)) (Below.size (hB2.alloc hz2w _)) hgr3)
            have HO3 := Lib.hid hown3
            have hz3w := hB3.size
            clear hown3 hgr3 hnil3
            simp only [List.getElem_toArray, List.getElem_cons_zero, List.getElem_cons_succ, Act.put, List.setIfInBounds_toArray, List.set_cons_succ, List.set_cons_zero]
            refine wpIn_one 14 rfl (by kernel_rfl) (fun _ => hB3) (by rfl) ?_
            refine wp_append_own _ (.tmp 112) (.tmp 117) _ rfl w9.heap.size IntT i1 _ 1 8 Tryz.underlying32 hii1 hy0 hy1 hy2 rfl (by decide) (.slice (some ⟨g2, 0, none⟩) (k + 1 + 1) cap2) (k + 1 + 1) ((is1.take (k + 1)).map iv ++ [iv ((mid : Nat) : Int)]) rfl HO3.out ⟨dd, oA, none⟩ (is1.length - (k + 1)) (dc - (k + 1)) ((is1.drop (k + 1)).map iv) rfl HLc.out (cells_keep (w := w9) hB3 hgw HCc.out) HOc.out (by simp only [maxLen]; omega) (by omega) hz3w ?_
            intro v4 w4 hown4 hgr4 hnil4
            replace hown4 := HNL.out v4 w4 hown4
            obtain ⟨g4, cap4, rfl, _, _⟩ := own_some hown4 hnl
            have hB4 : Below w9.heap.size w9 w4 := hB3.trans (grown_own HO3.out hz3w hgr4)
            have HO4 := Lib.hid hown4
            have f5 := (hB4.frozen (p := ⟨b16, 3, none⟩) hb16).trans f3
            have e5 := (hB4.cell (p := ⟨b16, 3, none⟩) hb16).trans e3
            clear hown4 hgr4 hnil4
            simp only [List.getElem_toArray, List.getElem_cons_zero, List.getElem_cons_succ, Act.put, List.setIfInBounds_toArray, List.set_cons_succ, List.set_cons_zero]
            refine wpIn_take 15 (.pointer (some ⟨b16, 3, none⟩)) rfl (by kernel_rfl) (by kernel_rfl) (by kernel_rfl) (by kernel_rfl) (by kernel_rfl) (by rfl) (fun _ _ _ h => h) hB4 (fun W hW => by go_simp; all_goals first | with_reducible rfl | rfl) ?_
            simp only [List.getElem_toArray, List.getElem_cons_zero, List.getElem_cons_succ, Act.put, List.setIfInBounds_toArray, List.set_cons_succ, List.set_cons_zero]
            refine wpIn_one 16 rfl (by kernel_rfl) (fun _ => hB4) (by rfl) ?_
            go_simp
            refine wpIn_done (by kernel_rfl) (by kernel_rfl) ?_ _
            simp only [Exit.then]
            refine ‹∀ (a' : Act) (w' : World), Met _ a' w' → _› _ _ ?_
            go_meet
            case rel => exact ⟨g', gc', g4, cap4, ks1, is2, Lib.hid (QkS.kids Q.out hB4 HO4.out), Lib.hid (by rw [hm]; exact HEks1.out.trans HK1.out), Lib.hid (by rw [hm]; exact HEis2.out.trans HI2.out)⟩
          · go_simp
            refine wpIn_one 5 rfl (by kernel_rfl) (fun _ => (((Below.refl w9.heap.size w9).alloc (Nat.le_refl _) (.cells #[.int .i64 ((mid : Nat) : Int)] IntT)).drew)) (by rfl) ?_
            refine wp_append_own _ (.const (.slice none 0 0)) (.tmp 108) _ rfl w9.heap.size IntT i1 _ 1 8 Tryz.underlying32 hii1 hy0 hy1 hy2 rfl (by decide) (.slice none 0 0) 0 [] rfl (own_nil _ _ _ _) ⟨dd, 0, none⟩ (k + 1) dc ((is1.take (k + 1)).map iv) rfl HLa.out (cells_keep (w := w9) (((Below.refl w9.heap.size w9).alloc (Nat.le_refl _) (.cells #[.int .i64 ((mid : Nat) : Int)] IntT)).drew) hgw HCa.out) HOa.out (by simp only [maxLen]; omega) (by omega) (Below.size (((Below.refl w9.heap.size w9).alloc (Nat.le_refl _) (.cells #[.int .i64 ((mid : Nat) : Int)] IntT)).drew)) ?_
            intro v2 w2 hown2 hgr2 hnil2
            replace hown2 : w2.ownsRow w9.heap.size IntT 1 v2 (k + 1) ((is1.take (k + 1)).map iv) := by simpa using hown2
            obtain ⟨g1, cap1, rfl, hg1, _⟩ := own_some hown2 (Nat.succ_pos k)
            have hb1 := grown_below hgr2
            have hB2 : Below w9.heap.size w9 w2 := (((Below.refl w9.heap.size w9).alloc (Nat.le_refl _) (.cells #[.int .i64 ((mid : Nat) : Int)] IntT)).drew).trans (hb1.mono (Below.size (((Below.refl w9.heap.size w9).alloc (Nat.le_refl _) (.cells #[.int .i64 ((mid : Nat) : Int)] IntT)).drew)))
            have HO2 := Lib.hid hown2
            have hz2w := hB2.size
            clear hown2 hgr2 hnil2
            simp only [List.getElem_toArray, List.getElem_cons_zero, List.getElem_cons_succ, Act.put, List.setIfInBounds_toArray, List.set_cons_succ, List.set_cons_zero]
            refine wpIn_one 8 rfl (by kernel_rfl) (fun _ => hB2) (by rfl) ?_
            refine wp_append_own _ (.tmp 109) (.tmp 111) _ rfl w9.heap.size IntT i1 _ 1 8 Tryz.underlying32 hii1 hy0 hy1 hy2 rfl (by decide) (.slice (some ⟨g1, 0, none⟩) (k + 1) cap1) (k + 1) ((is1.take (k + 1)).map iv) rfl HO2.out ⟨w9.heap.size, 0, none⟩ 1 1 [iv ((mid : Nat) : Int)] rfl rfl (cell_one_keepD hb1) HI1.out (by simp only [maxLen]; omega) (by omega) hz2w ?_
            intro v3 w3 hown3 hgr3 hnil3
            obtain ⟨g2, cap2, rfl, _, _⟩ := own_some hown3 (Nat.succ_pos _)
            have hB3 : Below w9.heap.size w9 w3 := hB2.trans (grown_own HO2.out hz2w hgr3)
            have HO3 := Lib.hid hown3
            have hz3w := hB3.size
            clear hown3 hgr3 hnil3
            simp only [List.getElem_toArray, List.getElem_cons_zero, List.getElem_cons_succ, Act.put, List.setIfInBounds_toArray, List.set_cons_succ, List.set_cons_zero]
            refine wpIn_one 14 rfl (by kernel_rfl) (fun _ => hB3) (by rfl) ?_
            refine wp_append_own _ (.tmp 112) (.tmp 117) _ rfl w9.heap.size IntT i1 _ 1 8 Tryz.underlying32 hii1 hy0 hy1 hy2 rfl (by decide) (.slice (some ⟨g2, 0, none⟩) (k + 1 + 1) cap2) (k + 1 + 1) ((is1.take (k + 1)).map iv ++ [iv ((mid : Nat) : Int)]) rfl HO3.out ⟨dd, oA, none⟩ (is1.length - (k + 1)) (dc - (k + 1)) ((is1.drop (k + 1)).map iv) rfl HLc.out (cells_keep (w := w9) hB3 hgw HCc.out) HOc.out (by simp only [maxLen]; omega) (by omega) hz3w ?_
            intro v4 w4 hown4 hgr4 hnil4
            replace hown4 := HNL.out v4 w4 hown4
            obtain ⟨g4, cap4, rfl, _, _⟩ := own_some hown4 hnl
            have hB4 : Below w9.heap.size w9 w4 := hB3.trans (grown_own HO3.out hz3w hgr4)
            have HO4 := Lib.hid hown4
            have f5 := (hB4.frozen (p := ⟨b16, 3, none⟩) hb16).trans f3
            have e5 := (hB4.cell (p := ⟨b16, 3, none⟩) hb16).trans e3
            clear hown4 hgr4 hnil4
            simp only [List.getElem_toArray, List.getElem_cons_zero, List.getElem_cons_succ, Act.put, List.setIfInBounds_toArray, List.set_cons_succ, List.set_cons_zero]
            refine wpIn_take 15 (.pointer (some ⟨b16, 3, none⟩)) rfl (by kernel_rfl) (by kernel_rfl) (by kernel_rfl) (by kernel_rfl) (by kernel_rfl) (by rfl) (fun _ _ _ h => h) hB4 (fun W hW => by go_simp; all_goals first | with_reducible rfl | rfl) ?_
            simp only [List.getElem_toArray, List.getElem_cons_zero, List.getElem_cons_succ, Act.put, List.setIfInBounds_toArray, List.set_cons_succ, List.set_cons_zero]
            refine wpIn_one 16 rfl (by kernel_rfl) (fun _ => hB4) (by rfl) ?_
            go_simp
            refine wpIn_done (by kernel_rfl) (by kernel_rfl) ?_ _
            simp only [Exit.then]
            refine ‹∀ (a' : Act) (w' : World), Met _ a' w' → _› _ _ ?_
            go_meet
            case rel => exact ⟨g', gc', g4, cap4, ks1, is2, Lib.hid (QkS.kids Q.out hB4 HO4.out), Lib.hid (by rw [hm]; exact HEks1.out.trans HK1.out), Lib.hid (by rw [hm]; exact HEis2.out.trans HI2.out)⟩
  case rest =>
  obtain ⟨g, gc, dd, dc, ks, is, Q2, HK, HI⟩ := hcut
  obtain ⟨w10, rfl⟩ : ∃ W, W = wc := ⟨_, rfl⟩
  replace Q := Q2
  clear Q2 hil hkL0 HIS1 HCL1 HCL2 HKS HIS
  have hn400 : (Sp.T.put x (d + 1) (i + 2, cs) n).2.2 ≤ 400 := Nat.le_trans HN.out (by decide)
  obtain ⟨j0, j1, j2, j3⟩ := Sp.put_join (c := cc) (ks := ks) (is := is) HX.out HOK.out HON.out (by rw [HKK.out]; exact HCC.out) HR6.out hn400 (by rw [HKK.out]; exact HK.out) (by rw [HKK.out]; exact HI.out)
  have hP1 : P1.length + 2 = (Sp.T.put x d cc.2 n).2.2 := HR6.out.len
  have hP1n : P1.length ≤ 120 := by have := HKN.out; omega
  have hiP : i < P1.length := by have := HR6.out.le; omega
  have HST := Lib.hid (HST6.out.go Q.out.hb)
  have HCK := Lib.hid (HCK6.out.trans (Chg.of_below Q.out.hb))
  obtain ⟨hrk, hri⟩ := Q.out.rd hs6 (by omega) (by omega)
  have HRK := Lib.hid hrk
  have HRI := Lib.hid hri
  obtain ⟨vi, vp, hst, _⟩ := HST.out
  have hst10 := Lib.hid hst
  have e3 : w10.cell? ⟨b16, 3, none⟩ = some (.slice (some ⟨dd, 0, none⟩) is.length dc) := Q.out.bh.cell 3
  have J1 := Lib.hid j1
  have J2 := Lib.hid j2
  have J3 := Lib.hid j3
  have HOUT := Lib.hid (rfl : Sp.T.id (d + 1) (i + 2, cs) = i + 2)
  clear hrk hri hst j1 j2 j3 HST hn400 HCK6 HST6
  by_cases hs : ks.length ≤ 4
  · obtain ⟨k1, k2, k3⟩ := J2.out hs
    have hs' : ((is.length : Int) ≤ 4) := by have := J1.out; omega
    have K1 := Lib.hid k1
    have K2 := Lib.hid k2
    have K3 := Lib.hid k3
    clear k1 k2 k3 J2 J3
    go_wp2_with (first
      | (go_at_call 149; refine (set_any s fp vi vp P1 i (Sp.branchPg ks is) (refsB (some ⟨g, 0, none⟩) gc (some ⟨dd, 0, none⟩) dc) _ hst10.out hiP (by omega) (branchRd HRK.out HRI.out gc dc) K1.out).mono ?_; rintro e w11 ⟨rfl, vp', hst7, hk7⟩)
      | (refine wpList_row PageT _ rfl b16 rfl rfl PageT _ (0, 0) _ Q.out.bh Tryz.underlying59 rfl (by kernel_rfl) ?_))
    refine bodyPost_ret (v := .tuple #[.int .i64 ((i : Int) + 2), .int .i64 0, .string ⟨#[]⟩, .int .i64 0]) (by simp [results, Tryz.results90, go_sem]) rfl ⟨by rw [K3.out]; rfl, _, StF.of hst7 (fun e => by have h1 := congrArg List.length e; rw [List.length_set] at h1; simp only [List.length_nil] at h1; omega), K2.out, HCK.out.trans hk7⟩
  · obtain ⟨k1, k1', k2, k3, k4, k5⟩ := J3.out hs
    have hks5 : ks.length = 5 := by omega
    have his5 : is.length = 5 := by have := J1.out; omega
    have K1 := Lib.hid k1
    have K1' := Lib.hid k1'
    have K2 := Lib.hid k2
    have K3 := Lib.hid k3
    have K4 := Lib.hid k4
    have K5 := Lib.hid k5
    have HKS5 := Lib.hid hks5
    have HIS5 := Lib.hid his5
    obtain ⟨hgc, _⟩ := own_cap Q.out.ok_
    obtain ⟨hdc, _⟩ := own_cap Q.out.od
    have hgc5 : 5 ≤ gc := by omega
    have hdc5 : 5 ≤ dc := by omega
    have hnP : P1.length < 120 := by have := HN.out; omega
    have hgw : g < w10.heap.size := (own_blk_lt Q.out.ok_).elim fun _ h => Blk.lt h
    have hb16 : b16 < w10.heap.size := Q.out.bh.lt
    have HKC := Lib.hid (own_cells Q.out.ok_)
    have e2 : w10.cell? ⟨b16, 2, none⟩ = some (.slice (some ⟨g, 0, none⟩) 5 gc) := by rw [← hks5]; exact Q.out.bh.cell 2
    have e3' : w10.cell? ⟨b16, 3, none⟩ = some (.slice (some ⟨dd, 0, none⟩) 5 dc) := by rw [← his5]; exact Q.out.bh.cell 3
    have hh : (((5 : Nat) : Int) + 1) / 2 = 3 := by decide
    have ht3 : (ks.take 3).length = 3 := by rw [List.length_take]; omega
    have hi3 : (is.take 3).length = 3 := by rw [List.length_take]; omega
    clear k1 k1' k2 k3 k4 k5 J2 J3 hgc hdc e3 hs hks5 his5 j0
    go_upto_region 22 with fail
    go_upto_region 23 with (go_at_call 150; refine (half_any 5 (by omega) (by omega) _).mono ?_; rintro e w2 ⟨rfl, rfl⟩)
    have hg1 : (3 : Int) ≤ (gc : Int) := by omega
    have hd1 : (3 : Int) ≤ (dc : Int) := by omega
    have hg2 : 3 ≤ gc := by omega
    have hd2 : 3 ≤ dc := by omega
    go_cut [18] (fun s18 W => ∃ b18 : Nat, s18 = .pointer (some ⟨b18, 0, none⟩) ∧ Hid (Below w10.heap.size w10 W) ∧ Hid (Blk W b18 PageT #[.int .i64 2, .slice none 0 0, .slice (some ⟨g, 0, none⟩) 3 gc, .slice (some ⟨dd, 0, none⟩) 3 dc, .string ⟨#[]⟩, .slice none 0 0, .slice none 0 0, .int .i64 0, .int .u64 0, .int .i64 0, .int .i64 0, .int .i64 0, .int .i64 0, .int .i64 0]))
    case first =>
      go_region
      simp only [Exit.then]
      refine ‹∀ (a' : Act) (w' : World), Met _ a' w' → _› _ _ ?_
      go_meet
      case rel =>
        have hal : Below w10.heap.size w10 (w10.alloc (.cells #[.int .i64 2, .slice none 0 0, .slice (some ⟨g, 0, none⟩) 3 gc, .slice (some ⟨dd, 0, none⟩) 3 dc, .string ⟨#[]⟩, .slice none 0 0, .slice none 0 0, .int .i64 0, .int .u64 0, .int .i64 0, .int .i64 0, .int .i64 0, .int .i64 0, .int .i64 0] PageT)) := (Below.refl _ _).alloc (Nat.le_refl _) _
        exact ⟨_, rfl, Lib.hid hal.drew, Lib.hid (Blk.drew (Blk.new w10 PageT _))⟩
    case rest =>
      obtain ⟨b18, rfl, HB18, B18⟩ := hcut
      obtain ⟨w11, rfl⟩ : ∃ W, W = wc := ⟨_, rfl⟩
      clear e2 e3' hh
      have Q11 := Lib.hid (Q.out.go HB18.out)
      have e2 : w11.cell? ⟨b16, 2, none⟩ = some (.slice (some ⟨g, 0, none⟩) 5 gc) := by rw [← HKS5.out]; exact Q11.out.bh.cell 2
      have e3 : w11.cell? ⟨b16, 3, none⟩ = some (.slice (some ⟨dd, 0, none⟩) 5 dc) := by rw [← HIS5.out]; exact Q11.out.bh.cell 3
      go_upto_region 24 with fail
      have hg4 : ¬ gc = 4 := by omega
      have hg4' : (4 : Int) ≤ (gc : Int) := by omega
      have hd3 : ¬ dc = 3 := by omega
      have hg4'' : 4 ≤ gc := by omega
      have hb16' : b16 < w11.heap.size := Q11.out.bh.lt
      have hgw' : g < w11.heap.size := Nat.lt_of_lt_of_le hgw HB18.out.size
      have HLn := Lib.hid (show [tv (ks.getD 4 [])].length = 1 * 1 from rfl)
      have HOn := Lib.hid (show ∀ u ∈ [tv (ks.getD 4 [])], u.oneCell' = true from fun u hu => by rw [List.mem_singleton.1 hu]; rfl)
      have HCn := Lib.hid (show ∀ j u, [tv (ks.getD 4 [])][j]? = some u → w11.cell? ⟨g, 4 + j, none⟩ = some u from fun j u hu => by
        cases j with
        | zero =>
          have hu : tv (ks.getD 4 []) = u := by simpa using hu
          have h4 : (ks.map tv)[4]? = some (tv (ks.getD 4 [])) := by
            have : 4 < ks.length := by rw [HKS5.out]; decide
            simp [List.getD, this]
          rw [← hu]
          exact (HB18.out.cell (p := ⟨g, 4, none⟩) hgw).trans (HKC.out 4 _ h4)
        | succ j => simp at hu)
      go_cut [19] (fun s19 W => ∃ b19 K kc : Nat, s19 = .pointer (some ⟨b19, 0, none⟩) ∧ Hid (Below w11.heap.size w11 W) ∧ Hid (Blk W b19 PageT #[.int .i64 2, .slice none 0 0, .slice (some ⟨K, 0, none⟩) 2 kc, .slice (some ⟨dd, 3, none⟩) 2 (dc - 3), .string ⟨#[]⟩, .slice none 0 0, .slice none 0 0, .int .i64 0, .int .u64 0, .int .i64 0, .int .i64 0, .int .i64 0, .int .i64 0, .int .i64 0]) ∧ Hid (W.ownsRow w11.heap.size StrT 1 (.slice (some ⟨K, 0, none⟩) 2 kc) 2 [tv [], tv (ks.getD 4 [])]))
      case first =>
        as_aux_lemma =>
          refine wp_region_in 14 13 (fun W => Below w11.heap.size w11 W) (by kernel_rfl) rfl ?_
          refine wpIn_take 1 (.pointer (some ⟨b16, 2, none⟩)) rfl (by kernel_rfl) (by kernel_rfl) (by kernel_rfl) (by kernel_rfl) (by kernel_rfl) (by rfl) (fun _ _ _ h => h) ((Below.refl w11.heap.size w11).drew) (fun W hW => by go_simp; all_goals first | with_reducible rfl | rfl) ?_
          simp only [List.getElem_toArray, List.getElem_cons_zero, List.getElem_cons_succ, Act.put, List.setIfInBounds_toArray, List.set_cons_succ, List.set_cons_zero]
          refine wpIn_take 2 (.slice (some ⟨g, 0, none⟩) 5 gc) rfl (by kernel_rfl) (by kernel_rfl) (by kernel_rfl) (by kernel_rfl) (by kernel_rfl) (by rfl) (fun _ _ _ h => h) ((Below.refl w11.heap.size w11).drew) (fun W hW => by have hc := (hW.cell (p := ⟨b16, 2, none⟩) hb16').trans e2; go_simp; all_goals first | with_reducible rfl | rfl) ?_
          simp only [List.getElem_toArray, List.getElem_cons_zero, List.getElem_cons_succ, Act.put, List.setIfInBounds_toArray, List.set_cons_succ, List.set_cons_zero]
          refine wpIn_take 3 (.int .i64 3) rfl (by kernel_rfl) (by kernel_rfl) (by kernel_rfl) (by kernel_rfl) (by kernel_rfl) (by rfl) (fun _ _ _ h => h) ((Below.refl w11.heap.size w11).drew) (fun W hW => by go_simp; all_goals first | with_reducible rfl | rfl) ?_
          simp only [List.getElem_toArray, List.getElem_cons_zero, List.getElem_cons_succ, Act.put, List.setIfInBounds_toArray, List.set_cons_succ, List.set_cons_zero]
          refine wpIn_take 4 (.int .i64 4) rfl (by kernel_rfl) (by kernel_rfl) (by kernel_rfl) (by kernel_rfl) (by kernel_rfl) (by rfl) (fun _ _ _ h => h) ((Below.refl w11.heap.size w11).drew) (fun W hW => by go_simp; all_goals first | with_reducible rfl | rfl) ?_
          simp only [List.getElem_toArray, List.getElem_cons_zero, List.getElem_cons_succ, Act.put, List.setIfInBounds_toArray, List.set_cons_succ, List.set_cons_zero]
          refine wpIn_take 5 (.slice (some ⟨g, 4, none⟩) 1 (gc - 4)) rfl (by kernel_rfl) (by kernel_rfl) (by kernel_rfl) (by kernel_rfl) (by kernel_rfl) (by rfl) (fun _ _ _ h => h) ((Below.refl w11.heap.size w11).drew) (fun W hW => by go_simp; all_goals first | with_reducible rfl | rfl) ?_
          simp only [List.getElem_toArray, List.getElem_cons_zero, List.getElem_cons_succ, Act.put, List.setIfInBounds_toArray, List.set_cons_succ, List.set_cons_zero]
          refine wpIn_take 7 (.pointer (some ⟨b16, 3, none⟩)) rfl (by kernel_rfl) (by kernel_rfl) (by kernel_rfl) (by kernel_rfl) (by kernel_rfl) (by rfl) (fun _ _ _ h => h) ((Below.refl w11.heap.size w11).drew) (fun W hW => by go_simp; all_goals first | with_reducible rfl | rfl) ?_
          simp only [List.getElem_toArray, List.getElem_cons_zero, List.getElem_cons_succ, Act.put, List.setIfInBounds_toArray, List.set_cons_succ, List.set_cons_zero]
          refine wpIn_take 8 (.slice (some ⟨dd, 0, none⟩) 5 dc) rfl (by kernel_rfl) (by kernel_rfl) (by kernel_rfl) (by kernel_rfl) (by kernel_rfl) (by rfl) (fun _ _ _ h => h) ((Below.refl w11.heap.size w11).drew) (fun W hW => by have hc := (hW.cell (p := ⟨b16, 3, none⟩) hb16').trans e3; go_simp; all_goals first | with_reducible rfl | rfl) ?_
          simp only [List.getElem_toArray, List.getElem_cons_zero, List.getElem_cons_succ, Act.put, List.setIfInBounds_toArray, List.set_cons_succ, List.set_cons_zero]
          refine wpIn_take 9 (.int .i64 3) rfl (by kernel_rfl) (by kernel_rfl) (by kernel_rfl) (by kernel_rfl) (by kernel_rfl) (by rfl) (fun _ _ _ h => h) ((Below.refl w11.heap.size w11).drew) (fun W hW => by go_simp; all_goals first | with_reducible rfl | rfl) ?_
          simp only [List.getElem_toArray, List.getElem_cons_zero, List.getElem_cons_succ, Act.put, List.setIfInBounds_toArray, List.set_cons_succ, List.set_cons_zero]
          refine wpIn_take 10 (.slice (some ⟨dd, 3, none⟩) 2 (dc - 3)) rfl (by kernel_rfl) (by kernel_rfl) (by kernel_rfl) (by kernel_rfl) (by kernel_rfl) (by rfl) (fun _ _ _ h => h) ((Below.refl w11.heap.size w11).drew) (fun W hW => by go_simp; all_goals first | with_reducible rfl | rfl) ?_
          simp only [List.getElem_toArray, List.getElem_cons_zero, List.getElem_cons_succ, Act.put, List.setIfInBounds_toArray, List.set_cons_succ, List.set_cons_zero]
          refine wpIn_two 0 12 rfl rfl (by kernel_rfl) (fun _ => ((Below.refl w11.heap.size w11).drew)) (by rfl) (by rfl) ?_ ?_
          · go_simp
            refine wpIn_two 6 12 rfl rfl (by kernel_rfl) (fun _ => (((Below.refl w11.heap.size w11).alloc (Nat.le_refl _) (.cells #[.string ⟨#[]⟩] StrT)).drew)) (by rfl) (by rfl) ?_ ?_
            · refine wp_append_own _ (.tmp 142) (.tmp 147) _ rfl w11.heap.size StrT i0 _ 1 16 Tryz.underlying31 hii0 hz0 hz1 hz2 rfl (by decide) (.slice (some ⟨w11.heap.size, 0, none⟩) 1 1) 1 [.string ⟨#[]⟩] rfl (lit_own (Blk.drew (Blk.new w11 StrT #[.string ⟨#[]⟩])) (Nat.le_refl _)) ⟨g, 4, none⟩ 1 (gc - 4) [tv (ks.getD 4 [])] rfl HLn.out (cells_keep (w := w11) (((Below.refl w11.heap.size w11).alloc (Nat.le_refl _) (.cells #[.string ⟨#[]⟩] StrT)).drew) hgw' HCn.out) HOn.out (by simp only [maxLen]; omega) (by omega) (Below.size (((Below.refl w11.heap.size w11).alloc (Nat.le_refl _) (.cells #[.string ⟨#[]⟩] StrT)).drew)) ?_
              intro v4 w4 hown4 hgr4 hnil4
              replace hown4 : w4.ownsRow w11.heap.size StrT 1 v4 2 [tv [], tv (ks.getD 4 [])] := hown4
              obtain ⟨g4, cap4, rfl, _, _⟩ := own_some hown4 (by decide)
              have hB4 : Below w11.heap.size w11 w4 := (((Below.refl w11.heap.size w11).alloc (Nat.le_refl _) (.cells #[.string ⟨#[]⟩] StrT)).drew).trans (grown_own (lit_own (Blk.drew (Blk.new w11 StrT #[.string ⟨#[]⟩])) (Nat.le_refl _)) (Below.size (((Below.refl w11.heap.size w11).alloc (Nat.le_refl _) (.cells #[.string ⟨#[]⟩] StrT)).drew)) hgr4)
              have HO4 := Lib.hid hown4
              have hz4 := hB4.size
              clear hown4 hnil4
              simp only [List.getElem_toArray, List.getElem_cons_zero, List.getElem_cons_succ, Act.put, List.setIfInBounds_toArray, List.set_cons_succ, List.set_cons_zero]
              refine wpIn_take 11 (.agg #[.int .i64 2, .slice none 0 0, .slice (some ⟨g4, 0, none⟩) 2 cap4, .slice (some ⟨dd, 3, none⟩) 2 (dc - 3), .string ⟨#[]⟩, .slice none 0 0, .slice none 0 0, .int .i64 0, .int .u64 0, .int .i64 0, .int .i64 0, .int .i64 0, .int .i64 0, .int .i64 0]) rfl (by kernel_rfl) (by kernel_rfl) (by kernel_rfl) (by kernel_rfl) (by kernel_rfl) (by rfl) (fun _ _ _ h => h) hB4 (fun W hW => by go_simp; all_goals first | with_reducible rfl | rfl) ?_
              simp only [List.getElem_toArray, List.getElem_cons_zero, List.getElem_cons_succ, Act.put, List.setIfInBounds_toArray, List.set_cons_succ, List.set_cons_zero]
              refine wpIn_one 12 rfl (by kernel_rfl) (fun _ => hB4) (by rfl) ?_
              go_simp
              refine wpIn_one 13 rfl (by kernel_rfl) (fun _ => (hB4.alloc hz4 _)) (by rfl) ?_
              refine wp_store_row PageT _ _ rfl w4.heap.size #[.int .i64 2, .slice none 0 0, .slice (some ⟨g4, 0, none⟩) 2 cap4, .slice (some ⟨dd, 3, none⟩) 2 (dc - 3), .string ⟨#[]⟩, .slice none 0 0, .slice none 0 0, .int .i64 0, .int .u64 0, .int .i64 0, .int .i64 0, .int .i64 0, .int .i64 0, .int .i64 0] rfl rfl PageT _ (Blk.new w4 PageT pgZ) (by kernel_rfl) rfl (by kernel_rfl) ?_
              simp only [List.getElem_toArray, List.getElem_cons_zero, List.getElem_cons_succ, Act.put, List.setIfInBounds_toArray, List.set_cons_succ, List.set_cons_zero]
              refine wpIn_done (by kernel_rfl) (by kernel_rfl) ?_ _
              simp only [Exit.then]
              refine ‹∀ (a' : Act) (w' : World), Met _ a' w' → _› _ _ ?_
              go_meet
              case rel => exact ⟨w4.heap.size, g4, cap4, rfl, Lib.hid (below_setRow (hB4.alloc hz4 _) hz4 _), Lib.hid (Blk.row (Blk.new w4 PageT pgZ)), Lib.hid (own_chg2 (own_chg2 (S := NoM) HO4.out (Chg.of_below ((Below.refl _ w4).alloc (Nat.le_refl _) (.cells pgZ PageT))) (fun _ _ h => h)) (chg_setRow1' _ w4.heap.size _) (fun k hk h' => own_not (own_chg2 (S := NoM) HO4.out (Chg.of_below ((Below.refl _ w4).alloc (Nat.le_refl _) (.cells pgZ PageT))) (fun _ _ h => h)) (t := PageT) (by decide) k hk _ ((show k = w4.heap.size from h').symm ▸ (Blk.new w4 PageT pgZ))))⟩
            · go_simp
              refine wpIn_one 6 rfl (by kernel_rfl) (fun _ => ((((Below.refl w11.heap.size w11).alloc (Nat.le_refl _) (.cells #[.string ⟨#[]⟩] StrT)).alloc (by simp) (.cells pgZ PageT)).drew)) (by rfl) ?_
              refine wp_append_own _ (.tmp 142) (.tmp 147) _ rfl w11.heap.size StrT i0 _ 1 16 Tryz.underlying31 hii0 hz0 hz1 hz2 rfl (by decide) (.slice (some ⟨w11.heap.size, 0, none⟩) 1 1) 1 [.string ⟨#[]⟩] rfl (lit_own (Blk.drew ((Blk.new w11 StrT #[.string ⟨#[]⟩]).alloc (.cells pgZ PageT))) (Nat.le_refl _)) ⟨g, 4, none⟩ 1 (gc - 4) [tv (ks.getD 4 [])] rfl HLn.out (cells_keep (w := w11) ((((Below.refl w11.heap.size w11).alloc (Nat.le_refl _) (.cells #[.string ⟨#[]⟩] StrT)).alloc (by simp) (.cells pgZ PageT)).drew) hgw' HCn.out) HOn.out (by simp only [maxLen]; omega) (by omega) (Below.size ((((Below.refl w11.heap.size w11).alloc (Nat.le_refl _) (.cells #[.string ⟨#[]⟩] StrT)).alloc (by simp) (.cells pgZ PageT)).drew)) ?_
              intro v4 w4 hown4 hgr4 hnil4
              replace hown4 : w4.ownsRow w11.heap.size StrT 1 v4 2 [tv [], tv (ks.getD 4 [])] := hown4
              obtain ⟨g4, cap4, rfl, _, _⟩ := own_some hown4 (by decide)
              have hB4 : Below w11.heap.size w11 w4 := ((((Below.refl w11.heap.size w11).alloc (Nat.le_refl _) (.cells #[.string ⟨#[]⟩] StrT)).alloc (by simp) (.cells pgZ PageT)).drew).trans (grown_own (lit_own (Blk.drew ((Blk.new w11 StrT #[.string ⟨#[]⟩]).alloc (.cells pgZ PageT))) (Nat.le_refl _)) (Below.size ((((Below.refl w11.heap.size w11).alloc (Nat.le_refl _) (.cells #[.string ⟨#[]⟩] StrT)).alloc (by simp) (.cells pgZ PageT)).drew)) hgr4)
              have HO4 := Lib.hid hown4
              have hz4 := hB4.size
              clear hown4 hnil4
              simp only [List.getElem_toArray, List.getElem_cons_zero, List.getElem_cons_succ, Act.put, List.setIfInBounds_toArray, List.set_cons_succ, List.set_cons_zero]
              refine wpIn_take 11 (.agg #[.int .i64 2, .slice none 0 0, .slice (some ⟨g4, 0, none⟩) 2 cap4, .slice (some ⟨dd, 3, none⟩) 2 (dc - 3), .string ⟨#[]⟩, .slice none 0 0, .slice none 0 0, .int .i64 0, .int .u64 0, .int .i64 0, .int .i64 0, .int .i64 0, .int .i64 0, .int .i64 0]) rfl (by kernel_rfl) (by kernel_rfl) (by kernel_rfl) (by kernel_rfl) (by kernel_rfl) (by rfl) (fun _ _ _ h => h) hB4 (fun W hW => by go_simp; all_goals first | with_reducible rfl | rfl) ?_
              simp only [List.getElem_toArray, List.getElem_cons_zero, List.getElem_cons_succ, Act.put, List.setIfInBounds_toArray, List.set_cons_succ, List.set_cons_zero]
              refine wpIn_one 13 rfl (by kernel_rfl) (fun _ => hB4) (by rfl) ?_
              refine wp_store_row PageT _ _ rfl (w11.heap.size + 1) #[.int .i64 2, .slice none 0 0, .slice (some ⟨g4, 0, none⟩) 2 cap4, .slice (some ⟨dd, 3, none⟩) 2 (dc - 3), .string ⟨#[]⟩, .slice none 0 0, .slice none 0 0, .int .i64 0, .int .u64 0, .int .i64 0, .int .i64 0, .int .i64 0, .int .i64 0, .int .i64 0] rfl rfl PageT _ (blk_grown (lit_own (Blk.drew ((Blk.new w11 StrT #[.string ⟨#[]⟩]).alloc (.cells pgZ PageT))) (Nat.le_refl _)) hgr4 (Blk.drew (blk_second w11 (.cells #[.string ⟨#[]⟩] StrT) PageT pgZ)) (by decide)) (by kernel_rfl) rfl (by kernel_rfl) ?_
              simp only [List.getElem_toArray, List.getElem_cons_zero, List.getElem_cons_succ, Act.put, List.setIfInBounds_toArray, List.set_cons_succ, List.set_cons_zero]
              refine wpIn_done (by kernel_rfl) (by kernel_rfl) ?_ _
              simp only [Exit.then]
              refine ‹∀ (a' : Act) (w' : World), Met _ a' w' → _› _ _ ?_
              go_meet
              case rel => exact ⟨(w11.heap.size + 1), g4, cap4, rfl, Lib.hid (below_setRow hB4 (Nat.le_succ _) _), Lib.hid (Blk.row (blk_grown (lit_own (Blk.drew ((Blk.new w11 StrT #[.string ⟨#[]⟩]).alloc (.cells pgZ PageT))) (Nat.le_refl _)) hgr4 (Blk.drew (blk_second w11 (.cells #[.string ⟨#[]⟩] StrT) PageT pgZ)) (by decide))), Lib.hid (own_chg2 HO4.out (chg_setRow1' _ (w11.heap.size + 1) _) (fun k hk h' => own_not HO4.out (t := PageT) (by decide) k hk _ ((show k = (w11.heap.size + 1) from h').symm ▸ (blk_grown (lit_own (Blk.drew ((Blk.new w11 StrT #[.string ⟨#[]⟩]).alloc (.cells pgZ PageT))) (Nat.le_refl _)) hgr4 (Blk.drew (blk_second w11 (.cells #[.string ⟨#[]⟩] StrT) PageT pgZ)) (by decide)))))⟩
          · go_simp
            refine wpIn_one 0 rfl (by kernel_rfl) (fun _ => (((Below.refl w11.heap.size w11).alloc (Nat.le_refl _) (.cells pgZ PageT)).drew)) (by rfl) ?_
            go_simp
            refine wpIn_one 6 rfl (by kernel_rfl) (fun _ => ((((Below.refl w11.heap.size w11).alloc (Nat.le_refl _) (.cells pgZ PageT)).alloc (by simp) (.cells #[.string ⟨#[]⟩] StrT)).drew)) (by rfl) ?_
            refine wp_append_own _ (.tmp 142) (.tmp 147) _ rfl w11.heap.size StrT i0 _ 1 16 Tryz.underlying31 hii0 hz0 hz1 hz2 rfl (by decide) (.slice (some ⟨(w11.heap.size + 1), 0, none⟩) 1 1) 1 [.string ⟨#[]⟩] rfl (lit_own (Blk.drew (blk_second w11 (.cells pgZ PageT) StrT #[.string ⟨#[]⟩])) (Nat.le_succ _)) ⟨g, 4, none⟩ 1 (gc - 4) [tv (ks.getD 4 [])] rfl HLn.out (cells_keep (w := w11) ((((Below.refl w11.heap.size w11).alloc (Nat.le_refl _) (.cells pgZ PageT)).alloc (by simp) (.cells #[.string ⟨#[]⟩] StrT)).drew) hgw' HCn.out) HOn.out (by simp only [maxLen]; omega) (by omega) (Below.size ((((Below.refl w11.heap.size w11).alloc (Nat.le_refl _) (.cells pgZ PageT)).alloc (by simp) (.cells #[.string ⟨#[]⟩] StrT)).drew)) ?_
            intro v4 w4 hown4 hgr4 hnil4
            replace hown4 : w4.ownsRow w11.heap.size StrT 1 v4 2 [tv [], tv (ks.getD 4 [])] := hown4
            obtain ⟨g4, cap4, rfl, _, _⟩ := own_some hown4 (by decide)
            have hB4 : Below w11.heap.size w11 w4 := ((((Below.refl w11.heap.size w11).alloc (Nat.le_refl _) (.cells pgZ PageT)).alloc (by simp) (.cells #[.string ⟨#[]⟩] StrT)).drew).trans (grown_own (lit_own (Blk.drew (blk_second w11 (.cells pgZ PageT) StrT #[.string ⟨#[]⟩])) (Nat.le_succ _)) (Below.size ((((Below.refl w11.heap.size w11).alloc (Nat.le_refl _) (.cells pgZ PageT)).alloc (by simp) (.cells #[.string ⟨#[]⟩] StrT)).drew)) hgr4)
            have HO4 := Lib.hid hown4
            have hz4 := hB4.size
            clear hown4 hnil4
            simp only [List.getElem_toArray, List.getElem_cons_zero, List.getElem_cons_succ, Act.put, List.setIfInBounds_toArray, List.set_cons_succ, List.set_cons_zero]
            refine wpIn_take 11 (.agg #[.int .i64 2, .slice none 0 0, .slice (some ⟨g4, 0, none⟩) 2 cap4, .slice (some ⟨dd, 3, none⟩) 2 (dc - 3), .string ⟨#[]⟩, .slice none 0 0, .slice none 0 0, .int .i64 0, .int .u64 0, .int .i64 0, .int .i64 0, .int .i64 0, .int .i64 0, .int .i64 0]) rfl (by kernel_rfl) (by kernel_rfl) (by kernel_rfl) (by kernel_rfl) (by kernel_rfl) (by rfl) (fun _ _ _ h => h) hB4 (fun W hW => by go_simp; all_goals first | with_reducible rfl | rfl) ?_
            simp only [List.getElem_toArray, List.getElem_cons_zero, List.getElem_cons_succ, Act.put, List.setIfInBounds_toArray, List.set_cons_succ, List.set_cons_zero]
            refine wpIn_one 13 rfl (by kernel_rfl) (fun _ => hB4) (by rfl) ?_
            refine wp_store_row PageT _ _ rfl w11.heap.size #[.int .i64 2, .slice none 0 0, .slice (some ⟨g4, 0, none⟩) 2 cap4, .slice (some ⟨dd, 3, none⟩) 2 (dc - 3), .string ⟨#[]⟩, .slice none 0 0, .slice none 0 0, .int .i64 0, .int .u64 0, .int .i64 0, .int .i64 0, .int .i64 0, .int .i64 0, .int .i64 0] rfl rfl PageT _ (blk_grown (lit_own (Blk.drew (blk_second w11 (.cells pgZ PageT) StrT #[.string ⟨#[]⟩])) (Nat.le_succ _)) hgr4 (Blk.drew ((Blk.new w11 PageT pgZ).alloc (.cells #[.string ⟨#[]⟩] StrT))) (by decide)) (by kernel_rfl) rfl (by kernel_rfl) ?_
            simp only [List.getElem_toArray, List.getElem_cons_zero, List.getElem_cons_succ, Act.put, List.setIfInBounds_toArray, List.set_cons_succ, List.set_cons_zero]
            refine wpIn_done (by kernel_rfl) (by kernel_rfl) ?_ _
            simp only [Exit.then]
            refine ‹∀ (a' : Act) (w' : World), Met _ a' w' → _› _ _ ?_
            go_meet
            case rel => exact ⟨w11.heap.size, g4, cap4, rfl, Lib.hid (below_setRow hB4 (Nat.le_refl _) _), Lib.hid (Blk.row (blk_grown (lit_own (Blk.drew (blk_second w11 (.cells pgZ PageT) StrT #[.string ⟨#[]⟩])) (Nat.le_succ _)) hgr4 (Blk.drew ((Blk.new w11 PageT pgZ).alloc (.cells #[.string ⟨#[]⟩] StrT))) (by decide))), Lib.hid (own_chg2 HO4.out (chg_setRow1' _ w11.heap.size _) (fun k hk h' => own_not HO4.out (t := PageT) (by decide) k hk _ ((show k = w11.heap.size from h').symm ▸ (blk_grown (lit_own (Blk.drew (blk_second w11 (.cells pgZ PageT) StrT #[.string ⟨#[]⟩])) (Nat.le_succ _)) hgr4 (Blk.drew ((Blk.new w11 PageT pgZ).alloc (.cells #[.string ⟨#[]⟩] StrT))) (by decide)))))⟩
      case rest =>
        obtain ⟨b19, K, kc, rfl, HB19, B19, O19⟩ := hcut
        obtain ⟨w12, rfl⟩ : ∃ W, W = wc := ⟨_, rfl⟩
        clear e2 e3 HLn HOn HCn
        have hb12 : Below w10.heap.size w10 w12 := HB18.out.trans (HB19.out.mono HB18.out.size)
        have HS12 := Lib.hid (hst10.out.go hb12)
        have HCK12 := Lib.hid (HCK.out.trans (Chg.of_below hb12))
        have HRK12 := Lib.hid (HRK.out.go hb12)
        have HRI12 := Lib.hid (HRI.out.go hb12)
        have HQ12 := Lib.hid (Q.out.go hb12)
        have B18' := Lib.hid (B18.out.below HB19.out B18.out.lt)
        have hs12 : s < w12.heap.size := HS12.out.bs.lt
        have hn18 : b18 ≠ s := fun e => Blk.not_ HS12.out.bs (t' := PageT) (by decide) _ (e ▸ B18'.out)
        have hn19 : b19 ≠ s := fun e => Blk.not_ HS12.out.bs (t' := PageT) (by decide) _ (e ▸ B19.out)
        have hn16 : b16 ≠ s := fun e => Blk.not_ HS12.out.bs (t' := PageT) (by decide) _ (e ▸ HQ12.out.bh)
        have hs11 : s < w11.heap.size := Nat.lt_of_lt_of_le hs6 (Nat.le_trans Q.out.hb.size HB18.out.size)
        have hdr : ks.drop 4 = [ks.getD 4 []] := by
          have h5 := HKS5.out
          match ks, h5 with
          | [a0, a1, a2, a3, a4], _ => rfl
        have HT19 := Lib.hid (show Txts w12 (OneM s) (some ⟨K, 0, none⟩) ([] :: ks.drop 4) by
          rw [hdr]
          exact own_to_row O19.out hs11 (by decide))
        have hp1 := Lib.hid (show pageV (Sp.branchPg (ks.take 3) (is.take 3)) (refsB (some ⟨g, 0, none⟩) gc (some ⟨dd, 0, none⟩) dc) = [.int .i64 2, .slice none 0 0, .slice (some ⟨g, 0, none⟩) 3 gc, .slice (some ⟨dd, 0, none⟩) 3 dc, .string ⟨#[]⟩, .slice none 0 0, .slice none 0 0, .int .i64 0, .int .u64 0, .int .i64 0, .int .i64 0, .int .i64 0, .int .i64 0, .int .i64 0] by rw [branchV, ht3, hi3])
        have hp2 := Lib.hid (show pageV (Sp.branchPg ([] :: ks.drop 4) (is.drop 3)) (refsB (some ⟨K, 0, none⟩) kc (some ⟨dd, 3, none⟩) (dc - 3)) = [.int .i64 2, .slice none 0 0, .slice (some ⟨K, 0, none⟩) 2 kc, .slice (some ⟨dd, 3, none⟩) 2 (dc - 3), .string ⟨#[]⟩, .slice none 0 0, .slice none 0 0, .int .i64 0, .int .u64 0, .int .i64 0, .int .i64 0, .int .i64 0, .int .i64 0, .int .i64 0] by
          have h1 : (([] : Txt) :: ks.drop 4).length = 2 := by rw [hdr]; rfl
          have h2 : (is.drop 3).length = 2 := by rw [List.length_drop, HIS5.out]
          rw [branchV, h1, h2])
        have HID3 := Lib.hid (show Ints w12 (OneM s) (some ⟨dd, 3, none⟩) (is.drop 3) from by have := HRI12.out.drop 3; rwa [Nat.zero_add] at this)
        clear hdr ht3 hi3
        go_upto_region 26 with (first
          | (go_at_call 149; rw [← hp1.out]; refine (set_any s fp vi vp P1 i (Sp.branchPg (ks.take 3) (is.take 3)) (refsB (some ⟨g, 0, none⟩) gc (some ⟨dd, 0, none⟩) dc) _ HS12.out hiP (by omega) (branchRd (HRK12.out.take 3) (HRI12.out.take 3) gc dc) K1.out).mono ?_; rintro e w13 ⟨rfl, vp', hst13, hk13⟩)
          | (refine wpList_row PageT _ rfl b18 rfl rfl PageT _ (0, 0) _ B18'.out Tryz.underlying59 rfl (by kernel_rfl) ?_))
        have B19' := Lib.hid (B19.out.chg hk13 (fun e => hn19 e))
        have HK13 := Lib.hid hk13
        have HS13 := Lib.hid hst13
        have HT13 := Lib.hid (HT19.out.chg hk13)
        have HI13 := Lib.hid (HID3.out.chg hk13)
        have HK13R := Lib.hid (HRK12.out.chg hk13)
        have B16' := Lib.hid (HQ12.out.bh.chg hk13 (fun e => hn16 e))
        have hne7 : P1.set i (Sp.branchPg (ks.take 3) (is.take 3)) ≠ [] := fun e => by have h1 := congrArg List.length e; rw [List.length_set] at h1; simp only [List.length_nil] at h1; omega
        have hls : (P1.set i (Sp.branchPg (ks.take 3) (is.take 3))).length = P1.length := List.length_set
        clear hk13 hst13
        go_upto_region 29 with (first
          | (go_at_call 89; rw [← hp2.out]; refine (add_any s fp (P1.set i (Sp.branchPg (ks.take 3) (is.take 3))) (Sp.branchPg ([] :: ks.drop 4) (is.drop 3)) (refsB (some ⟨K, 0, none⟩) kc (some ⟨dd, 3, none⟩) (dc - 3)) _ (StF.of HS13.out hne7) (branchRd HT13.out HI13.out kc (dc - 3)) K1'.out (by omega)).mono ?_; rintro e w14 ⟨rfl, hst14, hk14⟩; rw [hls])
          | (refine wpList_row PageT _ rfl b19 rfl rfl PageT _ (0, 0) _ B19'.out Tryz.underlying59 rfl (by kernel_rfl) ?_))
        have B16q := B16'.out.chg hk14 (fun e => hn16 e)
        have e2 : w14.cell? ⟨b16, 2, none⟩ = some (.slice (some ⟨g, 0, none⟩) 5 gc) := by rw [← HKS5.out]; exact B16q.cell 2
        have hrk14 := HK13R.out.chg hk14
        obtain ⟨g', o', eg, _, hgc'⟩ := Txts.at_ hrk14 (k := 3) (by rw [HKS5.out]; decide)
        obtain ⟨rfl, rfl⟩ : g = g' ∧ 0 = o' := by simpa using eg
        have y3 : w14.cell? ⟨g, 3, none⟩ = some (.string ⟨(ks.getD 3 []).toArray⟩) := by
          have := hgc' 3 (by rw [HKS5.out]; decide)
          rwa [Nat.zero_add] at this
        have H14 := Lib.hid hst14
        have HK14 := Lib.hid ((HCK12.out.trans HK13.out).trans hk14)
        clear B16q hrk14 hgc' hst14 hk14 eg
        go_quiet (fail)
        go_wp2_with fail
        refine bodyPost_ret (v := .tuple #[.int .i64 ((i : Int) + 2), .int .i64 (((Sp.T.put x d cc.2 n).2.2 : Nat) : Int), .string ⟨(ks.getD 3 []).toArray⟩, .int .i64 0]) (by simp [results, Tryz.results90, go_sem]) rfl ⟨by rw [K4.out, K5.out]; rfl, _, H14.out.go (below_drewN (Below.refl _ _) _), K2.out, HK14.out.drewN _⟩
end Go.Proofs.YtlpmjeiogdlifaaGreat
