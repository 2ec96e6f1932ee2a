/- StoreKeeps: whatever the input: true; the input reads as it did. -/
import Derived.Test.YtkcfmjlcijhieaaGreatQB00
import Derived.Test.YtkcfmjlcijhieaaGreatQPKeeps12
import Derived.SizedLaws
set_option linter.unusedSimpArgs false
set_option linter.unusedVariables false
namespace Go.Proofs.YtkcfmjlcijhieaaGreat.storeKeeps
open Go.ChangeShapes Go.WideShapes Go.ChangeAt Go.RowKit
set_option maxRecDepth 100000 in
theorem lifted (os : Os) (started : os.Started) (H : Type) (enc : TypeId × Value → H) :
    ReturnsInHanded {} Tryz.checked os 9 .any (Rows.storeKeepsSpec.pre6 enc Tryz.prog Tryz.f9 Rows.storeKeepsRow.domain false) (Rows.storeKeepsSpec.post enc Tryz.prog Tryz.f9 false true false false) := by
  refine returnsInHanded_of_change_sized (C := Tryz.checked) ownKn started (by kernel_rfl) Tryz.func9
    (ChangeSpec.witness6 (enc := enc) (C := Tryz.checked) false ⟨#[], #[.slice none 0 0, .slice none 0 0, .slice none 0 0], []⟩ 8 (by kernel_rfl) (by kernel_rfl) (by kernel_rfl) (by kernel_rfl)) ?_
  intro W base args ds gs before hval0 hW hcnd hsz0 _
  have hval : ∀ (j : Nat) t v, Tryz.f9.params[j]? = some t → args[j]? = some v → Value.okWide Tryz.prog W .any base t v := hval0
  have hW' := hW
  obtain ⟨p, q, hA0, hV, rfl, hfz, hnd⟩ := hW
  have hA : DataW.TrodAll enc Tryz.prog W 0 (fun _ => true) true Tryz.f9.params.toList args.toList ds p := hA0
  have hsz : (DataW.weightsEach Tryz.prog (Tryz.f9.params.toList ++ Rows.storeKeepsSpec.plain.varTypes Tryz.prog) (ds ++ gs)).all (· ≤ reachBytes) = true := hsz0
  rw [Tryz.params9] at hA hval hsz
  obtain ⟨v0, vs0, d0, ds0, p0, q0, hargs, rfl, rfl, h0, rr0⟩ := trodAll_cons hA
  obtain ⟨v1, vs1, d1, ds1, p1, q1, rfl, rfl, rfl, h1, rr1⟩ := trodAll_cons rr0
  obtain ⟨v2, vs2, d2, ds2, p2, q2, rfl, rfl, rfl, h2, rr2⟩ := trodAll_cons rr1
  obtain ⟨rfl, rfl, rfl⟩ := trodAll_nil rr2
  obtain rfl : args = #[v0, v1, v2] := by cases args; simp_all
  obtain ⟨rfl, rfl⟩ := trodVars_none hV
  have k0 := h0
  obtain ⟨a0, r0, c0, hv0, b0⟩ := open_pgs (hval 0 74 v0 rfl rfl) h0 (fun n hn => by have h := List.all_eq_true.1 hsz n (DataW.weights_mem_each (j := 0) (t := 74) rfl rfl n hn); simpa using h)
  have k1 := h1
  obtain ⟨a1, r1, c1, hv1, b1⟩ := open_intr (hval 1 26 v1 rfl rfl) h1
  have k2 := h2
  obtain ⟨a2, r2, c2, hv2, b2⟩ := open_stps8 (hval 2 75 v2 rfl rfl) h2 (fun n hn => by have h := List.all_eq_true.1 hsz n (DataW.weights_mem_each (j := 2) (t := 75) rfl rfl n hn); simpa using h)
  clear hA0 hval0
  simp only [List.append_nil] at hW'
  rw [hv0, hv1, hv2]
  refine (keeps_walk a0 a1 a2 r0 r1 r2 c0 c1 c2 W b0 b1 b2).mono fun e W' ⟨he, hg⟩ => ?_
  subst he
  rw [← hv0, ← hv1, ← hv2]
  exact ⟨_, rfl, post_of_below (pa := (p0 ++ (p1 ++ (p2 ++ [])))) (pv := []) hW' (fun _ _ _ => (trodAll_cons_mk (shut_bool Tryz.underlying4 _) trodAll_mk0)) (fun sp hsp => (trodAll_cons_mk (WideElems.Trod_stays laidKn (by kernel_rfl) (of_decide_eq_true (by kernel_rfl)) k0 (fun x hx => hg.same (hW'.lt x (by simp [hx]))) (fun x hx => hsp x (by simp [hx]))) (trodAll_cons_mk (WideElems.Trod_stays laidKn (by kernel_rfl) (of_decide_eq_true (by kernel_rfl)) k1 (fun x hx => hg.same (hW'.lt x (by simp [hx]))) (fun x hx => hsp x (by simp [hx]))) (trodAll_cons_mk (WideElems.Trod_stays laidKn (by kernel_rfl) (of_decide_eq_true (by kernel_rfl)) k2 (fun x hx => hg.same (hW'.lt x (by simp [hx]))) (fun x hx => hsp x (by simp [hx]))) trodAll_mk0)))) (fun _ _ => rfl) (by simp)
    hg (ok_one (by kernel_rfl) rfl (okWide_bool_mk Tryz.underlying4 _))⟩
theorem over : Rows.storeKeepsRow.holds Tryz.pinned (OpenSpec.ofChange Rows.storeKeepsSpec) :=
  OpenClaim.holds_of_wide 9 Tryz.f9 rfl rfl rfl rfl rfl rfl rfl ⟨rfl, rfl, rfl, rfl, rfl⟩ rfl rfl rfl rfl rfl (by kernel_rfl) Tryz.func9 (by kernel_rfl)
    (of_decide_eq_true (by kernel_rfl)) (by unfold Func.isWrapper; first | (rw [if_pos (by decide +kernel)]; kernel_rfl) | (rw [if_neg (by decide +kernel)]; exact ⟨rfl, rfl⟩))
    (fun os started H enc _ => lifted os started H enc)
theorem proved : Rows.StoreKeepsSaid :=
  over
#print axioms proved
end Go.Proofs.YtkcfmjlcijhieaaGreat.storeKeeps
