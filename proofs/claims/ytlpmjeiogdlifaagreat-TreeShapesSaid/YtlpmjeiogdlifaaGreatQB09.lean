/- A region whose order is open, some of whose operations make memory: what only reads is taken first, within a class of worlds in which all its steps stay; the rest is parted by order. More words for a region whose order is open: what only reads is taken first, though the last operation waits for it by way of others. Reading: page.Read, case 1. Reading: page.Read, case 2. Reading: page.Read, case 3. Reading: page.Read, its contract. -/
import Derived.Test.YtlpmjeiogdlifaaGreatQB00
import Derived.Test.YtlpmjeiogdlifaaGreatQB08
import Derived.Deep.RegionLaw
set_option linter.unusedSimpArgs false
set_option linter.unusedVariables false
namespace Go.Proofs.YtlpmjeiogdlifaaGreat
open Go.RowKit
section
variable {P : Program} {ops : Array Oper} {Q : Exit → Act → World → Prop} {md : Region.Mode} {C : World → Prop} {last : Nat}
def wpIn (P : Program) (md : Region.Mode) (ops : Array Oper) (last : Nat) (C : World → Prop) (Q : Exit → Act → World → Prop) : Nat → Array Bool → Act → World → Prop
  | 0, listed, a, w => (listed.getD last false = false → C w) ∧ Region.ready md ops listed = [] ∧ Q .normal a w
  | fuel + 1, listed, a, w => (listed.getD last false = false → C w) ∧ (Region.ready md ops listed = [] → Q .normal a w) ∧ ∀ i ∈ Region.ready md ops listed, wpOp P ops Q i (wpIn P md ops last C Q fuel (listed.setIfInBounds i true)) a w
theorem wpIn.cls : ∀ {fuel : Nat} {listed : Array Bool} {a : Act} {w : World}, wpIn P md ops last C Q fuel listed a w → listed.getD last false = false → C w
  | 0, _, _, _, h => h.1
  | _ + 1, _, _, _, h => h.1
theorem wpIn.any : ∀ (fuel : Nat) (listed : Array Bool) (a : Act) (w : World), wpIn P md ops last C Q fuel listed a w → wpAny P md ops Q fuel listed a w
  | 0, _, _, _, h => h.2
  | fuel + 1, _, _, _, h => ⟨h.2.1, fun i hi => wpOp_mono (fun a w h => wpIn.any fuel _ a w h) (h.2.2 i hi)⟩
def YieldsC (P : Program) (ops : Array Oper) (C : World → Prop) (o : Oper) (v : Value) (a : Act) : Prop :=
  (Region.wanted o (yielded ops a.tmps) = true ∧ ∀ w, C w → (execOp a.eval o).run P w = .ok (.value v) w) ∨ (Region.wanted o (yielded ops a.tmps) = false ∧ v = undef)
theorem YieldsC.wpOp {i : Nat} {o : Oper} {v : Value} {a : Act} (hi : ops[i]? = some o) (hy : YieldsC P ops C o v a) {K : Act → World → Prop} {w : World} (hC : C w) (h : K (a.put o.dst v) w) : wpOp P ops Q i K a w := by
  unfold Go.wpOp
  simp only [hi]
  rcases hy with ⟨hw, hv⟩ | ⟨hw, rfl⟩
  · simp only [hw, if_true, Oper.wp, hv w hC, Oper.upon]; exact .inl h
  · simp only [hw, Bool.false_eq_true, if_false]; exact h
theorem YieldsC.of_same {o : Oper} {v : Value} {a a' : Act} (hy : YieldsC P ops C o v a) (he : execOp a'.eval o = execOp a.eval o) (hw : Region.wanted o (yielded ops a'.tmps) = Region.wanted o (yielded ops a.tmps)) : YieldsC P ops C o v a' := by
  unfold YieldsC at *
  rw [he, hw]
  exact hy
theorem wpOp_putC {j : Nat} {oi oj : Oper} {v : Value} (hj : ops[j]? = some oj) (hap : oi.apart ops oj = true)
    (hsi : ∀ cs b, oi.op ≠ .select cs b) (hsj : ∀ cs b, oj.op ≠ .select cs b)
    (hQ : ∀ c a w, Q (.panic c) (a.put oi.dst v) w → Q (.panic c) a w) {K : Act → World → Prop} {a : Act} {w : World}
    (hy : YieldsC P ops C oi v a) (h : wpOp P ops Q j K (a.put oi.dst v) w) :
    wpOp P ops Q j (fun a' w' => YieldsC P ops C oi v a' ∧ K (a'.put oi.dst v) w') a w := by
  obtain ⟨h1, h2, h3⟩ := Oper.apart_spec hap
  have keep : ∀ (a : Act), YieldsC P ops C oi v a → ∀ u, YieldsC P ops C oi v (a.put oj.dst u) := fun a hy u =>
    hy.of_same (execOp_put oi hsi a oj.dst u h3) (wanted_put oi a oj.dst u h3)
  have keepD : ∀ d, YieldsC P ops C oi v { a with defers := d :: a.defers } := fun d => hy.of_same rfl rfl
  unfold wpOp at *
  simp only [hj] at *
  rw [wanted_put oj a oi.dst v h1] at h
  split
  · rename_i hw
    simp only [hw, if_true] at h
    rcases h with h | ⟨hasks, hlets⟩
    case inr => exact .inr ⟨by unfold Oper.asks at *; rw [execOp_put oj hsj a oi.dst v h1] at hasks; exact hasks, hlets⟩
    refine .inl ?_
    unfold Oper.wp at *
    rw [execOp_put oj hsj a oi.dst v h1] at h
    generalize (execOp a.eval oj).run P w = r at *
    cases r with
    | ok n w' =>
      cases n <;> simp only [Oper.upon] at h ⊢
      case value u => exact ⟨keep a hy u, by rw [← Act.put_comm a v u h2]; exact h⟩
      case skip => exact ⟨keep a hy _, by rw [← Act.put_comm a v undef h2]; exact h⟩
      case defer d =>
        refine ⟨keep _ (keepD d) _, ?_⟩
        rw [← Act.put_comm _ v undef h2, ← Act.put_defers]
        exact h
      case enter f args =>
        refine Calls.mono h fun e w'' he => ?_
        cases e with
        | returned u => exact ⟨keep a hy u, by rw [← Act.put_comm a v u h2]; exact he⟩
        | panicked c => exact hQ _ _ _ he
        | outgrown => exact he
      case row row args => exact Rows.mono h fun u w'' he => ⟨keep a hy u, by rw [← Act.put_comm a v u h2]; exact he⟩
    | halt x w' =>
      cases x <;> simp only [Oper.upon] at h ⊢
      case panic u => exact hQ _ _ _ h
  · rename_i hw
    simp only [hw] at h
    exact ⟨keep a hy _, by rw [← Act.put_comm a v undef h2]; exact h⟩
theorem wpIn_first {i : Nat} {oi ol : Oper} {v : Value} (hi : ops[i]? = some oi) (hsel : ∀ (j : Nat) (o : Oper) cs b, ops[j]? = some o → o.op ≠ .select cs b) (hil : i ≠ last) (hl : ops[last]? = some ol) (hle : ∃ e ∈ ol.after, Region.binds md e = true ∧ e.on = i)
    (hQ : ∀ c a w, Q (.panic c) (a.put oi.dst v) w → Q (.panic c) a w) :
    ∀ (fuel : Nat) (listed : Array Bool) (a : Act) (w : World),
      (∀ j oj, ops[j]? = some oj → j ≠ i → listed.getD j true = false → (∀ e ∈ oj.after, Region.binds md e = true → e.on ≠ i) → oi.apart ops oj = true) →
      i ∈ Region.ready md ops listed → listed.getD last false = false → C w → YieldsC P ops C oi v a →
      wpIn P md ops last C Q fuel (listed.setIfInBounds i true) (a.put oi.dst v) w → wpIn P md ops last C Q (fuel + 1) listed a w := by
  intro fuel
  induction fuel with
  | zero =>
    intro listed a w _ hr hll hC hy H
    refine ⟨fun _ => hC, fun h => (by rw [h] at hr; cases hr), fun j hj => ?_⟩
    by_cases hji : j = i
    · subst hji; exact hy.wpOp hi hC H
    · have := ready_mono hj hji
      rw [H.2.1] at this
      cases this
  | succ fuel ih =>
    intro listed a w hfree hr hll hC hy H
    refine ⟨fun _ => hC, fun h => (by rw [h] at hr; cases hr), fun j hj => ?_⟩
    by_cases hji : j = i
    · subst hji; exact hy.wpOp hi hC H
    · have h1 := H.2.2 j (ready_mono hj hji)
      obtain ⟨hjun, oj, hoj, hall⟩ := mem_ready.1 hj
      have hnot : ∀ e ∈ oj.after, Region.binds md e = true → e.on ≠ i := fun e he hb heq => by
        have h1 := hall e he hb
        have h0 := (mem_ready.1 hr).1
        rw [heq] at h1
        rcases Nat.lt_or_ge i listed.size with h' | h'
        · simp [h'] at h0 h1; rw [h0] at h1; cases h1
        · simp [Array.getElem?_eq_none h'] at h1
      have hjl : j ≠ last := fun e => by
        subst e
        obtain rfl : oj = ol := Option.some.inj (hoj.symm.trans hl)
        obtain ⟨e, he, hb, hon⟩ := hle
        exact hnot e he hb hon
      have hll' : (listed.setIfInBounds j true).getD last false = false := by rw [getD_set_ne false hjl]; exact hll
      have hll2 : ((listed.setIfInBounds i true).setIfInBounds j true).getD last false = false := by rw [getD_set_ne false hjl, getD_set_ne false hil]; exact hll
      have h2 := wpOp_putC hoj (hfree j oj hoj hji hjun hnot) (fun cs b => hsel i oi cs b hi) (fun cs b => hsel j oj cs b hoj) hQ hy h1
      have hfree' : ∀ k ok, ops[k]? = some ok → k ≠ i → (listed.setIfInBounds j true).getD k true = false →
          (∀ e ∈ ok.after, Region.binds md e = true → e.on ≠ i) → oi.apart ops ok = true := fun k ok hk hki hun hno => by
        refine hfree k ok hk hki ?_ hno
        by_cases hjk : j = k
        · subst hjk; exact hjun
        · rw [getD_set_ne true hjk] at hun; exact hun
      refine wpOp_mono (fun a' w' h3 => ih (listed.setIfInBounds j true) a' w' hfree' (ready_mono hr (Ne.symm hji)) hll' (wpIn.cls h3.2 hll2) h3.1 ?_) h2
      rw [Array.setIfInBounds_comm _ _ hji]
      exact h3.2
def waitsB (md : Region.Mode) (ops : Array Oper) (last i : Nat) : Bool := i != last && match ops[last]? with | none => false | some ol => ol.after.any fun e => Region.binds md e && e.on == i
theorem waitsB_spec {last i : Nat} (h : waitsB md ops last i = true) : i ≠ last ∧ ∃ ol, ops[last]? = some ol ∧ ∃ e ∈ ol.after, Region.binds md e = true ∧ e.on = i := by
  unfold waitsB at h
  rw [Bool.and_eq_true] at h
  obtain ⟨h1, h2⟩ := h
  refine ⟨by simpa using h1, ?_⟩
  cases ho : ops[last]? with
  | none => rw [ho] at h2; simp at h2
  | some ol =>
    rw [ho] at h2
    obtain ⟨e, he, h3⟩ := Array.any_eq_true'.1 h2
    rw [Bool.and_eq_true] at h3
    exact ⟨ol, rfl, e, he, h3.1, by simpa using h3.2⟩
theorem wpIn_take (i : Nat) {oi : Oper} (v : Value) {fuel : Nat} {listed : Array Bool} {a : Act} {w : World} (hi : ops[i]? = some oi)
    (hs : Region.noSelect ops = true) (hf : Region.free md ops listed i = true) (hr : (Region.ready md ops listed).contains i = true) (hwt : waitsB md ops last i = true) (hll : listed.getD last false = false)
    (hw : Region.wanted oi (yielded ops a.tmps) = true) (hQ : ∀ c a w, Q (.panic c) (a.put oi.dst v) w → Q (.panic c) a w) (hC : C w) (hy : ∀ w, C w → (execOp a.eval oi).run P w = .ok (.value v) w)
    (h : wpIn P md ops last C Q fuel (listed.setIfInBounds i true) (a.put oi.dst v) w) : wpIn P md ops last C Q (fuel + 1) listed a w := by
  obtain ⟨h1, ol, h2, h3⟩ := waitsB_spec hwt
  exact wpIn_first hi (Region.noSelect_spec hs) h1 h2 h3 hQ fuel listed a w (Region.free_spec hi hf) (by simpa using hr) hll hC (.inl ⟨hw, hy⟩) h
theorem wpIn_done {listed : Array Bool} {a : Act} {w : World} (hr : Region.ready md ops listed = []) (hl : listed.getD last false = true) (h : Q .normal a w) : ∀ fuel, wpIn P md ops last C Q fuel listed a w
  | 0 => ⟨(fun e => by rw [hl] at e; cases e), hr, h⟩
  | _ + 1 => ⟨(fun e => by rw [hl] at e; cases e), fun _ => h, fun i hi => by rw [hr] at hi; cases hi⟩
theorem wpIn_one (i : Nat) {o : Oper} {fuel : Nat} {listed : Array Bool} {a : Act} {w : World} (hi : ops[i]? = some o) (hr : Region.ready md ops listed = [i]) (hC : listed.getD last false = false → C w) (hw : Region.wanted o (yielded ops a.tmps) = true)
    (h : Oper.wp P o a w (wpIn P md ops last C Q fuel (listed.setIfInBounds i true)) Q) : wpIn P md ops last C Q (fuel + 1) listed a w := by
  refine ⟨hC, fun h0 => absurd (hr.symm.trans h0) (by simp), fun j hj => ?_⟩
  rw [hr] at hj
  obtain rfl := List.mem_singleton.1 hj
  exact wpOp_step hi fun K hK => by rw [if_pos hw]; exact Oper.wp_mono hK h
theorem wpIn_two (i j : Nat) {o o' : Oper} {fuel : Nat} {listed : Array Bool} {a : Act} {w : World} (hi : ops[i]? = some o) (hj : ops[j]? = some o') (hr : Region.ready md ops listed = [i, j]) (hC : listed.getD last false = false → C w)
    (hw : Region.wanted o (yielded ops a.tmps) = true) (hw' : Region.wanted o' (yielded ops a.tmps) = true)
    (h : Oper.wp P o a w (wpIn P md ops last C Q fuel (listed.setIfInBounds i true)) Q) (h' : Oper.wp P o' a w (wpIn P md ops last C Q fuel (listed.setIfInBounds j true)) Q) : wpIn P md ops last C Q (fuel + 1) listed a w := by
  refine ⟨hC, fun h0 => absurd (hr.symm.trans h0) (by simp), fun k hk => ?_⟩
  rw [hr] at hk
  rcases List.mem_cons.1 hk with rfl | hk
  · exact wpOp_step hi fun K hK => by rw [if_pos hw]; exact Oper.wp_mono hK h
  · obtain rfl := List.mem_singleton.1 hk
    exact wpOp_step hj fun K hK => by rw [if_pos hw']; exact Oper.wp_mono hK h'
theorem wp_region_in (n last : Nat) {id : Nat} {a : Act} {w : World} (C : World → Prop) (hm : P.follows .mixedOrders = true) (hn : ops.size = n) (h : wpIn P .any ops last C Q n (Array.replicate n false) a w.drew) : (Code.region id ops true).wp P Q a w :=
  wp_region_any hm (wpIn.any _ _ _ _ (by rw [hn]; exact h))
end
end Go.Proofs.YtlpmjeiogdlifaaGreat
namespace Go.Proofs.YtlpmjeiogdlifaaGreat
open Go.RowKit
section
variable {P : Program} {ops : Array Oper} {Q : Exit → Act → World → Prop} {md : Region.Mode} {C : World → Prop} {last : Nat}
def edgeB (md : Region.Mode) (ops : Array Oper) (i j : Nat) : Bool := match ops[j]? with | none => false | some oj => oj.after.any fun e => Region.binds md e && e.on == i
theorem edgeB_spec {i j : Nat} (h : edgeB md ops i j = true) : ∃ oj, ops[j]? = some oj ∧ ∃ e ∈ oj.after, Region.binds md e = true ∧ e.on = i := by
  unfold edgeB at h
  cases ho : ops[j]? with
  | none => rw [ho] at h; cases h
  | some oj =>
    rw [ho] at h
    obtain ⟨e, he, h3⟩ := Array.any_eq_true'.1 h
    rw [Bool.and_eq_true] at h3
    exact ⟨oj, rfl, e, he, h3.1, by simpa using h3.2⟩
def chainB (md : Region.Mode) (ops : Array Oper) (last : Nat) : Nat → List Nat → Bool
  | _, [] => false
  | i, j :: l => edgeB md ops i j && (match l with | [] => j == last | _ :: _ => chainB md ops last j l)
def Shut (md : Region.Mode) (ops : Array Oper) (listed : Array Bool) : Prop := ∀ (j : Nat) (oj : Oper), ops[j]? = some oj → listed.getD j false = true → ∀ e ∈ oj.after, Region.binds md e = true → listed.getD e.on false = true
def shutB (md : Region.Mode) (ops : Array Oper) (listed : Array Bool) : Bool := (List.range listed.size).all fun j => !listed.getD j false || (match ops[j]? with | none => true | some oj => oj.after.all fun e => !Region.binds md e || listed.getD e.on false)
theorem shutB_spec {listed : Array Bool} (h : shutB md ops listed = true) : Shut md ops listed := by
  intro j oj hj hl e he hb
  have hjs : j < listed.size := by
    rcases Nat.lt_or_ge j listed.size with h' | h'
    · exact h'
    · simp [Array.getElem?_eq_none h'] at hl
  have h1 := (List.all_eq_true.1 h) j (List.mem_range.2 hjs)
  rw [hl, hj] at h1
  have h2 : (oj.after.all fun e => !Region.binds md e || listed.getD e.on false) = true := by simpa using h1
  have h3 := (Array.all_eq_true_iff_forall_mem.1 h2) e he
  rw [hb] at h3
  simpa using h3
theorem Shut.step {listed : Array Bool} {j : Nat} (h : Shut md ops listed) (hj : j ∈ Region.ready md ops listed) : Shut md ops (listed.setIfInBounds j true) := by
  obtain ⟨hjun, oj, hoj, hall⟩ := mem_ready.1 hj
  intro k ok hk hl e he hb
  by_cases hjk : j = k
  · subst hjk
    obtain rfl : oj = ok := Option.some.inj (hoj.symm.trans hk)
    exact getD_set_true (hall e he hb)
  · rw [getD_set_ne false hjk] at hl
    exact getD_set_true (h k ok hk hl e he hb)
theorem chain_late : ∀ {l : List Nat} {i : Nat} {listed : Array Bool}, chainB md ops last i l = true → Shut md ops listed → listed.getD i false = false → last ∉ Region.ready md ops listed ∧ (listed.getD last false = false)
  | [], _, _, h, _, _ => by cases h
  | j :: [], i, listed, h, hs, hi => by
    unfold chainB at h
    rw [Bool.and_eq_true] at h
    obtain ⟨oj, hoj, e, he, hb, rfl⟩ := edgeB_spec h.1
    have hjl : j = last := by simpa using h.2
    subst hjl
    refine ⟨fun hr => ?_, ?_⟩
    · obtain ⟨_, o', ho', hall⟩ := mem_ready.1 hr
      obtain rfl : oj = o' := Option.some.inj (hoj.symm.trans ho')
      rw [hall e he hb] at hi
      cases hi
    · cases hl : listed.getD j false with
      | false => rfl
      | true =>
        rw [hs j oj hoj hl e he hb] at hi
        cases hi
  | j :: k :: l, i, listed, h, hs, hi => by
    unfold chainB at h
    rw [Bool.and_eq_true] at h
    obtain ⟨oj, hoj, e, he, hb, rfl⟩ := edgeB_spec h.1
    refine chain_late h.2 hs ?_
    cases hl : listed.getD j false with
    | false => rfl
    | true =>
      rw [hs j oj hoj hl e he hb] at hi
      cases hi
theorem wpIn_first2 {i : Nat} {oi : Oper} {v : Value} {l : List Nat} (hi : ops[i]? = some oi) (hsel : ∀ (j : Nat) (o : Oper) cs b, ops[j]? = some o → o.op ≠ .select cs b) (hil : i ≠ last) (hch : chainB md ops last i l = true)
    (hQ : ∀ c a w, Q (.panic c) (a.put oi.dst v) w → Q (.panic c) a w) :
    ∀ (fuel : Nat) (listed : Array Bool) (a : Act) (w : World),
      (∀ j oj, ops[j]? = some oj → j ≠ i → listed.getD j true = false → (∀ e ∈ oj.after, Region.binds md e = true → e.on ≠ i) → oi.apart ops oj = true) → Shut md ops listed →
      i ∈ Region.ready md ops listed → listed.getD last false = false → C w → YieldsC P ops C oi v a →
      wpIn P md ops last C Q fuel (listed.setIfInBounds i true) (a.put oi.dst v) w → wpIn P md ops last C Q (fuel + 1) listed a w := by
  intro fuel
  induction fuel with
  | zero =>
    intro listed a w _ _ hr hll hC hy H
    refine ⟨fun _ => hC, fun h => (by rw [h] at hr; cases hr), fun j hj => ?_⟩
    by_cases hji : j = i
    · subst hji; exact hy.wpOp hi hC H
    · have := ready_mono hj hji
      rw [H.2.1] at this
      cases this
  | succ fuel ih =>
    intro listed a w hfree hsh hr hll hC hy H
    refine ⟨fun _ => hC, fun h => (by rw [h] at hr; cases hr), fun j hj => ?_⟩
    by_cases hji : j = i
    · subst hji; exact hy.wpOp hi hC H
    · have h1 := H.2.2 j (ready_mono hj hji)
      obtain ⟨hjun, oj, hoj, hall⟩ := mem_ready.1 hj
      have h0 := (mem_ready.1 hr).1
      have hif : listed.getD i false = false := by
        rcases Nat.lt_or_ge i listed.size with h' | h'
        · simp [h'] at h0 ⊢; exact h0
        · simp [Array.getElem?_eq_none h'] at h0
      have hnot : ∀ e ∈ oj.after, Region.binds md e = true → e.on ≠ i := fun e he hb heq => by
        have h1 := hall e he hb
        rw [heq, hif] at h1
        cases h1
      have hjl : j ≠ last := fun e => by
        subst e
        exact (chain_late hch hsh hif).1 hj
      have hll' : (listed.setIfInBounds j true).getD last false = false := by rw [getD_set_ne false hjl]; exact hll
      have hll2 : ((listed.setIfInBounds i true).setIfInBounds j true).getD last false = false := by rw [getD_set_ne false hjl, getD_set_ne false hil]; exact hll
      have h2 := wpOp_putC hoj (hfree j oj hoj hji hjun hnot) (fun cs b => hsel i oi cs b hi) (fun cs b => hsel j oj cs b hoj) hQ hy h1
      have hfree' : ∀ k ok, ops[k]? = some ok → k ≠ i → (listed.setIfInBounds j true).getD k true = false →
          (∀ e ∈ ok.after, Region.binds md e = true → e.on ≠ i) → oi.apart ops ok = true := fun k ok hk hki hun hno => by
        refine hfree k ok hk hki ?_ hno
        by_cases hjk : j = k
        · subst hjk; exact hjun
        · rw [getD_set_ne true hjk] at hun; exact hun
      refine wpOp_mono (fun a' w' h3 => ih (listed.setIfInBounds j true) a' w' hfree' (hsh.step hj) (ready_mono hr (Ne.symm hji)) hll' (wpIn.cls h3.2 hll2) h3.1 ?_) h2
      rw [Array.setIfInBounds_comm _ _ hji]
      exact h3.2
theorem wpIn_takeV (i : Nat) (l : List Nat) {oi : Oper} (v : Value) {fuel : Nat} {listed : Array Bool} {a : Act} {w : World} (hi : ops[i]? = some oi)
    (hs : Region.noSelect ops = true) (hf : Region.free md ops listed i = true) (hr : (Region.ready md ops listed).contains i = true) (hne : (i != last) = true) (hch : chainB md ops last i l = true) (hsh : shutB md ops listed = true) (hll : listed.getD last false = false)
    (hw : Region.wanted oi (yielded ops a.tmps) = true) (hQ : ∀ c a w, Q (.panic c) (a.put oi.dst v) w → Q (.panic c) a w) (hC : C w) (hy : ∀ w, C w → (execOp a.eval oi).run P w = .ok (.value v) w)
    (h : wpIn P md ops last C Q fuel (listed.setIfInBounds i true) (a.put oi.dst v) w) : wpIn P md ops last C Q (fuel + 1) listed a w :=
  wpIn_first2 hi (Region.noSelect_spec hs) (by simpa using hne) hch hQ fuel listed a w (Region.free_spec hi hf) (shutB_spec hsh) (by simpa using hr) hll hC (.inl ⟨hw, hy⟩) h
end
end Go.Proofs.YtlpmjeiogdlifaaGreat
namespace Go.Proofs.YtlpmjeiogdlifaaGreat
open Go.RowKit
attribute [local go_sem low] mk_extract
attribute [local go_sem] After.cell After.frozen mk_extract_end ByteArray.mk_append_mk
set_option maxRecDepth 100000 in
set_option maxHeartbeats 1600000 in
theorem read1 (s : Txt) (w : World) (hs : s.length ≤ 4611686018427387904) (HS0 : Hid (s = [])) :
    Calls Tryz.prog 67 #[.string ⟨s.toArray⟩] w fun e w' => ∃ r, e = .returned (readV s r) ∧ (∀ M : Nat → Prop, (∀ k, w.heap.size ≤ k → ¬ M k) → PageRd w' M (readPg s) r) ∧ Below w.heap.size w w' := by
  have H0 := Lib.hid (Sp.Cut.u64_len ⟨s, false⟩)
  go_enter Tryz.func67, Tryz.ntmps67
  go_wp2_with (go_at_call 119; refine (cutNew_any s _).mono ?_; rintro e w1 ⟨rfl, hw1⟩)
  have B0 := Lib.hid (((Blk.new w PageT (zPage 0)).alloc (.cells #[.string ⟨s.toArray⟩, badV false] 238)).alloc (.cells #[.pointer (some ⟨w.heap.size + 1, 0, none⟩)] 184))
  have C0 := Lib.hid ((blk_second w (.cells (zPage 0) PageT) 238 #[.string ⟨s.toArray⟩, badV false]).alloc (.cells #[.pointer (some ⟨w.heap.size + 1, 0, none⟩)] 184))
  have R0 := Lib.hid (Blk.new ((w.alloc (.cells (zPage 0) PageT)).alloc (.cells #[.string ⟨s.toArray⟩, badV false] 238)) 184 #[.pointer (some ⟨w.heap.size + 1, 0, none⟩)])
  have K0 := Lib.hid ((((Chg.refl (OneM (w.heap.size + 1)) w).alloc (.cells (zPage 0) PageT)).alloc (.cells #[.string ⟨s.toArray⟩, badV false] 238)).alloc (.cells #[.pointer (some ⟨w.heap.size + 1, 0, none⟩)] 184))
  refine (cutNum_any (w.heap.size + 1) s false _ hs C0.out).mono ?_
  rintro e w1 ⟨rfl, hc1, hk1⟩
  have hz1 := hk1.size
  simp only [World.size_alloc] at hz1
  have B1 := Lib.hid (B0.out.chg hk1 (by unfold OneM; omega))
  have R1 := Lib.hid (R0.out.chg hk1 (by unfold OneM; simp))
  have r1 := R1.out.at1
  simp only [World.size_alloc] at r1
  have K1 := Lib.hid (K0.out.trans hk1)
  have C1 := Lib.hid (show CutAt w1 (w.heap.size + 1) (Sp.Cut.u64 ⟨s, false⟩).2.s (Sp.Cut.u64 ⟨s, false⟩).2.bad from hc1)
  clear hc1 hk1
  go_wp2_with fail
  refine (rdPage_any (w.heap.size + 1) (Sp.Cut.u64 ⟨s, false⟩).2 _ (Nat.le_trans H0.out hs) C1.out).mono ?_
  rintro e w2 ⟨r, rfl, hp, hc2, hk2⟩
  rw [show (Sp.Cut.u64 ⟨s, false⟩).2.page.1 = Sp.parse s from rfl] at *
  have hz2 := hk2.size
  have K2 := Lib.hid (K1.out.trans hk2)
  have B2 := Lib.hid (B1.out.chg hk2 (by unfold OneM; omega))
  have HP := Lib.hid (fun M h => (hp M h).chg ((Chg.refl M w2).alloc (.cells (pageV (Sp.parse s) r).toArray PageT)))
  have HO := Lib.hid (show Sp.readOk s = (decide (s ≠ []) && decide (Sp.bytes (Sp.parse s) = s)) from rfl)
  have HRV := Lib.hid (show readV s = fun r => if Sp.readOk s then .tuple #[.agg (pageV (Sp.parse s) r).toArray, .nilIface] else .tuple #[.agg (pageV Sp.pg0 r).toArray, .iface 69 (.int .i64 12)] from rfl)
  have HRP := Lib.hid (show readPg s = if Sp.readOk s then Sp.parse s else Sp.pg0 from rfl)
  have hs0 := HS0.out
  have hok : Sp.readOk s = false := by unfold Sp.readOk; simp [hs0]
  have HOK := Lib.hid hok
  clear hok
  clear HS0
  subst hs0
  have hsz2 : w.heap.size < w2.heap.size := by omega
  have hq0 := hp
  generalize Sp.parse [] = p at *
  have B3 := Lib.hid (B2.out.alloc (.cells #[.int .i64 p.kind, .slice r.I p.items.length r.i, .slice r.K p.keys.length r.k, .slice r.D p.kids.length r.d, .string ⟨p.text.toArray⟩, .slice r.V p.vals.length r.v, .slice r.F p.free.length r.f, .int .i64 p.next, .int .u64 p.mt.txn, .int .i64 p.mt.main.page, .int .i64 p.mt.main.count, .int .i64 p.mt.main.flags, .int .i64 p.mt.free, .int .i64 p.mt.last] PageT))
  have P3 := Lib.hid (Blk.new w2 PageT #[.int .i64 p.kind, .slice r.I p.items.length r.i, .slice r.K p.keys.length r.k, .slice r.D p.kids.length r.d, .string ⟨p.text.toArray⟩, .slice r.V p.vals.length r.v, .slice r.F p.free.length r.f, .int .i64 p.next, .int .u64 p.mt.txn, .int .i64 p.mt.main.page, .int .i64 p.mt.main.count, .int .i64 p.mt.main.flags, .int .i64 p.mt.free, .int .i64 p.mt.last])
  have K3 := Lib.hid (K2.out.alloc (.cells #[.int .i64 p.kind, .slice r.I p.items.length r.i, .slice r.K p.keys.length r.k, .slice r.D p.kids.length r.d, .string ⟨p.text.toArray⟩, .slice r.V p.vals.length r.v, .slice r.F p.free.length r.f, .int .i64 p.next, .int .u64 p.mt.txn, .int .i64 p.mt.main.page, .int .i64 p.mt.main.count, .int .i64 p.mt.main.flags, .int .i64 p.mt.free, .int .i64 p.mt.last] PageT))
  have HP := Lib.hid (fun M h => (hp M h).chg ((Chg.refl M w2).alloc (.cells #[.int .i64 p.kind, .slice r.I p.items.length r.i, .slice r.K p.keys.length r.k, .slice r.D p.kids.length r.d, .string ⟨p.text.toArray⟩, .slice r.V p.vals.length r.v, .slice r.F p.free.length r.f, .int .i64 p.next, .int .u64 p.mt.txn, .int .i64 p.mt.main.page, .int .i64 p.mt.main.count, .int .i64 p.mt.main.flags, .int .i64 p.mt.free, .int .i64 p.mt.last] PageT)))
  have hsz3 : w2.heap.size < (w2.alloc (.cells #[.int .i64 p.kind, .slice r.I p.items.length r.i, .slice r.K p.keys.length r.k, .slice r.D p.kids.length r.d, .string ⟨p.text.toArray⟩, .slice r.V p.vals.length r.v, .slice r.F p.free.length r.f, .int .i64 p.next, .int .u64 p.mt.txn, .int .i64 p.mt.main.page, .int .i64 p.mt.main.count, .int .i64 p.mt.main.flags, .int .i64 p.mt.free, .int .i64 p.mt.last] PageT)).heap.size := by simp
  clear hp hq0 hc2 hk2 B2 K2
  simp only [pageV, mtV]
  go_upto_region 4 with fail
  generalize w2.alloc (.cells #[.int .i64 p.kind, .slice r.I p.items.length r.i, .slice r.K p.keys.length r.k, .slice r.D p.kids.length r.d, .string ⟨p.text.toArray⟩, .slice r.V p.vals.length r.v, .slice r.F p.free.length r.f, .int .i64 p.next, .int .u64 p.mt.txn, .int .i64 p.mt.main.page, .int .i64 p.mt.main.count, .int .i64 p.mt.main.flags, .int .i64 p.mt.free, .int .i64 p.mt.last] PageT) = w3 at *
  obtain ⟨⟨za, zb, zc, zd, ze, zf, zg, zh, zi, zj, zk, zl, zm, zn⟩, qa, qb, qc, qd, qe, qf, qg, qh, qi, qj, qk, ql, qm, qn⟩ := B3.out.at14
  clear B3 P3
  go_wp2
  refine bodyPost_ret (v := .tuple #[.agg (pageV Sp.pg0 refs0).toArray, .iface 69 (.int .i64 12)]) (by simp [results, Tryz.results67, go_sem, za, zb, zc, zd, ze, zf, zg, zh, zi, zj, zk, zl, zm, zn, qa, qb, qc, qd, qe, qf, qg, qh, qi, qj, qk, ql, qm, qn, pageV, mtV, Sp.pg0, Sp.mt0, Sp.root0, refs0]) rfl ⟨refs0, by simp [readV, HOK.out], fun M hM => by unfold readPg; rw [HOK.out]; exact pageRd0 _ _ _, ?_⟩
  refine Chg.below (S := OneM (w.heap.size + 1)) ?_ (Nat.le_refl _) (fun k hk e => by unfold OneM at e; omega)
  iterate 14 (refine Chg.setCell ?_ (.inr (by simp only; omega)) _)
  exact K3.out
end Go.Proofs.YtlpmjeiogdlifaaGreat
namespace Go.Proofs.YtlpmjeiogdlifaaGreat
open Go.RowKit
attribute [local go_sem low] mk_extract
attribute [local go_sem] After.cell After.frozen mk_extract_end ByteArray.mk_append_mk
set_option maxRecDepth 100000 in
set_option maxHeartbeats 1600000 in
theorem read2 (b0 : UInt8) (s0 s : Txt) (w : World) (hs : s.length ≤ 4611686018427387904) (HS0 : Hid (s = b0 :: s0)) (HBB : Hid (Sp.bytes (Sp.parse s) ≠ s)) :
    Calls Tryz.prog 67 #[.string ⟨s.toArray⟩] w fun e w' => ∃ r, e = .returned (readV s r) ∧ (∀ M : Nat → Prop, (∀ k, w.heap.size ≤ k → ¬ M k) → PageRd w' M (readPg s) r) ∧ Below w.heap.size w w' := by
  have H0 := Lib.hid (Sp.Cut.u64_len ⟨s, false⟩)
  go_enter Tryz.func67, Tryz.ntmps67
  go_wp2_with (go_at_call 119; refine (cutNew_any s _).mono ?_; rintro e w1 ⟨rfl, hw1⟩)
  have B0 := Lib.hid (((Blk.new w PageT (zPage 0)).alloc (.cells #[.string ⟨s.toArray⟩, badV false] 238)).alloc (.cells #[.pointer (some ⟨w.heap.size + 1, 0, none⟩)] 184))
  have C0 := Lib.hid ((blk_second w (.cells (zPage 0) PageT) 238 #[.string ⟨s.toArray⟩, badV false]).alloc (.cells #[.pointer (some ⟨w.heap.size + 1, 0, none⟩)] 184))
  have R0 := Lib.hid (Blk.new ((w.alloc (.cells (zPage 0) PageT)).alloc (.cells #[.string ⟨s.toArray⟩, badV false] 238)) 184 #[.pointer (some ⟨w.heap.size + 1, 0, none⟩)])
  have K0 := Lib.hid ((((Chg.refl (OneM (w.heap.size + 1)) w).alloc (.cells (zPage 0) PageT)).alloc (.cells #[.string ⟨s.toArray⟩, badV false] 238)).alloc (.cells #[.pointer (some ⟨w.heap.size + 1, 0, none⟩)] 184))
  refine (cutNum_any (w.heap.size + 1) s false _ hs C0.out).mono ?_
  rintro e w1 ⟨rfl, hc1, hk1⟩
  have hz1 := hk1.size
  simp only [World.size_alloc] at hz1
  have B1 := Lib.hid (B0.out.chg hk1 (by unfold OneM; omega))
  have R1 := Lib.hid (R0.out.chg hk1 (by unfold OneM; simp))
  have r1 := R1.out.at1
  simp only [World.size_alloc] at r1
  have K1 := Lib.hid (K0.out.trans hk1)
  have C1 := Lib.hid (show CutAt w1 (w.heap.size + 1) (Sp.Cut.u64 ⟨s, false⟩).2.s (Sp.Cut.u64 ⟨s, false⟩).2.bad from hc1)
  clear hc1 hk1
  go_wp2_with fail
  refine (rdPage_any (w.heap.size + 1) (Sp.Cut.u64 ⟨s, false⟩).2 _ (Nat.le_trans H0.out hs) C1.out).mono ?_
  rintro e w2 ⟨r, rfl, hp, hc2, hk2⟩
  rw [show (Sp.Cut.u64 ⟨s, false⟩).2.page.1 = Sp.parse s from rfl] at *
  have hz2 := hk2.size
  have K2 := Lib.hid (K1.out.trans hk2)
  have B2 := Lib.hid (B1.out.chg hk2 (by unfold OneM; omega))
  have HP := Lib.hid (fun M h => (hp M h).chg ((Chg.refl M w2).alloc (.cells (pageV (Sp.parse s) r).toArray PageT)))
  have HO := Lib.hid (show Sp.readOk s = (decide (s ≠ []) && decide (Sp.bytes (Sp.parse s) = s)) from rfl)
  have HRV := Lib.hid (show readV s = fun r => if Sp.readOk s then .tuple #[.agg (pageV (Sp.parse s) r).toArray, .nilIface] else .tuple #[.agg (pageV Sp.pg0 r).toArray, .iface 69 (.int .i64 12)] from rfl)
  have HRP := Lib.hid (show readPg s = if Sp.readOk s then Sp.parse s else Sp.pg0 from rfl)
  have hs0 := HS0.out
  have hok : Sp.readOk s = decide (Sp.bytes (Sp.parse s) = s) := by unfold Sp.readOk; simp [hs0]
  have HOK := Lib.hid hok
  clear hok
  clear HS0
  subst hs0
  have hsz2 : w.heap.size < w2.heap.size := by omega
  have hq0 := hp
  generalize Sp.parse (b0 :: s0) = p at *
  have B3 := Lib.hid (B2.out.alloc (.cells #[.int .i64 p.kind, .slice r.I p.items.length r.i, .slice r.K p.keys.length r.k, .slice r.D p.kids.length r.d, .string ⟨p.text.toArray⟩, .slice r.V p.vals.length r.v, .slice r.F p.free.length r.f, .int .i64 p.next, .int .u64 p.mt.txn, .int .i64 p.mt.main.page, .int .i64 p.mt.main.count, .int .i64 p.mt.main.flags, .int .i64 p.mt.free, .int .i64 p.mt.last] PageT))
  have P3 := Lib.hid (Blk.new w2 PageT #[.int .i64 p.kind, .slice r.I p.items.length r.i, .slice r.K p.keys.length r.k, .slice r.D p.kids.length r.d, .string ⟨p.text.toArray⟩, .slice r.V p.vals.length r.v, .slice r.F p.free.length r.f, .int .i64 p.next, .int .u64 p.mt.txn, .int .i64 p.mt.main.page, .int .i64 p.mt.main.count, .int .i64 p.mt.main.flags, .int .i64 p.mt.free, .int .i64 p.mt.last])
  have K3 := Lib.hid (K2.out.alloc (.cells #[.int .i64 p.kind, .slice r.I p.items.length r.i, .slice r.K p.keys.length r.k, .slice r.D p.kids.length r.d, .string ⟨p.text.toArray⟩, .slice r.V p.vals.length r.v, .slice r.F p.free.length r.f, .int .i64 p.next, .int .u64 p.mt.txn, .int .i64 p.mt.main.page, .int .i64 p.mt.main.count, .int .i64 p.mt.main.flags, .int .i64 p.mt.free, .int .i64 p.mt.last] PageT))
  have HP := Lib.hid (fun M h => (hp M h).chg ((Chg.refl M w2).alloc (.cells #[.int .i64 p.kind, .slice r.I p.items.length r.i, .slice r.K p.keys.length r.k, .slice r.D p.kids.length r.d, .string ⟨p.text.toArray⟩, .slice r.V p.vals.length r.v, .slice r.F p.free.length r.f, .int .i64 p.next, .int .u64 p.mt.txn, .int .i64 p.mt.main.page, .int .i64 p.mt.main.count, .int .i64 p.mt.main.flags, .int .i64 p.mt.free, .int .i64 p.mt.last] PageT)))
  have hsz3 : w2.heap.size < (w2.alloc (.cells #[.int .i64 p.kind, .slice r.I p.items.length r.i, .slice r.K p.keys.length r.k, .slice r.D p.kids.length r.d, .string ⟨p.text.toArray⟩, .slice r.V p.vals.length r.v, .slice r.F p.free.length r.f, .int .i64 p.next, .int .u64 p.mt.txn, .int .i64 p.mt.main.page, .int .i64 p.mt.main.count, .int .i64 p.mt.main.flags, .int .i64 p.mt.free, .int .i64 p.mt.last] PageT)).heap.size := by simp
  clear hp hq0 hc2 hk2 B2 K2
  have hb := HBB.out
  have hbq : (Sp.bytes p == b0 :: s0) = false := beq_eq_false_iff_ne.2 hb
  have HOK := Lib.hid (HOK.out.trans (decide_eq_false hb))
  simp only [pageV, mtV]
  go_upto_region 4 with fail
  generalize w2.alloc (.cells #[.int .i64 p.kind, .slice r.I p.items.length r.i, .slice r.K p.keys.length r.k, .slice r.D p.kids.length r.d, .string ⟨p.text.toArray⟩, .slice r.V p.vals.length r.v, .slice r.F p.free.length r.f, .int .i64 p.next, .int .u64 p.mt.txn, .int .i64 p.mt.main.page, .int .i64 p.mt.main.count, .int .i64 p.mt.main.flags, .int .i64 p.mt.free, .int .i64 p.mt.last] PageT) = w3 at *
  have hlw := P3.out.lt
  obtain ⟨⟨uua, uub, uuc, uud, uue, uuf, uug, uuh, uui, uuj, uuk, uul, uum, uun⟩, vva, vvb, vvc, vvd, vve, vvf, vvg, vvh, vvi, vvj, vvk, vvl, vvm, vvn⟩ := P3.out.at14
  go_wp2_with (go_at_call 122; refine (bytes_any (M := NoM) p r _ (HP.out _ (fun _ _ h => h))).mono ?_; rintro e w4 ⟨rfl, hb4⟩; have K4 := Lib.hid (Chg.trans K3.out (.of_below hb4)); have hz4 := hb4.size; have B4 := Lib.hid (B3.out.below hb4 B3.out.lt); have P4 := Lib.hid (P3.out.below hb4 P3.out.lt); have HP4 := Lib.hid (fun M h => (HP.out M h).chg (.of_below hb4)); obtain ⟨⟨za, zb, zc, zd, ze, zf, zg, zh, zi, zj, zk, zl, zm, zn⟩, qa, qb, qc, qd, qe, qf, qg, qh, qi, qj, qk, ql, qm, qn⟩ := B4.out.at14; obtain ⟨⟨xa, xb, xc, xd, xe, xf, xg, xh, xi, xj, xk, xl, xm, xn⟩, ya, yb, yc, yd, ye, yf, yg, yh, yi, yj, yk, yl, ym, yn⟩ := P4.out.at14; clear hb4 B3 P3 uua uub uuc uud uue uuf uug uuh uui uuj uuk uul uum uun vva vvb vvc vvd vve vvf vvg vvh vvi vvj vvk vvl vvm vvn)
  go_wp2
  refine bodyPost_ret (v := .tuple #[.agg (pageV Sp.pg0 refs0).toArray, .iface 69 (.int .i64 12)]) (by simp [results, Tryz.results67, go_sem, za, zb, zc, zd, ze, zf, zg, zh, zi, zj, zk, zl, zm, zn, qa, qb, qc, qd, qe, qf, qg, qh, qi, qj, qk, ql, qm, qn, pageV, mtV, Sp.pg0, Sp.mt0, Sp.root0, refs0]) rfl ⟨refs0, by simp [readV, HOK.out], fun M hM => by unfold readPg; rw [HOK.out]; exact pageRd0 _ _ _, ?_⟩
  refine Chg.below (S := OneM (w.heap.size + 1)) ?_ (Nat.le_refl _) (fun k hk e => by unfold OneM at e; omega)
  iterate 14 (refine Chg.setCell ?_ (.inr (by simp only; omega)) _)
  exact K4.out
end Go.Proofs.YtlpmjeiogdlifaaGreat
namespace Go.Proofs.YtlpmjeiogdlifaaGreat
open Go.RowKit
attribute [local go_sem low] mk_extract
attribute [local go_sem] After.cell After.frozen mk_extract_end ByteArray.mk_append_mk
set_option maxRecDepth 100000 in
set_option maxHeartbeats 1600000 in
theorem read3 (b0 : UInt8) (s0 s : Txt) (w : World) (hs : s.length ≤ 4611686018427387904) (HS0 : Hid (s = b0 :: s0)) (HBB : Hid (Sp.bytes (Sp.parse s) = s)) :
    Calls Tryz.prog 67 #[.string ⟨s.toArray⟩] w fun e w' => ∃ r, e = .returned (readV s r) ∧ (∀ M : Nat → Prop, (∀ k, w.heap.size ≤ k → ¬ M k) → PageRd w' M (readPg s) r) ∧ Below w.heap.size w w' := by
  have H0 := Lib.hid (Sp.Cut.u64_len ⟨s, false⟩)
  go_enter Tryz.func67, Tryz.ntmps67
  go_wp2_with (go_at_call 119; refine (cutNew_any s _).mono ?_; rintro e w1 ⟨rfl, hw1⟩)
  have B0 := Lib.hid (((Blk.new w PageT (zPage 0)).alloc (.cells #[.string ⟨s.toArray⟩, badV false] 238)).alloc (.cells #[.pointer (some ⟨w.heap.size + 1, 0, none⟩)] 184))
  have C0 := Lib.hid ((blk_second w (.cells (zPage 0) PageT) 238 #[.string ⟨s.toArray⟩, badV false]).alloc (.cells #[.pointer (some ⟨w.heap.size + 1, 0, none⟩)] 184))
  have R0 := Lib.hid (Blk.new ((w.alloc (.cells (zPage 0) PageT)).alloc (.cells #[.string ⟨s.toArray⟩, badV false] 238)) 184 #[.pointer (some ⟨w.heap.size + 1, 0, none⟩)])
  have K0 := Lib.hid ((((Chg.refl (OneM (w.heap.size + 1)) w).alloc (.cells (zPage 0) PageT)).alloc (.cells #[.string ⟨s.toArray⟩, badV false] 238)).alloc (.cells #[.pointer (some ⟨w.heap.size + 1, 0, none⟩)] 184))
  refine (cutNum_any (w.heap.size + 1) s false _ hs C0.out).mono ?_
  rintro e w1 ⟨rfl, hc1, hk1⟩
  have hz1 := hk1.size
  simp only [World.size_alloc] at hz1
  have B1 := Lib.hid (B0.out.chg hk1 (by unfold OneM; omega))
  have R1 := Lib.hid (R0.out.chg hk1 (by unfold OneM; simp))
  have r1 := R1.out.at1
  simp only [World.size_alloc] at r1
  have K1 := Lib.hid (K0.out.trans hk1)
  have C1 := Lib.hid (show CutAt w1 (w.heap.size + 1) (Sp.Cut.u64 ⟨s, false⟩).2.s (Sp.Cut.u64 ⟨s, false⟩).2.bad from hc1)
  clear hc1 hk1
  go_wp2_with fail
  refine (rdPage_any (w.heap.size + 1) (Sp.Cut.u64 ⟨s, false⟩).2 _ (Nat.le_trans H0.out hs) C1.out).mono ?_
  rintro e w2 ⟨r, rfl, hp, hc2, hk2⟩
  rw [show (Sp.Cut.u64 ⟨s, false⟩).2.page.1 = Sp.parse s from rfl] at *
  have hz2 := hk2.size
  have K2 := Lib.hid (K1.out.trans hk2)
  have B2 := Lib.hid (B1.out.chg hk2 (by unfold OneM; omega))
  have HP := Lib.hid (fun M h => (hp M h).chg ((Chg.refl M w2).alloc (.cells (pageV (Sp.parse s) r).toArray PageT)))
  have HO := Lib.hid (show Sp.readOk s = (decide (s ≠ []) && decide (Sp.bytes (Sp.parse s) = s)) from rfl)
  have HRV := Lib.hid (show readV s = fun r => if Sp.readOk s then .tuple #[.agg (pageV (Sp.parse s) r).toArray, .nilIface] else .tuple #[.agg (pageV Sp.pg0 r).toArray, .iface 69 (.int .i64 12)] from rfl)
  have HRP := Lib.hid (show readPg s = if Sp.readOk s then Sp.parse s else Sp.pg0 from rfl)
  have hs0 := HS0.out
  have hok : Sp.readOk s = decide (Sp.bytes (Sp.parse s) = s) := by unfold Sp.readOk; simp [hs0]
  have HOK := Lib.hid hok
  clear hok
  clear HS0
  subst hs0
  have hsz2 : w.heap.size < w2.heap.size := by omega
  have hq0 := hp
  have HPP := Lib.hid (rfl : Sp.parse (b0 :: s0) = Sp.parse (b0 :: s0))
  generalize hpp : Sp.parse (b0 :: s0) = p at *
  have HPE := Lib.hid hpp
  clear hpp HPP
  have B3 := Lib.hid (B2.out.alloc (.cells #[.int .i64 p.kind, .slice r.I p.items.length r.i, .slice r.K p.keys.length r.k, .slice r.D p.kids.length r.d, .string ⟨p.text.toArray⟩, .slice r.V p.vals.length r.v, .slice r.F p.free.length r.f, .int .i64 p.next, .int .u64 p.mt.txn, .int .i64 p.mt.main.page, .int .i64 p.mt.main.count, .int .i64 p.mt.main.flags, .int .i64 p.mt.free, .int .i64 p.mt.last] PageT))
  have P3 := Lib.hid (Blk.new w2 PageT #[.int .i64 p.kind, .slice r.I p.items.length r.i, .slice r.K p.keys.length r.k, .slice r.D p.kids.length r.d, .string ⟨p.text.toArray⟩, .slice r.V p.vals.length r.v, .slice r.F p.free.length r.f, .int .i64 p.next, .int .u64 p.mt.txn, .int .i64 p.mt.main.page, .int .i64 p.mt.main.count, .int .i64 p.mt.main.flags, .int .i64 p.mt.free, .int .i64 p.mt.last])
  have K3 := Lib.hid (K2.out.alloc (.cells #[.int .i64 p.kind, .slice r.I p.items.length r.i, .slice r.K p.keys.length r.k, .slice r.D p.kids.length r.d, .string ⟨p.text.toArray⟩, .slice r.V p.vals.length r.v, .slice r.F p.free.length r.f, .int .i64 p.next, .int .u64 p.mt.txn, .int .i64 p.mt.main.page, .int .i64 p.mt.main.count, .int .i64 p.mt.main.flags, .int .i64 p.mt.free, .int .i64 p.mt.last] PageT))
  have HP := Lib.hid (fun M h => (hp M h).chg ((Chg.refl M w2).alloc (.cells #[.int .i64 p.kind, .slice r.I p.items.length r.i, .slice r.K p.keys.length r.k, .slice r.D p.kids.length r.d, .string ⟨p.text.toArray⟩, .slice r.V p.vals.length r.v, .slice r.F p.free.length r.f, .int .i64 p.next, .int .u64 p.mt.txn, .int .i64 p.mt.main.page, .int .i64 p.mt.main.count, .int .i64 p.mt.main.flags, .int .i64 p.mt.free, .int .i64 p.mt.last] PageT)))
  have hsz3 : w2.heap.size < (w2.alloc (.cells #[.int .i64 p.kind, .slice r.I p.items.length r.i, .slice r.K p.keys.length r.k, .slice r.D p.kids.length r.d, .string ⟨p.text.toArray⟩, .slice r.V p.vals.length r.v, .slice r.F p.free.length r.f, .int .i64 p.next, .int .u64 p.mt.txn, .int .i64 p.mt.main.page, .int .i64 p.mt.main.count, .int .i64 p.mt.main.flags, .int .i64 p.mt.free, .int .i64 p.mt.last] PageT)).heap.size := by simp
  clear hp hq0 hc2 hk2 B2 K2
  have hb := HBB.out
  have HOK := Lib.hid (HOK.out.trans (decide_eq_true hb))
  simp only [pageV, mtV]
  go_upto_region 4 with fail
  generalize w2.alloc (.cells #[.int .i64 p.kind, .slice r.I p.items.length r.i, .slice r.K p.keys.length r.k, .slice r.D p.kids.length r.d, .string ⟨p.text.toArray⟩, .slice r.V p.vals.length r.v, .slice r.F p.free.length r.f, .int .i64 p.next, .int .u64 p.mt.txn, .int .i64 p.mt.main.page, .int .i64 p.mt.main.count, .int .i64 p.mt.main.flags, .int .i64 p.mt.free, .int .i64 p.mt.last] PageT) = w3 at *
  have hlw := P3.out.lt
  obtain ⟨⟨uua, uub, uuc, uud, uue, uuf, uug, uuh, uui, uuj, uuk, uul, uum, uun⟩, vva, vvb, vvc, vvd, vve, vvf, vvg, vvh, vvi, vvj, vvk, vvl, vvm, vvn⟩ := P3.out.at14
  go_wp2_with (go_at_call 122; refine (bytes_any (M := NoM) p r _ (HP.out _ (fun _ _ h => h))).mono ?_; rintro e w4 ⟨rfl, hb4⟩; have K4 := Lib.hid (Chg.trans K3.out (.of_below hb4)); have hz4 := hb4.size; have B4 := Lib.hid (B3.out.below hb4 B3.out.lt); have P4 := Lib.hid (P3.out.below hb4 P3.out.lt); have HP4 := Lib.hid (fun M h => (HP.out M h).chg (.of_below hb4)); obtain ⟨⟨za, zb, zc, zd, ze, zf, zg, zh, zi, zj, zk, zl, zm, zn⟩, qa, qb, qc, qd, qe, qf, qg, qh, qi, qj, qk, ql, qm, qn⟩ := B4.out.at14; obtain ⟨⟨xa, xb, xc, xd, xe, xf, xg, xh, xi, xj, xk, xl, xm, xn⟩, ya, yb, yc, yd, ye, yf, yg, yh, yi, yj, yk, yl, ym, yn⟩ := P4.out.at14; clear hb4 B3 P3 uua uub uuc uud uue uuf uug uuh uui uuj uuk uul uum uun vva vvb vvc vvd vve vvf vvg vvh vvi vvj vvk vvl vvm vvn)
  go_wp2
  refine bodyPost_ret (v := .tuple #[.agg (pageV p r).toArray, .nilIface]) (by simp [results, Tryz.results67, go_sem, za, zb, zc, zd, ze, zf, zg, zh, zi, zj, zk, zl, zm, zn, qa, qb, qc, qd, qe, qf, qg, qh, qi, qj, qk, ql, qm, qn, pageV, mtV]) rfl ⟨r, by simp [readV, HOK.out, HPE.out], fun M hM => ?_, ?_⟩
  · unfold readPg
    rw [HOK.out, if_pos rfl, HPE.out]
    refine PageRd.anti (M := fun k => M k ∨ k = w.heap.size) (PageRd.chg (HP4.out _ (fun k hk h => ?_)) ?_) (fun k h => .inl h)
    · rcases h with h | h
      · exact hM k (by omega) h
      · omega
    · iterate 14 (refine Chg.setCell ?_ (.inl (.inr rfl)) _)
      exact Chg.refl _ _
  refine Chg.below (S := OneM (w.heap.size + 1)) ?_ (Nat.le_refl _) (fun k hk e => by unfold OneM at e; omega)
  iterate 14 (refine Chg.setCell ?_ (.inr (by simp only; omega)) _)
  exact K4.out
end Go.Proofs.YtlpmjeiogdlifaaGreat
namespace Go.Proofs.YtlpmjeiogdlifaaGreat
open Go.RowKit
attribute [local go_sem low] mk_extract
attribute [local go_sem] After.cell After.frozen mk_extract_end ByteArray.mk_append_mk
theorem read_any (s : Txt) (w : World) (hs : s.length ≤ 4611686018427387904) :
    Calls Tryz.prog 67 #[.string ⟨s.toArray⟩] w fun e w' => ∃ r, e = .returned (readV s r) ∧ (∀ M : Nat → Prop, (∀ k, w.heap.size ≤ k → ¬ M k) → PageRd w' M (readPg s) r) ∧ Below w.heap.size w w' := by
  rcases hq : s with _ | ⟨b0, s0⟩
  · rw [← hq]
    exact read1 s w hs (Lib.hid hq)
  · rw [← hq]
    by_cases hb : Sp.bytes (Sp.parse s) = s
    · exact read3 b0 s0 s w hs (Lib.hid hq) (Lib.hid hb)
    · exact read2 b0 s0 s w hs (Lib.hid hq) (Lib.hid hb)
end Go.Proofs.YtlpmjeiogdlifaaGreat
