/- A region whose order is open, some of whose operations make memory: what only reads is taken first, within a class of worlds in which all its steps stay; the rest is parted by order. The document's cuts: what their methods do. The document's readers: roots. The document's readers: texts. -/
import Derived.Test.YtmcpkhknjdiocaaGreatDoorQB00
import Derived.Test.YtmcpkhknjdiocaaGreatDoorQB01
import Derived.Test.YtmcpkhknjdiocaaGreatDoorQB03
import Derived.Test.YtmcpkhknjdiocaaGreatDoorQB07
import Derived.Test.YtmcpkhknjdiocaaGreatDoorQB12
import Derived.Deep.RegionLaw
import Derived.RegionTactic
import Derived.BigRegion
import Derived.Deep.DeepCutAuto
set_option linter.unusedSimpArgs false
set_option linter.unusedVariables false
namespace Go.Proofs.YtmcpkhknjdiocaaGreatDoor
open Go.RowKit
section
variable {P : Program} {ops : Array Oper} {Q : Exit → Act → World → Prop} {md : Region.Mode} {C : World → Prop} {last : Nat}
def wpIn (P : Program) (md : Region.Mode) (ops : Array Oper) (last : Nat) (C : World → Prop) (Q : Exit → Act → World → Prop) : Nat → Array Bool → Act → World → Prop
  | 0, listed, a, w => (listed.getD last false = false → C w) ∧ Region.ready md ops listed = [] ∧ Q .normal a w
  | fuel + 1, listed, a, w => (listed.getD last false = false → C w) ∧ (Region.ready md ops listed = [] → Q .normal a w) ∧ ∀ i ∈ Region.ready md ops listed, wpOp P ops Q i (wpIn P md ops last C Q fuel (listed.setIfInBounds i true)) a w
theorem wpIn.cls : ∀ {fuel : Nat} {listed : Array Bool} {a : Act} {w : World}, wpIn P md ops last C Q fuel listed a w → listed.getD last false = false → C w
  | 0, _, _, _, h => h.1
  | _ + 1, _, _, _, h => h.1
theorem wpIn.any : ∀ (fuel : Nat) (listed : Array Bool) (a : Act) (w : World), wpIn P md ops last C Q fuel listed a w → wpAny P md ops Q fuel listed a w
  | 0, _, _, _, h => h.2
  | fuel + 1, _, _, _, h => ⟨h.2.1, fun i hi => wpOp_mono (fun a w h => wpIn.any fuel _ a w h) (h.2.2 i hi)⟩
/-- In each world of the class it yields v, and leaves the world. -/
def YieldsC (P : Program) (ops : Array Oper) (C : World → Prop) (o : Oper) (v : Value) (a : Act) : Prop :=
  (Region.wanted o (yielded ops a.tmps) = true ∧ ∀ w, C w → (execOp a.eval o).run P w = .ok (.value v) w) ∨ (Region.wanted o (yielded ops a.tmps) = false ∧ v = undef)
theorem YieldsC.wpOp {i : Nat} {o : Oper} {v : Value} {a : Act} (hi : ops[i]? = some o) (hy : YieldsC P ops C o v a) {K : Act → World → Prop} {w : World} (hC : C w) (h : K (a.put o.dst v) w) : wpOp P ops Q i K a w := by
  unfold Go.wpOp
  simp only [hi]
  rcases hy with ⟨hw, hv⟩ | ⟨hw, rfl⟩
  · simp only [hw, if_true, Oper.wp, hv w hC, Oper.upon]; exact .inl h
  · simp only [hw, Bool.false_eq_true, if_false]; exact h
theorem YieldsC.of_same {o : Oper} {v : Value} {a a' : Act} (hy : YieldsC P ops C o v a) (he : execOp a'.eval o = execOp a.eval o) (hw : Region.wanted o (yielded ops a'.tmps) = Region.wanted o (yielded ops a.tmps)) : YieldsC P ops C o v a' := by
  unfold YieldsC at *
  rw [he, hw]
  exact hy
theorem wpOp_putC {j : Nat} {oi oj : Oper} {v : Value} (hj : ops[j]? = some oj) (hap : oi.apart ops oj = true)
    (hsi : ∀ cs b, oi.op ≠ .select cs b) (hsj : ∀ cs b, oj.op ≠ .select cs b)
    (hQ : ∀ c a w, Q (.panic c) (a.put oi.dst v) w → Q (.panic c) a w) {K : Act → World → Prop} {a : Act} {w : World}
    (hy : YieldsC P ops C oi v a) (h : wpOp P ops Q j K (a.put oi.dst v) w) :
    wpOp P ops Q j (fun a' w' => YieldsC P ops C oi v a' ∧ K (a'.put oi.dst v) w') a w := by
  obtain ⟨h1, h2, h3⟩ := Oper.apart_spec hap
  have keep : ∀ (a : Act), YieldsC P ops C oi v a → ∀ u, YieldsC P ops C oi v (a.put oj.dst u) := fun a hy u =>
    hy.of_same (execOp_put oi hsi a oj.dst u h3) (wanted_put oi a oj.dst u h3)
  have keepD : ∀ d, YieldsC P ops C oi v { a with defers := d :: a.defers } := fun d => hy.of_same rfl rfl
  unfold wpOp at *
  simp only [hj] at *
  rw [wanted_put oj a oi.dst v h1] at h
  split
  · rename_i hw
    simp only [hw, if_true] at h
    rcases h with h | ⟨hasks, hlets⟩
    case inr => exact .inr ⟨by unfold Oper.asks at *; rw [execOp_put oj hsj a oi.dst v h1] at hasks; exact hasks, hlets⟩
    refine .inl ?_
    unfold Oper.wp at *
    rw [execOp_put oj hsj a oi.dst v h1] at h
    generalize (execOp a.eval oj).run P w = r at *
    cases r with
    | ok n w' =>
      cases n <;> simp only [Oper.upon] at h ⊢
      case value u => exact ⟨keep a hy u, by rw [← Act.put_comm a v u h2]; exact h⟩
      case skip => exact ⟨keep a hy _, by rw [← Act.put_comm a v undef h2]; exact h⟩
      case defer d =>
        refine ⟨keep _ (keepD d) _, ?_⟩
        rw [← Act.put_comm _ v undef h2, ← Act.put_defers]
        exact h
      case enter f args =>
        refine Calls.mono h fun e w'' he => ?_
        cases e with
        | returned u => exact ⟨keep a hy u, by rw [← Act.put_comm a v u h2]; exact he⟩
        | panicked c => exact hQ _ _ _ he
        | outgrown => exact he
      case row row args => exact Rows.mono h fun u w'' he => ⟨keep a hy u, by rw [← Act.put_comm a v u h2]; exact he⟩
    | halt x w' =>
      cases x <;> simp only [Oper.upon] at h ⊢
      case panic u => exact hQ _ _ _ h
  · rename_i hw
    simp only [hw] at h
    exact ⟨keep a hy _, by rw [← Act.put_comm a v undef h2]; exact h⟩
theorem wpIn_first {i : Nat} {oi ol : Oper} {v : Value} (hi : ops[i]? = some oi) (hsel : ∀ (j : Nat) (o : Oper) cs b, ops[j]? = some o → o.op ≠ .select cs b) (hil : i ≠ last) (hl : ops[last]? = some ol) (hle : ∃ e ∈ ol.after, Region.binds md e = true ∧ e.on = i)
    (hQ : ∀ c a w, Q (.panic c) (a.put oi.dst v) w → Q (.panic c) a w) :
    ∀ (fuel : Nat) (listed : Array Bool) (a : Act) (w : World),
      (∀ j oj, ops[j]? = some oj → j ≠ i → listed.getD j true = false → (∀ e ∈ oj.after, Region.binds md e = true → e.on ≠ i) → oi.apart ops oj = true) →
      i ∈ Region.ready md ops listed → listed.getD last false = false → C w → YieldsC P ops C oi v a →
      wpIn P md ops last C Q fuel (listed.setIfInBounds i true) (a.put oi.dst v) w → wpIn P md ops last C Q (fuel + 1) listed a w := by
  intro fuel
  induction fuel with
  | zero =>
    intro listed a w _ hr hll hC hy H
    refine ⟨fun _ => hC, fun h => (by rw [h] at hr; cases hr), fun j hj => ?_⟩
    by_cases hji : j = i
    · subst hji; exact hy.wpOp hi hC H
    · have := ready_mono hj hji
      rw [H.2.1] at this
      cases this
  | succ fuel ih =>
    intro listed a w hfree hr hll hC hy H
    refine ⟨fun _ => hC, fun h => (by rw [h] at hr; cases hr), fun j hj => ?_⟩
    by_cases hji : j = i
    · subst hji; exact hy.wpOp hi hC H
    · have h1 := H.2.2 j (ready_mono hj hji)
      obtain ⟨hjun, oj, hoj, hall⟩ := mem_ready.1 hj
      have hnot : ∀ e ∈ oj.after, Region.binds md e = true → e.on ≠ i := fun e he hb heq => by
        have h1 := hall e he hb
        have h0 := (mem_ready.1 hr).1
        rw [heq] at h1
        rcases Nat.lt_or_ge i listed.size with h' | h'
        · simp [h'] at h0 h1; rw [h0] at h1; cases h1
        · simp [Array.getElem?_eq_none h'] at h1
      have hjl : j ≠ last := fun e => by
        subst e
        obtain rfl : oj = ol := Option.some.inj (hoj.symm.trans hl)
        obtain ⟨e, he, hb, hon⟩ := hle
        exact hnot e he hb hon
      have hll' : (listed.setIfInBounds j true).getD last false = false := by rw [getD_set_ne false hjl]; exact hll
      have hll2 : ((listed.setIfInBounds i true).setIfInBounds j true).getD last false = false := by rw [getD_set_ne false hjl, getD_set_ne false hil]; exact hll
      have h2 := wpOp_putC hoj (hfree j oj hoj hji hjun hnot) (fun cs b => hsel i oi cs b hi) (fun cs b => hsel j oj cs b hoj) hQ hy h1
      have hfree' : ∀ k ok, ops[k]? = some ok → k ≠ i → (listed.setIfInBounds j true).getD k true = false →
          (∀ e ∈ ok.after, Region.binds md e = true → e.on ≠ i) → oi.apart ops ok = true := fun k ok hk hki hun hno => by
        refine hfree k ok hk hki ?_ hno
        by_cases hjk : j = k
        · subst hjk; exact hjun
        · rw [getD_set_ne true hjk] at hun; exact hun
      refine wpOp_mono (fun a' w' h3 => ih (listed.setIfInBounds j true) a' w' hfree' (ready_mono hr (Ne.symm hji)) hll' (wpIn.cls h3.2 hll2) h3.1 ?_) h2
      rw [Array.setIfInBounds_comm _ _ hji]
      exact h3.2
def waitsB (md : Region.Mode) (ops : Array Oper) (last i : Nat) : Bool := i != last && match ops[last]? with | none => false | some ol => ol.after.any fun e => Region.binds md e && e.on == i
theorem waitsB_spec {last i : Nat} (h : waitsB md ops last i = true) : i ≠ last ∧ ∃ ol, ops[last]? = some ol ∧ ∃ e ∈ ol.after, Region.binds md e = true ∧ e.on = i := by
  unfold waitsB at h
  rw [Bool.and_eq_true] at h
  obtain ⟨h1, h2⟩ := h
  refine ⟨by simpa using h1, ?_⟩
  cases ho : ops[last]? with
  | none => rw [ho] at h2; simp at h2
  | some ol =>
    rw [ho] at h2
    obtain ⟨e, he, h3⟩ := Array.any_eq_true'.1 h2
    rw [Bool.and_eq_true] at h3
    exact ⟨ol, rfl, e, he, h3.1, by simpa using h3.2⟩
/-- One that reads is taken first. -/
theorem wpIn_take (i : Nat) {oi : Oper} (v : Value) {fuel : Nat} {listed : Array Bool} {a : Act} {w : World} (hi : ops[i]? = some oi)
    (hs : Region.noSelect ops = true) (hf : Region.free md ops listed i = true) (hr : (Region.ready md ops listed).contains i = true) (hwt : waitsB md ops last i = true) (hll : listed.getD last false = false)
    (hw : Region.wanted oi (yielded ops a.tmps) = true) (hQ : ∀ c a w, Q (.panic c) (a.put oi.dst v) w → Q (.panic c) a w) (hC : C w) (hy : ∀ w, C w → (execOp a.eval oi).run P w = .ok (.value v) w)
    (h : wpIn P md ops last C Q fuel (listed.setIfInBounds i true) (a.put oi.dst v) w) : wpIn P md ops last C Q (fuel + 1) listed a w := by
  obtain ⟨h1, ol, h2, h3⟩ := waitsB_spec hwt
  exact wpIn_first hi (Region.noSelect_spec hs) h1 h2 h3 hQ fuel listed a w (Region.free_spec hi hf) (by simpa using hr) hll hC (.inl ⟨hw, hy⟩) h
theorem wpIn_done {listed : Array Bool} {a : Act} {w : World} (hr : Region.ready md ops listed = []) (hl : listed.getD last false = true) (h : Q .normal a w) : ∀ fuel, wpIn P md ops last C Q fuel listed a w
  | 0 => ⟨(fun e => by rw [hl] at e; cases e), hr, h⟩
  | _ + 1 => ⟨(fun e => by rw [hl] at e; cases e), fun _ => h, fun i hi => by rw [hr] at hi; cases hi⟩
/-- All that may come up. -/
theorem wpIn_one (i : Nat) {o : Oper} {fuel : Nat} {listed : Array Bool} {a : Act} {w : World} (hi : ops[i]? = some o) (hr : Region.ready md ops listed = [i]) (hC : listed.getD last false = false → C w) (hw : Region.wanted o (yielded ops a.tmps) = true)
    (h : Oper.wp P o a w (wpIn P md ops last C Q fuel (listed.setIfInBounds i true)) Q) : wpIn P md ops last C Q (fuel + 1) listed a w := by
  refine ⟨hC, fun h0 => absurd (hr.symm.trans h0) (by simp), fun j hj => ?_⟩
  rw [hr] at hj
  obtain rfl := List.mem_singleton.1 hj
  exact wpOp_step hi fun K hK => by rw [if_pos hw]; exact Oper.wp_mono hK h
theorem wpIn_two (i j : Nat) {o o' : Oper} {fuel : Nat} {listed : Array Bool} {a : Act} {w : World} (hi : ops[i]? = some o) (hj : ops[j]? = some o') (hr : Region.ready md ops listed = [i, j]) (hC : listed.getD last false = false → C w)
    (hw : Region.wanted o (yielded ops a.tmps) = true) (hw' : Region.wanted o' (yielded ops a.tmps) = true)
    (h : Oper.wp P o a w (wpIn P md ops last C Q fuel (listed.setIfInBounds i true)) Q) (h' : Oper.wp P o' a w (wpIn P md ops last C Q fuel (listed.setIfInBounds j true)) Q) : wpIn P md ops last C Q (fuel + 1) listed a w := by
  refine ⟨hC, fun h0 => absurd (hr.symm.trans h0) (by simp), fun k hk => ?_⟩
  rw [hr] at hk
  rcases List.mem_cons.1 hk with rfl | hk
  · exact wpOp_step hi fun K hK => by rw [if_pos hw]; exact Oper.wp_mono hK h
  · obtain rfl := List.mem_singleton.1 hk
    exact wpOp_step hj fun K hK => by rw [if_pos hw']; exact Oper.wp_mono hK h'
theorem wp_region_in (n last : Nat) {id : Nat} {a : Act} {w : World} (C : World → Prop) (hm : P.follows .mixedOrders = true) (hn : ops.size = n) (h : wpIn P .any ops last C Q n (Array.replicate n false) a w.drew) : (Code.region id ops true).wp P Q a w :=
  wp_region_any hm (wpIn.any _ _ _ _ (by rw [hn]; exact h))
end
end Go.Proofs.YtmcpkhknjdiocaaGreatDoor
namespace Go.Proofs.YtmcpkhknjdiocaaGreatDoor
open Go.RowKit
attribute [local go_sem low] mk_extract
attribute [local go_sem] After.cell After.frozen mk_extract_end ByteArray.mk_append_mk
/-- A cut of the document's in memory. -/
def DCut (w : World) (g : Nat) (s : Txt) (bad : Bool) : Prop := Blk w g 248 #[.string ⟨s.toArray⟩, .bool bad]
namespace Sp
/-- A number at the front, at most so much; else it is bad. -/
def Cut.int (most : Int) (c : Cut) : Int × Cut := if most < c.u64.1 then (0, ⟨c.u64.2.s, true⟩) else c.u64
theorem Cut.int_rng (most : Int) (hm : 0 ≤ most) (c : Cut) : 0 ≤ (Cut.int most c).1 ∧ (Cut.int most c).1 ≤ most := by
  unfold Cut.int
  have := c.u64_rng
  split
  · exact ⟨Int.le_refl _, hm⟩
  · omega
theorem Cut.int_len (most : Int) (c : Cut) : (Cut.int most c).2.s.length ≤ c.s.length := by
  unfold Cut.int
  have := c.u64_len
  split <;> exact this
end Sp
theorem or_len (x y : UInt8) : bits .or .i64 (wrap64 (x.toNat : Int)) (wrap64 (wrap64 (y.toNat : Int) * 256)) = Sp.Cut.lenOf [x, y] := by
  have hx := x.toNat_lt
  have hy := y.toNat_lt
  have e1 : wrap64 (x.toNat : Int) = ((x.toNat : Nat) : Int) := by simp [wrap64, IntKind.wrap_i64]; omega
  have e2 : wrap64 (wrap64 (y.toNat : Int) * 256) = ((2 ^ 8 * y.toNat : Nat) : Int) := by simp [wrap64, IntKind.wrap_i64]; omega
  rw [e1, e2]
  show IntKind.i64.wrap ((BitVec.ofInt 64 ((x.toNat : Nat) : Int) ||| BitVec.ofInt 64 ((2 ^ 8 * y.toNat : Nat) : Int)).toNat : Int) = _
  rw [BitVec.toNat_or, ofInt_u64 _ (by omega), ofInt_u64 _ (by omega), Nat.or_comm, ← Nat.two_pow_add_eq_or_of_lt (by omega : x.toNat < 2 ^ 8)]
  simp only [Sp.Cut.lenOf, List.getD_cons_zero, List.getD_cons_succ, IntKind.wrap_i64]
  omega
theorem str_at (s : Txt) (j : Nat) (hj : j < s.length) (W : World) : (Instr.index 9 (.string ⟨s.toArray⟩) (.int .i64 (j : Int))).run Tryz.prog W = .ok (.int .u8 (s[j].toNat : Int)) W := by
  rw [run_index_string W 9 _ .i64 (j : Int) Tryz.underlying9]
  have hz : (ByteArray.mk s.toArray).size = s.length := by show s.toArray.size = _; exact List.size_toArray
  rw [dif_pos ⟨Int.natCast_nonneg _, by rw [hz]; omega⟩]
  rfl
set_option maxRecDepth 100000 in
set_option maxHeartbeats 400000 in
theorem dTake_any (n : Int) (hn : 0 ≤ n) (hn2 : n ≤ 4611686018427387904) (g : Nat) (s : Txt) (bad : Bool) (w : World) (hs : s.length ≤ 4611686018427387904) (hc : DCut w g s bad) :
    Calls Tryz.prog 167 #[.pointer (some ⟨g, 0, none⟩), .int .i64 n] w fun e w' => e = .returned (.string ⟨(Sp.Cut.take ⟨s, bad⟩ n.toNat).toArray⟩) ∧
      DCut w' g (Sp.Cut.rest ⟨s, bad⟩ n.toNat).s (Sp.Cut.rest ⟨s, bad⟩ n.toNat).bad ∧ Chg (OneM g) w w' := by
  have h0 := hc.cell 0
  have h1 := hc.cell 1
  have f0 := hc.frozen 0
  have f1 := hc.frozen 1
  simp at h0 h1
  have Hc := Lib.hid hc
  clear hc
  cases bad
  · by_cases hl : (s.length : Int) < n
    · go_enter Tryz.func167, Tryz.ntmps167
      go_wp2
      go_ret
      have hn' : s.length < n.toNat := by omega
      refine ⟨?_, ?_, Chg.set1 _ _ _ _⟩
      · simp [Sp.Cut.take, hn']
      · simpa [Sp.Cut.rest, hn', DCut] using Hc.out.set_ 1 (.bool true)
    · go_enter Tryz.func167, Tryz.ntmps167
      go_wp2
      go_ret
      have hn' : ¬ s.length < n.toNat := by omega
      refine ⟨?_, ?_, Chg.set1 _ _ _ _⟩
      · simp [Sp.Cut.take, hn']
      · simpa [Sp.Cut.rest, hn', DCut] using Hc.out.set_ 0 (.string ⟨(s.drop n.toNat).toArray⟩)
  · go_enter Tryz.func167, Tryz.ntmps167
    go_wp2
    go_ret
    refine ⟨?_, ?_, Chg.set1 _ _ _ _⟩
    · simp [Sp.Cut.take]
    · simpa [Sp.Cut.rest, DCut] using Hc.out.set_ 1 (.bool true)
set_option maxRecDepth 100000 in
set_option maxHeartbeats 400000 in
theorem dCutNum_any (g : Nat) (s : Txt) (bad : Bool) (w : World) (hs : s.length ≤ 4611686018427387904) (hc : DCut w g s bad) :
    Calls Tryz.prog 147 #[.pointer (some ⟨g, 0, none⟩)] w fun e w' => e = .returned (.int .u64 (Sp.unle (Sp.Cut.take ⟨s, bad⟩ 8))) ∧
      DCut w' g (Sp.Cut.rest ⟨s, bad⟩ 8).s (Sp.Cut.rest ⟨s, bad⟩ 8).bad ∧ Chg (OneM g) w w' := by
  have Hc := Lib.hid hc
  clear hc
  have hl8 : (Sp.Cut.take ⟨s, bad⟩ 8).length ≤ 8 := by
    unfold Sp.Cut.take
    split
    · simp
    · simp; omega
  go_enter Tryz.func147, Tryz.ntmps147
  go_wp2_with fail
  refine (dTake_any 8 (by omega) (by omega) g s bad w hs Hc.out).mono ?_
  rintro e w1 ⟨rfl, hc1, hk1⟩
  have Hc1 := Lib.hid hc1
  clear hc1
  simp only [show Int.toNat 8 = 8 from rfl] at *
  generalize hb : Sp.Cut.take ⟨s, bad⟩ 8 = b at *
  have HB := Lib.hid hb
  clear hb
  have hl8' : (b.length : Int) ≤ 8 := by omega
  go_wp2
  go_loop [4, 5] (fun n i => ∃ k : Nat, k ≤ b.length ∧ i = .int .i64 ((k : Int) - 1) ∧ n = .int .u64 (Sp.unle (b.drop k))) (fun _ i => (intOf i + 1).toNat)
  case atStart => exact ⟨b.length, Nat.le_refl _, rfl, by simp [Sp.unle]⟩
  case round =>
    obtain ⟨k, hk, rfl, rfl⟩ := hrel
    by_cases hlt : 0 < k
    · obtain ⟨j, rfl⟩ : ∃ j, k = j + 1 := ⟨k - 1, by omega⟩
      have hr := Sp.unle_lt7 (b.drop (j + 1)) (by simp; omega)
      have HD := Lib.hid (Sp.unle_drop b j (by omega))
      have e1 : ((j + 1 : Nat) : Int) - 1 = (j : Int) := by omega
      rw [e1]
      clear e1
      have HO := Lib.hid (Sp.or_byte (Sp.unle (b.drop (j + 1))) b[j] hr.1 hr.2)
      generalize Sp.unle (b.drop (j + 1)) = m at *
      go_wp2
      refine ⟨⟨j, by omega, by go_num, ?_⟩, by simp [intOf]⟩
      rw [HD.out, ← HO.out]
      rfl
    · have hk0 : k = 0 := by omega
      subst hk0
      go_wp2
      go_ret
      rw [HB.out]
      exact ⟨rfl, Hc1.out, hk1⟩
set_option maxRecDepth 100000 in
set_option maxHeartbeats 400000 in
theorem dInt_any (most : Int) (hm : 0 ≤ most) (hm2 : most ≤ 1073741824) (g : Nat) (s : Txt) (bad : Bool) (w : World) (hs : s.length ≤ 4611686018427387904) (hc : DCut w g s bad) :
    Calls Tryz.prog 168 #[.pointer (some ⟨g, 0, none⟩), .int .i64 most] w fun e w' => e = .returned (.int .i64 (Sp.Cut.int most ⟨s, bad⟩).1) ∧
      DCut w' g (Sp.Cut.int most ⟨s, bad⟩).2.s (Sp.Cut.int most ⟨s, bad⟩).2.bad ∧ Chg (OneM g) w w' := by
  have Hc := Lib.hid hc
  clear hc
  have hr := Sp.Cut.u64_rng ⟨s, bad⟩
  have HN := Lib.hid (show Calls Tryz.prog 147 #[.pointer (some ⟨g, 0, none⟩)] w (fun e w' => e = .returned (.int .u64 (Sp.Cut.u64 ⟨s, bad⟩).1) ∧ DCut w' g (Sp.Cut.u64 ⟨s, bad⟩).2.s (Sp.Cut.u64 ⟨s, bad⟩).2.bad ∧ Chg (OneM g) w w') from dCutNum_any g s bad w hs Hc.out)
  unfold Sp.Cut.int
  generalize Sp.Cut.u64 ⟨s, bad⟩ = ud at *
  obtain ⟨u, d⟩ := ud
  simp only at *
  obtain ⟨hr0, hr1⟩ := hr
  by_cases hlt : most < u
  · rw [if_pos hlt]
    go_enter Tryz.func168, Tryz.ntmps168
    go_wp2_with (go_at_call 147; refine HN.out.mono ?_; rintro e w1 ⟨rfl, hc1, hk1⟩; have h1 := hc1.cell 1; have f1 := hc1.frozen 1; simp at h1; have Hc1 := Lib.hid hc1; clear hc1)
    go_ret
    refine ⟨rfl, ?_, hk1.trans (Chg.set1 _ _ _ _)⟩
    simpa [DCut] using Hc1.out.set_ 1 (.bool true)
  · rw [if_neg hlt]
    go_enter Tryz.func168, Tryz.ntmps168
    go_wp2_with (go_at_call 147; refine HN.out.mono ?_; rintro e w1 ⟨rfl, hc1, hk1⟩; have Hc1 := Lib.hid hc1; clear hc1)
    go_ret
    exact ⟨rfl, Hc1.out, hk1⟩
set_option maxRecDepth 100000 in
set_option maxHeartbeats 400000 in
theorem dCutText_any (g : Nat) (s : Txt) (bad : Bool) (w : World) (hs : s.length ≤ 4611686018427387904) (hc : DCut w g s bad) :
    Calls Tryz.prog 170 #[.pointer (some ⟨g, 0, none⟩)] w fun e w' => e = .returned (.string ⟨(Sp.Cut.text ⟨s, bad⟩).1.toArray⟩) ∧
      DCut w' g (Sp.Cut.text ⟨s, bad⟩).2.s (Sp.Cut.text ⟨s, bad⟩).2.bad ∧ Chg (OneM g) w w' := by
  have h0 := hc.cell 0
  have h1 := hc.cell 1
  have f0 := hc.frozen 0
  have f1 := hc.frozen 1
  simp at h0 h1
  have hgw := hc.lt
  have Hc := Lib.hid hc
  clear hc
  cases bad
  · by_cases hl : s.length < 2
    · go_enter Tryz.func170, Tryz.ntmps170
      go_wp2
      go_ret
      have ht : Sp.Cut.take ⟨s, false⟩ 2 = [] := by unfold Sp.Cut.take; rw [if_pos (.inr hl)]
      have hr : Sp.Cut.rest ⟨s, false⟩ 2 = ⟨s, true⟩ := by unfold Sp.Cut.rest; rw [if_pos (.inr hl)]
      refine ⟨?_, ?_, Chg.set1 _ _ _ _⟩
      · simp [Sp.Cut.text, ht]
      · simpa [Sp.Cut.text, ht, hr, DCut] using Hc.out.set_ 1 (.bool true)
    · have hl2 : 2 ≤ s.length := by omega
      have ht : Sp.Cut.take ⟨s, false⟩ 2 = [s[0], s[1]] := by
        unfold Sp.Cut.take
        rw [if_neg (by simp; omega)]
        match s, hl2 with
        | x :: y :: r, _ => rfl
      have hr : Sp.Cut.rest ⟨s, false⟩ 2 = ⟨s.drop 2, false⟩ := by unfold Sp.Cut.rest; rw [if_neg (by simp; omega)]
      have HT : Hid (Sp.Cut.text ⟨s, false⟩ = (Sp.Cut.take ⟨s.drop 2, false⟩ (Sp.Cut.lenOf [s[0], s[1]]).toNat, if (Sp.Cut.rest ⟨s.drop 2, false⟩ (Sp.Cut.lenOf [s[0], s[1]]).toNat).bad then ⟨s, true⟩ else Sp.Cut.rest ⟨s.drop 2, false⟩ (Sp.Cut.lenOf [s[0], s[1]]).toNat)) := by
        show _ = _
        unfold Sp.Cut.text
        simp only [ht, hr]
        rw [if_neg (by simp)]
      clear ht hr
      have hn0 : 0 ≤ Sp.Cut.lenOf [s[0], s[1]] ∧ Sp.Cut.lenOf [s[0], s[1]] ≤ 65535 := by
        have h1 := s[0].toNat_lt
        have h2 := s[1].toNat_lt
        simp [Sp.Cut.lenOf]
        omega
      have HN0 := Lib.hid hn0
      clear hn0
      have hix0 : ∀ W, (Instr.index 9 (.string ⟨s.toArray⟩) (.int .i64 0)).run Tryz.prog W = .ok (.int .u8 (s[0].toNat : Int)) W := fun W => str_at s 0 (by omega) W
      have hix1 : ∀ W, (Instr.index 9 (.string ⟨s.toArray⟩) (.int .i64 1)).run Tryz.prog W = .ok (.int .u8 (s[1].toNat : Int)) W := fun W => str_at s 1 (by omega) W
      go_enter Tryz.func170, Tryz.ntmps170
      go_upto_region 4 with fail
      refine wp_region_after (by kernel_rfl) (by kernel_rfl) (w.heap.size) ?_
      repeat (go_big_quiet_step (fail))
      refine wpQuiet_nil ?_
      intro w2 hb2
      have Hc2 := Lib.hid (Hc.out.below hb2 hgw)
      have hk2 : Chg (OneM g) w w2 := .of_below hb2
      have h0 := Hc2.out.cell 0
      have h1 := Hc2.out.cell 1
      have f0 := Hc2.out.frozen 0
      have f1 := Hc2.out.frozen 1
      simp at h0 h1
      rw [or_len]
      clear hix0 hix1 hb2
      have HT2 := HT.out
      generalize Sp.Cut.lenOf [s[0], s[1]] = n at *
      clear HT
      have HT := Lib.hid HT2
      clear HT2
      obtain ⟨hn0, hn1⟩ := HN0.out
      by_cases hsh : (s.length : Int) < 2 + n
      · go_wp2
        go_ret
        have hr : (Sp.Cut.rest ⟨s.drop 2, false⟩ n.toNat) = ⟨s.drop 2, true⟩ := by unfold Sp.Cut.rest; rw [if_pos (.inr (by simp; omega))]
        have ht : (Sp.Cut.take ⟨s.drop 2, false⟩ n.toNat) = [] := by unfold Sp.Cut.take; rw [if_pos (.inr (by simp; omega))]
        rw [HT.out, hr, ht]
        refine ⟨rfl, ?_, hk2.trans (Chg.set1 _ _ _ _)⟩
        simpa [DCut] using Hc2.out.set_ 1 (.bool true)
      · go_wp2_with (go_at_call 167; refine (dTake_any n hn0 (by omega) g (s.drop 2) false _ (by simp; omega) (by simpa [DCut] using Hc2.out.set_ 0 (.string ⟨(s.drop 2).toArray⟩))).mono ?_; rintro e w3 ⟨rfl, hc3, hk3⟩; have Hc3 := Lib.hid hc3; clear hc3)
        go_ret
        have hr : (Sp.Cut.rest ⟨s.drop 2, false⟩ n.toNat).bad = false := by unfold Sp.Cut.rest; rw [if_neg (by simp; omega)]
        rw [HT.out, hr]
        have hc3 := Hc3.out
        rw [hr] at hc3
        refine ⟨rfl, ?_, (hk2.trans (Chg.set1 _ _ _ _)).trans hk3⟩
        simpa [hr] using hc3
  · go_enter Tryz.func170, Tryz.ntmps170
    go_wp2
    go_ret
    refine ⟨?_, ?_, Chg.set1 _ _ _ _⟩
    · simp [Sp.Cut.text, Sp.Cut.take]
    · simpa [Sp.Cut.text, Sp.Cut.take, Sp.Cut.rest, DCut] using Hc.out.set_ 1 (.bool true)
end Go.Proofs.YtmcpkhknjdiocaaGreatDoor
namespace Go.Proofs.YtmcpkhknjdiocaaGreatDoor
open Go.RowKit
attribute [local go_sem low] mk_extract
attribute [local go_sem] After.cell After.frozen mk_extract_end ByteArray.mk_append_mk
abbrev RootT : TypeId := 47
namespace Sp
def Cut.droot (c : Cut) : Root × Cut := (⟨(Cut.int 400 c).1, (Cut.int 1000000 (Cut.int 400 c).2).1, (Cut.int 1 (Cut.int 1000000 (Cut.int 400 c).2).2).1⟩, (Cut.int 1 (Cut.int 1000000 (Cut.int 400 c).2).2).2)
theorem Cut.droot_len (c : Cut) : c.droot.2.s.length ≤ c.s.length := Nat.le_trans (Cut.int_len _ _) (Nat.le_trans (Cut.int_len _ _) (Cut.int_len _ _))
end Sp
theorem DCut.chg {S : Nat → Prop} {w w' : World} {g : Nat} {s : Txt} {bad : Bool} (h : DCut w g s bad) (hk : Chg S w w') (hS : ¬ S g) : DCut w' g s bad := Blk.chg h hk hS
/-- The result's block b2, a cut g. -/
structure PreS (w : World) (g : Nat) (c : Sp.Cut) (T : TypeId) (b2 : Nat) (zs : Array Value) (W : World) : Prop where
  dc : DCut W g c.s c.bad
  ck : Chg (OneM g) w W
  z2 : Blk W b2 T zs
  h2 : w.heap.size ≤ b2
  hg : g < w.heap.size
  hl : c.s.length ≤ 4611686018427387904
/-- A value in the making in block b3. -/
structure MkS (w : World) (g : Nat) (c : Sp.Cut) (T : TypeId) (b2 : Nat) (zs : Array Value) (b3 : Nat) (cs : Array Value) (W : World) : Prop where
  p : PreS w g c T b2 zs W
  z3 : Blk W b3 T cs
  h3 : w.heap.size ≤ b3
  hne : b2 ≠ b3
section
variable {w W W' : World} {g : Nat} {c c' : Sp.Cut} {T : TypeId} {b2 b3 : Nat} {zs cs : Array Value}
theorem PreS.call (h : PreS w g c T b2 zs W) (hc : DCut W' g c'.s c'.bad) (hk : Chg (OneM g) W W') (hl : c'.s.length ≤ c.s.length) : PreS w g c' T b2 zs W' :=
  ⟨hc, h.ck.trans hk, h.z2.chg hk (by unfold OneM; have := h.h2; have := h.hg; omega), h.h2, h.hg, Nat.le_trans hl h.hl⟩
theorem PreS.new (h : PreS w g c T b2 zs W) (cs : Array Value) : MkS w g c T b2 zs W.heap.size cs (W.alloc (.cells cs T)) :=
  ⟨⟨Blk.alloc h.dc _, h.ck.alloc _, h.z2.alloc _, h.h2, h.hg, h.hl⟩, Blk.new _ _ _, h.ck.size, by have := h.z2.lt; omega⟩
theorem MkS.call (h : MkS w g c T b2 zs b3 cs W) (hc : DCut W' g c'.s c'.bad) (hk : Chg (OneM g) W W') (hl : c'.s.length ≤ c.s.length) : MkS w g c' T b2 zs b3 cs W' :=
  ⟨h.p.call hc hk hl, h.z3.chg hk (by unfold OneM; have := h.h3; have := h.p.hg; omega), h.h3, h.hne⟩
theorem MkS.set (h : MkS w g c T b2 zs b3 cs W) (i : Nat) (u : Value) : MkS w g c T b2 zs b3 (cs.setIfInBounds i u) (W.setCell ⟨b3, i, none⟩ u) := by
  have h3 := h.h3
  have hg := h.p.hg
  exact ⟨⟨Blk.far h.p.dc (p := ⟨b3, i, none⟩) (by show g ≠ b3; omega) _, h.p.ck.setCell (p := ⟨b3, i, none⟩) (.inr h3) _, h.p.z2.far (p := ⟨b3, i, none⟩) h.hne _, h.p.h2, h.p.hg, h.p.hl⟩, h.z3.set_ i u, h.h3, h.hne⟩
theorem chg_setRow {S : Nat → Prop} {a b : World} (h : Chg S a b) {k : Nat} (hk : a.heap.size ≤ k) (cs : Array Value) : Chg S a (b.setRow k cs) :=
  ⟨h.os, h.tape, h.output, by simpa using h.size, fun i hi hs => (setRow_other b k i cs (by omega)).trans (h.block i hi hs)⟩
theorem MkS.done (h : MkS w g c T b2 zs b3 cs W) : DCut (W.setRow b2 cs) g c.s c.bad ∧ Chg (OneM g) w (W.setRow b2 cs) ∧ Blk (W.setRow b2 cs) b2 T cs := by
  have h2 := h.p.h2
  have hg := h.p.hg
  have hd := h.p.dc
  unfold DCut Blk at hd
  refine ⟨?_, chg_setRow h.p.ck h2 _, h.p.z2.row⟩
  exact (setRow_other W b2 g _ (by omega)).trans hd
end
set_option maxRecDepth 100000 in
set_option maxHeartbeats 1600000 in
theorem dRoot_any (g : Nat) (c : Sp.Cut) (w : World) (hs : c.s.length ≤ 4611686018427387904) (hc : DCut w g c.s c.bad) :
    Calls Tryz.prog 173 #[.pointer (some ⟨g, 0, none⟩)] w fun e w' => e = .returned (.agg (rootV c.droot.1).toArray) ∧ DCut w' g c.droot.2.s c.droot.2.bad ∧ Chg (OneM g) w w' := by
  have hgw := hc.lt
  have P := Lib.hid (show PreS w g c RootT w.heap.size #[.int .i64 0, .int .i64 0, .int .i64 0] (w.alloc (.cells #[.int .i64 0, .int .i64 0, .int .i64 0] RootT)) from ⟨Blk.alloc hc _, (Chg.refl _ _).alloc _, Blk.new _ _ _, Nat.le_refl _, hgw, hs⟩)
  have HV := Lib.hid (rfl : c.droot = (⟨(Sp.Cut.int 400 c).1, (Sp.Cut.int 1000000 (Sp.Cut.int 400 c).2).1, (Sp.Cut.int 1 (Sp.Cut.int 1000000 (Sp.Cut.int 400 c).2).2).1⟩, (Sp.Cut.int 1 (Sp.Cut.int 1000000 (Sp.Cut.int 400 c).2).2).2))
  clear hc hs
  go_enter Tryz.func173, Tryz.ntmps173
  go_upto_region 1 with fail
  go_cut [3] (fun s3 W => ∃ b3, s3 = .pointer (some ⟨b3, 0, none⟩) ∧ MkS w g (Sp.Cut.int 400 c).2 RootT w.heap.size #[.int .i64 0, .int .i64 0, .int .i64 0] b3 #[.int .i64 (Sp.Cut.int 400 c).1, .int .i64 0, .int .i64 0] W)
  case first =>
    go_wp2_with (first
      | (go_at_call 168; refine (dInt_any 400 (by omega) (by omega) g c.s c.bad _ P.out.hl P.out.dc).mono ?_; rintro e w1 ⟨rfl, hc1, hk1⟩; replace P := Lib.hid (P.out.call (c' := (Sp.Cut.int 400 c).2) hc1 hk1 (Sp.Cut.int_len _ _)); clear hc1 hk1)
      | (refine wpList_new RootT _ _ rfl rfl rfl rfl rfl rfl _ rfl (of_decide_eq_true (by kernel_rfl)) (by kernel_rfl) (by kernel_rfl) (by kernel_rfl) ?_))
    go_meet
    case rel => exact ⟨_, rfl, P.out.new _⟩
  case rest =>
    obtain ⟨b3, rfl, hm⟩ := hcut
    have S := Lib.hid hm
    clear hm P
    obtain ⟨W1, rfl⟩ : ∃ W, W = wc := ⟨_, rfl⟩
    go_upto_region 2 with fail
    go_cut [3] (fun s3 W => s3 = .pointer (some ⟨b3, 0, none⟩) ∧ MkS w g (Sp.Cut.int 1000000 (Sp.Cut.int 400 c).2).2 RootT w.heap.size #[.int .i64 0, .int .i64 0, .int .i64 0] b3 #[.int .i64 (Sp.Cut.int 400 c).1, .int .i64 (Sp.Cut.int 1000000 (Sp.Cut.int 400 c).2).1, .int .i64 0] W)
    case first =>
      go_wp2_with (go_at_call 168; refine (dInt_any 1000000 (by omega) (by omega) g _ _ _ S.out.p.hl S.out.p.dc).mono ?_; rintro e w1 ⟨rfl, hc1, hk1⟩; replace S := Lib.hid (S.out.call (c' := (Sp.Cut.int 1000000 (Sp.Cut.int 400 c).2).2) hc1 hk1 (Sp.Cut.int_len _ _)); have q1 := S.out.z3.cell 1; have f1 := S.out.z3.frozen 1; simp at q1; clear hc1 hk1)
      go_meet
      case rel => exact ⟨rfl, S.out.set 1 _⟩
    case rest =>
      obtain ⟨rfl, hm⟩ := hcut
      replace S := Lib.hid hm
      clear hm
      obtain ⟨W2, rfl⟩ : ∃ W, W = wc := ⟨_, rfl⟩
      go_upto_region 3 with fail
      go_cut [3] (fun s3 W => s3 = .pointer (some ⟨b3, 0, none⟩) ∧ MkS w g c.droot.2 RootT w.heap.size #[.int .i64 0, .int .i64 0, .int .i64 0] b3 (rootV c.droot.1).toArray W)
      case first =>
        go_wp2_with (go_at_call 168; refine (dInt_any 1 (by omega) (by omega) g _ _ _ S.out.p.hl S.out.p.dc).mono ?_; rintro e w1 ⟨rfl, hc1, hk1⟩; replace S := Lib.hid (S.out.call (c' := (Sp.Cut.int 1 (Sp.Cut.int 1000000 (Sp.Cut.int 400 c).2).2).2) hc1 hk1 (Sp.Cut.int_len _ _)); have q1 := S.out.z3.cell 2; have f1 := S.out.z3.frozen 2; simp at q1; clear hc1 hk1)
        go_meet
        case rel => exact ⟨rfl, S.out.set 2 _⟩
      case rest =>
        obtain ⟨rfl, hm⟩ := hcut
        replace S := Lib.hid hm
        clear hm HV
        obtain ⟨W3, rfl⟩ : ∃ W, W = wc := ⟨_, rfl⟩
        rcases hrd : c.droot with ⟨⟨x1, x2, x3⟩, d⟩
        rw [hrd] at S
        have HRD := Lib.hid hrd
        clear hrd
        simp only [rootV] at S
        go_wp2_with (first
          | (refine wpList_row RootT _ rfl b3 rfl rfl RootT _ (0, 0) _ S.out.z3 Tryz.underlying47 rfl rfl ?_)
          | (refine wpList_store_row rfl RootT _ _ rfl w.heap.size _ rfl rfl RootT _ S.out.p.z2 (by kernel_rfl) rfl (by kernel_rfl) ?_))
        have hD := S.out.done
        have hz := hD.2.2.at3.1
        obtain ⟨z0, z1, z2⟩ := hz
        refine bodyPost_ret (v := .agg #[.int .i64 x1, .int .i64 x2, .int .i64 x3]) (by simp [results, Tryz.results173, go_sem, z0, z1, z2]) rfl ⟨by rw [HRD.out]; rfl, by rw [HRD.out]; exact hD.1, hD.2.1⟩
end Go.Proofs.YtmcpkhknjdiocaaGreatDoor
namespace Go.Proofs.YtmcpkhknjdiocaaGreatDoor
open Go.RowKit
attribute [local go_sem low] mk_extract
attribute [local go_sem] After.cell After.frozen mk_extract_end ByteArray.mk_append_mk
namespace Sp
def Cut.dtexts (most : Int) (c : Cut) : List Txt × Cut := eachN textStep (Cut.int most c).1.toNat ([], (Cut.int most c).2)
theorem textStep_len (a : List Txt) (c : Cut) : (textStep a c).2.s.length ≤ c.s.length := c.text_len
theorem Cut.dtexts_len (most : Int) (c : Cut) : (Cut.dtexts most c).2.s.length ≤ c.s.length := Nat.le_trans (eachN_len textStep_len _ _) (Cut.int_len _ _)
end Sp
/-- Values that were read. -/
structure TxI (w : World) (g : Nat) (l : List Txt) (c : Sp.Cut) (v : Value) (W : World) : Prop where
  dc : DCut W g c.s c.bad
  ck : Chg (OneM g) w W
  own : W.ownsRow w.heap.size StrT 1 v l.length (l.map tv)
  hg : g < w.heap.size
  hl : c.s.length ≤ 4611686018427387904
theorem TxI.call {w W W' : World} {g : Nat} {l : List Txt} {c c' : Sp.Cut} {v : Value} (h : TxI w g l c v W) (hc : DCut W' g c'.s c'.bad) (hk : Chg (OneM g) W W') (hl : c'.s.length ≤ c.s.length) : TxI w g l c' v W' :=
  ⟨hc, h.ck.trans hk, own_chg h.own hk (fun k hk e => by unfold OneM at e; have := h.hg; omega), h.hg, Nat.le_trans hl h.hl⟩
theorem TxI.al {w W : World} {g : Nat} {l : List Txt} {c : Sp.Cut} {v : Value} (h : TxI w g l c v W) (o : Obj) : TxI w g l c v (W.alloc o) :=
  ⟨Blk.alloc h.dc _, h.ck.alloc _, h.own.alloc _, h.hg, h.hl⟩
theorem TxI.app {w W W' : World} {g : Nat} {l : List Txt} {c : Sp.Cut} {v v' : Value} {s : Txt} (h : TxI w g l c v W) (ho : W'.ownsRow w.heap.size StrT 1 v' (l.length + 1) (l.map tv ++ [tv s])) (hg : W.grownBy W' v.ownBlock) : TxI w g (l ++ [s]) c v' W' := by
  have hk : Chg (fun k => v.ownBlock = some k) W W' := Chg.of_grown hg (fun k hk => .inl hk)
  exact ⟨DCut.chg h.dc hk (fun e => by have := (h.own.lt _ e).1; have := h.hg; omega), Chg.step hk (fun i hi => .inr (h.own.lt i hi).1) h.ck, by simpa using ho, h.hg, h.hl⟩
set_option maxRecDepth 100000 in
set_option maxHeartbeats 1600000 in
theorem dTexts_any (most : Int) (hm : 0 ≤ most) (hm2 : most ≤ 1000) (g : Nat) (c : Sp.Cut) (w : World) (hs : c.s.length ≤ 4611686018427387904) (hc : DCut w g c.s c.bad) :
    Calls Tryz.prog 171 #[.pointer (some ⟨g, 0, none⟩), .int .i64 most] w fun e w' => ∃ A cp, e = .returned (.slice A (Sp.Cut.dtexts most c).1.length cp) ∧ TRow w' w.heap.size StrT A ((Sp.Cut.dtexts most c).1.map tv) ∧ DCut w' g (Sp.Cut.dtexts most c).2.s (Sp.Cut.dtexts most c).2.bad ∧ Chg (OneM g) w w' := by
  obtain ⟨i0, hi0, hz0, hz1, hz2⟩ := info_parts info_str
  have hgw := hc.lt
  have hr := Sp.Cut.int_rng most hm c
  have HD := Lib.hid (fun l d' (h : Sp.eachN Sp.textStep (Sp.Cut.int most c).1.toNat ([], (Sp.Cut.int most c).2) = (l, d')) => (show Sp.Cut.dtexts most c = (l, d') from h))
  have Hc := Lib.hid hc
  have HS := Lib.hid hs
  have HIL := Lib.hid (Sp.Cut.int_len most c)
  have HIN := Lib.hid (fun w h => dInt_any most hm (by omega) g c.s c.bad w hs h)
  clear hc hs
  rw [show (⟨c.s, c.bad⟩ : Sp.Cut) = c from rfl] at HIN
  generalize Sp.Cut.int most c = nd at *
  obtain ⟨n, d⟩ := nd
  dsimp only at hr HIL HIN HD
  obtain ⟨hn0, hn1⟩ := hr
  go_enter Tryz.func171, Tryz.ntmps171
  go_wp2_with (go_at_call 168; refine (HIN.out _ Hc.out).mono ?_; rintro e w1 ⟨rfl, hc1, hk1⟩; have T0 := Lib.hid (show TxI w g [] d (.slice none 0 0) w1 from ⟨hc1, hk1, World.ownsRow_nil _ _ _ _, hgw, Nat.le_trans HIL.out HS.out⟩); clear hc1 hk1)
  go_loopw [5, 7] (fun v i wr => ∃ (k : Nat) (l : List Txt) (c' : Sp.Cut), (k : Int) ≤ n ∧ i = .int .i64 k ∧ Hid (Sp.eachN Sp.textStep k ([], d) = (l, c') ∧ l.length ≤ k) ∧ TxI w g l c' v wr) (fun _ i _ => (n - intOf i).toNat)
  case atStart => exact ⟨0, [], d, hn0, rfl, ⟨rfl, Nat.le_refl _⟩, T0.out⟩
  case round =>
    obtain ⟨k, l, c', hk, rfl, he, ht⟩ := hrel
    have T := Lib.hid ht
    have q1 := ht.dc.cell 1
    simp at q1
    clear ht T0
    by_cases hlt : (k : Int) < n
    · rcases hb : c'.bad with _ | _
      · rw [hb] at q1
        have HB := Lib.hid hb
        clear hb
        go_wp2_with (first
          | (go_at_call 170; refine (dCutText_any g c'.s c'.bad _ T.out.hl T.out.dc).mono ?_; rintro e w3 ⟨rfl, hc3, hk3⟩; rw [show (⟨c'.s, c'.bad⟩ : Sp.Cut) = c' from rfl] at *; replace T := Lib.hid (T.out.call (c' := c'.text.2) hc3 hk3 c'.text_len); clear hc3 hk3)
          | (at_builtin; refine wpList_append_own _ rfl _ _ 26 rfl w.heap.size StrT i0 _ 1 16 Tryz.underlying26 hi0 hz0 hz1 hz2 rfl (by decide) _ l.length (l.map tv) rfl ?c0 ⟨w3.heap.size, 0, none⟩ 1 1 [tv c'.text.1] rfl rfl ?c1 ?c2 ?c3 ?c4 ?c5 ?_))
        case c0 => exact (T.out.al _).own
        case c1 => exact news_of w3 [tv c'.text.1].toArray StrT
        case c2 => exact fun u hu => by rw [List.mem_singleton.1 hu]; rfl
        case c3 => have := he.out.2; simp only [maxLen]; omega
        case c4 => have := he.out.2; omega
        case c5 => have := T.out.ck.size; simp; omega
        intro v' w' hown' hgr' _
        obtain ⟨A', cc', hv'⟩ := own_form hown'
        subst hv'
        have hnx := (T.out.al _).app hown' hgr'
        have HNX := Lib.hid hnx
        clear hnx hown' hgr'
        go_wp2_with fail
        go_roundw
        case rel =>
          refine ⟨k + 1, l ++ [c'.text.1], c'.text.2, by omega, by go_num, ⟨?_, ?_⟩, HNX.out⟩
          · rw [Sp.eachN_succ _ _ _ (by rw [he.out.1]; exact HB.out), he.out.1]
            rfl
          · have := he.out.2; simp; omega
        case measure => simp [intOf]; omega
      · rw [hb] at q1
        have HB := Lib.hid hb
        clear hb
        go_wp2_with fail
        obtain ⟨A, cp, hv⟩ := own_form T.out.own
        subst hv
        go_ret
        have hdt := HD.out l c' ((Sp.eachN_end (f := Sp.textStep) (s := ([], d)) (k := k) (n := n.toNat) (by omega) (.inr (by rw [he.out.1]; exact HB.out))).trans he.out.1)
        have hT : TRow wr w.heap.size StrT A ((Sp.Cut.dtexts most c).1.map tv) := by rw [hdt]; exact TRow.of_own T.out.own (by have := he.out.2; simp; omega)
        have hC : DCut wr g (Sp.Cut.dtexts most c).2.s (Sp.Cut.dtexts most c).2.bad := by rw [hdt]; exact T.out.dc
        first
          | exact ⟨A, cp, by rw [hdt]; rfl, hT, hC, T.out.ck⟩
          | exact ⟨A, ⟨cp, by rw [hdt]; rfl⟩, hT, hC, T.out.ck⟩
    · go_wp2_with fail
      obtain ⟨A, cp, hv⟩ := own_form T.out.own
      subst hv
      go_ret
      have hdt := HD.out l c' ((Sp.eachN_end (f := Sp.textStep) (s := ([], d)) (k := k) (n := n.toNat) (by omega) (.inl (by omega))).trans he.out.1)
      have hT : TRow wr w.heap.size StrT A ((Sp.Cut.dtexts most c).1.map tv) := by rw [hdt]; exact TRow.of_own T.out.own (by have := he.out.2; simp; omega)
      have hC : DCut wr g (Sp.Cut.dtexts most c).2.s (Sp.Cut.dtexts most c).2.bad := by rw [hdt]; exact T.out.dc
      first
        | exact ⟨A, cp, by rw [hdt]; rfl, hT, hC, T.out.ck⟩
        | exact ⟨A, ⟨cp, by rw [hdt]; rfl⟩, hT, hC, T.out.ck⟩
end Go.Proofs.YtmcpkhknjdiocaaGreatDoor
