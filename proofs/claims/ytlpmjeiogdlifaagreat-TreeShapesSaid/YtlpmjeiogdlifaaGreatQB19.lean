/- A page like one: store.copied. Printed by un/cp.py. -/
import Derived.Test.YtlpmjeiogdlifaaGreatQB09
import Derived.Test.YtlpmjeiogdlifaaGreatQB10
import Derived.Test.YtlpmjeiogdlifaaGreatQB18
set_option linter.unusedSimpArgs false
set_option linter.unusedVariables false
namespace Go.Proofs.YtlpmjeiogdlifaaGreat
open Go.RowKit
attribute [local go_sem low] mk_extract
attribute [local go_sem] After.cell After.frozen mk_extract_end ByteArray.mk_append_mk
def pgZ5 : Array Value := #[.int .i64 0, .slice none 0 0, .slice none 0 0, .slice none 0 0, .string ⟨#[]⟩, .slice none 0 0, .slice none 0 0, .int .i64 0, .int .u64 0, .int .i64 0, .int .i64 0, .int .i64 0, .int .i64 0, .int .i64 0]
theorem row_args {w : World} {M : Nat → Prop} {A : Option Addr} {xs : List Value} (h : Row w M A xs) : ∀ a, A = some a → ∀ j u, xs[j]? = some u → w.cell? (a.add j) = some u := by
  intro a ha j u hu
  rcases h.2 with rfl | ⟨b, off, e, _, _, hc⟩
  · simp at hu
  · rw [e] at ha
    injection ha with ha
    subst ha
    rw [Go.WideShapes.add_plain]
    exact hc j u hu
theorem row_nil {w : World} {M : Nat → Prop} {A : Option Addr} {xs : List Value} (h : Row w M A xs) : A = none → xs.length = 0 := by
  intro ha
  rcases h.2 with rfl | ⟨b, off, e, _, _, hc⟩
  · rfl
  · rw [e] at ha; cases ha
theorem row_wide {w : World} {M T : Nat → Prop} {A : Option Addr} {xs : List Value} (h : Row w M A xs) (hT : ∀ k, k < w.heap.size → T k → M k) : Row w T A xs := by
  refine ⟨h.1, ?_⟩
  rcases h.2 with h0 | ⟨b, off, e, hb, hm, hc⟩
  · exact .inl h0
  · exact .inr ⟨b, off, e, hb, fun h' => hm (hT b hb h'), hc⟩
theorem frees_wide {w : World} {M T : Nat → Prop} {A : Option Addr} {l : List Sp.Free} (h : Frees w M A l) (hT : ∀ k, k < w.heap.size → T k → M k) : Frees w T A l := by
  refine ⟨h.1, ?_⟩
  rcases h.2 with h0 | ⟨b, off, e, hb, hm, hc⟩
  · exact .inl h0
  · refine .inr ⟨b, off, e, hb, fun h' => hm (hT b hb h'), fun k hk => ?_⟩
    obtain ⟨V, c, h1, h2, h3⟩ := hc k hk
    exact ⟨V, c, h1, row_wide h2 hT, h3⟩
structure CqS (w : World) (p : Sp.Page) (r : Refs) (W : World) : Prop where
  hb : Below w.heap.size w W
  bp : Blk W w.heap.size PageT (pageV p r).toArray
  bz : Blk W (w.heap.size + 1) PageT pgZ5
  ik : W.ownsRow w.heap.size StrT 1 (.slice r.K p.keys.length r.k) p.keys.length (p.keys.map tv)
  id : W.ownsRow w.heap.size IntT 1 (.slice r.D p.kids.length r.d) p.kids.length (p.kids.map iv)
  iv : W.ownsRow w.heap.size StrT 1 (.slice r.V p.vals.length r.v) p.vals.length (p.vals.map tv)
  tx : 0 ≤ p.mt.txn ∧ p.mt.txn < 18446744073709551616
theorem own_setT {W W' : World} {base n g : Nat} {e t : TypeId} {size : Nat} {v : Value} {xs : List Value} {cs : Array Value} (h : W.ownsRow base e size v n xs) (hg : Blk W g t cs) (hne : e ≠ t) (hk : Chg (OneM g) W W') : W'.ownsRow base e size v n xs :=
  own_chg2 h hk fun k hk' e => by
    have e : k = g := e
    subst e
    exact own_not h hne k hk' _ hg
theorem CqS.go {w W W' : World} {p : Sp.Page} {r : Refs} (h : CqS w p r W) (hb : Below W.heap.size W W') : CqS w p r W' :=
  ⟨h.hb.trans (hb.mono h.hb.size), h.bp.below hb h.bp.lt, h.bz.below hb h.bz.lt, own_chg2 (S := NoM) h.ik (Chg.of_below hb) (fun _ _ h => h), own_chg2 (S := NoM) h.id (Chg.of_below hb) (fun _ _ h => h), own_chg2 (S := NoM) h.iv (Chg.of_below hb) (fun _ _ h => h), h.tx⟩
theorem CqS.set {w W W' : World} {p : Sp.Page} {r : Refs} {g : Nat} {t : TypeId} {cs : Array Value} (h : CqS w p r W) (hg : Blk W g t cs) (h1 : StrT ≠ t) (h2 : IntT ≠ t) (h3 : PageT ≠ t) (hge : w.heap.size ≤ g) (hk : Chg (OneM g) W W') : CqS w p r W' := by
  have hne : ∀ {b : Nat} {es : Array Value}, Blk W b PageT es → ¬ OneM g b := fun {b es} hb e => by
    have e : b = g := e
    subst e
    unfold Blk at hb hg
    rw [hb] at hg
    simp at hg
    exact h3 hg.2
  exact ⟨h.hb.trans (hk.below h.hb.size fun j hj e => by have : j = g := e; omega), h.bp.chg hk (hne h.bp), h.bz.chg hk (hne h.bz), own_setT h.ik hg h1 hk, own_setT h.id hg h2 hk, own_setT h.iv hg h1 hk, h.tx⟩
structure CiS {α : Type} (f : α → Option Addr → Nat → List Value) (S : World → (Nat → Prop) → Option Addr → α → Prop) (T : TypeId) (K B N N2 : Nat) (l : List α) (A : Option Addr) (c i : Nat) (W : World) : Prop where
  xs : ∃ xs1 xs2, W.ownsRow N T K (.slice A l.length c) l.length (xs1 ++ xs2) ∧ SeqQ f (S W (fun k => k < B ∨ (Value.slice A 0 0).ownBlock = some k)) (l.take i) xs1 ∧ SeqQ f (S W (fun k => N2 ≤ k)) (l.drop i) xs2
theorem own_setK {w : World} {base n size g cap : Nat} {e : TypeId} {xs : List Value} (h : w.ownsRow base e size (.slice (some ⟨g, 0, none⟩) n cap) n xs) (j : Nat) (u : Value) : (w.setCell ⟨g, j, none⟩ u).ownsRow base e size (.slice (some ⟨g, 0, none⟩) n cap) n (xs.set j u) := by
  rcases h with ⟨h1, h2⟩
  refine ⟨by rw [List.length_set]; exact h1, ?_⟩
  rcases h2 with ⟨h2, _⟩ | ⟨g', cap', cur, hv, hg, hh, hn, hc, hs, ht⟩
  · cases h2
  · simp only [Value.slice.injEq, Option.some.injEq, Addr.mk.injEq] at hv
    obtain ⟨⟨rfl, _⟩, _, rfl⟩ := hv
    have hb : Blk w g e cur := hh
    refine .inr ⟨g, cap, cur.setIfInBounds j u, rfl, hg, hb.set_ j u, hn, hc, by simpa using hs, ?_⟩
    rw [Array.toList_setIfInBounds, List.take_set, ht]
theorem row_new {w : World} {base n c B g : Nat} {e : TypeId} {A : Option Addr} {xs : List Value} (h : w.ownsRow base e 1 (.slice A n c) n xs) (hB : B ≤ base) (hg : g < base) (hn : n ≤ 100000) : Row w (fun k => k < B ∨ (Value.slice (some ⟨g, 0, none⟩) 0 0).ownBlock = some k) A xs :=
  Row.of_own h (fun k hk h => by
    rcases h with h | h
    · omega
    · have : g = k := by simpa [Value.ownBlock] using h
      omega) hn
theorem chg_setRow5 (w : World) (k : Nat) (cs : Array Value) : Chg (OneM k) w (w.setRow k cs) :=
  ⟨rfl, rfl, rfl, by simp, fun i _ hs => setRow_other w k i cs (fun e => hs e)⟩
theorem pageV_all5 (p : Sp.Page) (r : Refs) : (pageV p r).toArray.all (·.oneCell') = true := by
  rw [Array.all_eq_true_iff_forall_mem]
  intro u hu
  have hu : u ∈ pageV p r := by simpa using hu
  simp only [pageV, mtV, List.mem_append, List.mem_cons, List.not_mem_nil, or_false] at hu
  rcases hu with rfl | rfl | rfl | rfl | rfl | rfl | rfl | rfl | rfl | rfl | rfl | rfl | rfl | rfl <;> rfl
theorem take_get {α : Type} (l : List α) (i : Nat) (d : α) (h : i < l.length) : l.take (i + 1) = l.take i ++ [l.getD i d] ∧ l.drop i = l.getD i d :: l.drop (i + 1) := by
  rw [List.take_succ_eq_append_getElem h, List.drop_eq_getElem_cons h]
  simp [List.getD, h]
theorem siChg {S : Nat → Prop} {w w' : World} {M : Nat → Prop} {V : Option Addr} {x : Sp.Item} (h : SI w M V x) (hk : Chg S w w') (hS : ∀ k, S k → M k) : SI w' M V x := Txts.chg h (hk.mono fun _ _ h => hS _ h)
theorem sfChg {S : Nat → Prop} {w w' : World} {M : Nat → Prop} {V : Option Addr} {x : Sp.Free} (h : SF w M V x) (hk : Chg S w w') (hS : ∀ k, S k → M k) : SF w' M V x := ⟨Ints.chg h.1 (hk.mono fun _ _ h => hS _ h), h.2⟩
structure Sp.Page.Small (p : Sp.Page) : Prop where
  i : p.items.length ≤ 1000
  k : p.keys.length ≤ 1000
  d : p.kids.length ≤ 1000
  v : p.vals.length ≤ 1000
  f : p.free.length ≤ 1000
  iv : ∀ x ∈ p.items, x.vals.length ≤ 1000
  fi : ∀ x ∈ p.free, x.ids.length ≤ 1000
theorem cloneT_any {w : World} {M : Nat → Prop} {A : Option Addr} {l : List Txt} (c : Nat) (h : Txts w M A l) (hn : l.length ≤ 1000) :
    Calls Tryz.prog 46 #[.slice A l.length c] w fun e w' => ∃ A' c', e = .returned (.slice A' l.length c') ∧ w'.ownsRow w.heap.size StrT 1 (.slice A' l.length c') l.length (l.map tv) ∧ Below w.heap.size w w' :=
  (cloneS_any A l.length c (l.map tv) w (by simp) (fun e => by have := row_nil h e; simpa using this) (row_args h) (fun u hu => by obtain ⟨s, _, rfl⟩ := List.mem_map.1 hu; rfl) (by omega)).mono fun e w' ⟨u, h1, h2, h3⟩ => by
    obtain ⟨A', c', rfl⟩ := own_form h2
    exact ⟨A', c', h1, h2, h3⟩
theorem cloneN_any {w : World} {M : Nat → Prop} {A : Option Addr} {l : List Int} (c : Nat) (h : Ints w M A l) (hn : l.length ≤ 1000) :
    Calls Tryz.prog 72 #[.slice A l.length c] w fun e w' => ∃ A' c', e = .returned (.slice A' l.length c') ∧ w'.ownsRow w.heap.size IntT 1 (.slice A' l.length c') l.length (l.map iv) ∧ Below w.heap.size w w' := by
  rcases A with _ | a
  · have h0 : l = [] := List.eq_nil_of_length_eq_zero (by have := row_nil h rfl; simpa using this)
    subst h0
    exact (Any.slices_Clone_int_nil layClone 0 c w).mono fun e w' ⟨h1, h2⟩ => ⟨none, 0, h1, ⟨rfl, .inl ⟨rfl, rfl⟩⟩, h2 ▸ Below.refl _ _⟩
  · rcases h.2 with h0 | ⟨b, off, e, _, _, hc⟩
    · have h0 : l = [] := by simpa using h0
      subst h0
      refine (Any.slices_Clone_int_zero layClone a c w).mono fun e w' ⟨u, h1, h2, _, h3⟩ => ?_
      obtain ⟨A', c', rfl⟩ := own_form h2
      exact ⟨A', c', h1, h2, h3⟩
    · injection e with e
      subst e
      refine (Any.slices_Clone_int layClone b off l.length c l w (Nat.le_refl _) (by omega) (fun j hj => by
        refine hc j _ ?_
        rw [List.getElem?_map, List.getElem?_eq_getElem hj]
        simp [iv, List.getD, hj])).mono fun e w' ⟨u, h1, h2, _, h3⟩ => ?_
      rw [List.take_length] at h2
      obtain ⟨A', c', rfl⟩ := own_form h2
      exact ⟨A', c', h1, h2, h3⟩
set_option maxRecDepth 100000 in
set_option maxHeartbeats 3200000 in
theorem copied_any (p : Sp.Page) (r : Refs) {M : Nat → Prop} (w : World) (h : PageRd w M p r) (hs : p.Small) :
    Calls Tryz.prog 69 #[.agg (pageV p r).toArray] w fun e w' => ∃ r', e = .returned (.agg (pageV p r').toArray) ∧ PageRd w' (fun k => k < w.heap.size) p r' ∧ Below w.heap.size w w' := by
  have hpv : (pageV p r).toArray = #[.int .i64 p.kind, .slice r.I p.items.length r.i, .slice r.K p.keys.length r.k, .slice r.D p.kids.length r.d, .string ⟨p.text.toArray⟩, .slice r.V p.vals.length r.v, .slice r.F p.free.length r.f, .int .i64 p.next, .int .u64 p.mt.txn, .int .i64 p.mt.main.page, .int .i64 p.mt.main.count, .int .i64 p.mt.main.flags, .int .i64 p.mt.free, .int .i64 p.mt.last] := rfl
  rw [hpv]
  have hb0 : Below w.heap.size w ((w.alloc (.cells #[.int .i64 p.kind, .slice r.I p.items.length r.i, .slice r.K p.keys.length r.k, .slice r.D p.kids.length r.d, .string ⟨p.text.toArray⟩, .slice r.V p.vals.length r.v, .slice r.F p.free.length r.f, .int .i64 p.next, .int .u64 p.mt.txn, .int .i64 p.mt.main.page, .int .i64 p.mt.main.count, .int .i64 p.mt.main.flags, .int .i64 p.mt.free, .int .i64 p.mt.last] PageT)).alloc (.cells pgZ5 PageT)) := ((Below.refl _ _).alloc (Nat.le_refl _) _).alloc (by simp) _
  have HB0 := Lib.hid hb0
  have HP := Lib.hid (h.go hb0)
  have hsz : ((w.alloc (.cells #[.int .i64 p.kind, .slice r.I p.items.length r.i, .slice r.K p.keys.length r.k, .slice r.D p.kids.length r.d, .string ⟨p.text.toArray⟩, .slice r.V p.vals.length r.v, .slice r.F p.free.length r.f, .int .i64 p.next, .int .u64 p.mt.txn, .int .i64 p.mt.main.page, .int .i64 p.mt.main.count, .int .i64 p.mt.main.flags, .int .i64 p.mt.free, .int .i64 p.mt.last] PageT)).alloc (.cells pgZ5 PageT)).heap.size = w.heap.size + 2 := by simp
  have HN := Lib.hid (show Blk ((w.alloc (.cells #[.int .i64 p.kind, .slice r.I p.items.length r.i, .slice r.K p.keys.length r.k, .slice r.D p.kids.length r.d, .string ⟨p.text.toArray⟩, .slice r.V p.vals.length r.v, .slice r.F p.free.length r.f, .int .i64 p.next, .int .u64 p.mt.txn, .int .i64 p.mt.main.page, .int .i64 p.mt.main.count, .int .i64 p.mt.main.flags, .int .i64 p.mt.free, .int .i64 p.mt.last] PageT)).alloc (.cells pgZ5 PageT)) w.heap.size PageT #[.int .i64 p.kind, .slice r.I p.items.length r.i, .slice r.K p.keys.length r.k, .slice r.D p.kids.length r.d, .string ⟨p.text.toArray⟩, .slice r.V p.vals.length r.v, .slice r.F p.free.length r.f, .int .i64 p.next, .int .u64 p.mt.txn, .int .i64 p.mt.main.page, .int .i64 p.mt.main.count, .int .i64 p.mt.main.flags, .int .i64 p.mt.free, .int .i64 p.mt.last] from (Blk.new w PageT #[.int .i64 p.kind, .slice r.I p.items.length r.i, .slice r.K p.keys.length r.k, .slice r.D p.kids.length r.d, .string ⟨p.text.toArray⟩, .slice r.V p.vals.length r.v, .slice r.F p.free.length r.f, .int .i64 p.next, .int .u64 p.mt.txn, .int .i64 p.mt.main.page, .int .i64 p.mt.main.count, .int .i64 p.mt.main.flags, .int .i64 p.mt.free, .int .i64 p.mt.last]).alloc _)
  have HZ := Lib.hid (show Blk ((w.alloc (.cells #[.int .i64 p.kind, .slice r.I p.items.length r.i, .slice r.K p.keys.length r.k, .slice r.D p.kids.length r.d, .string ⟨p.text.toArray⟩, .slice r.V p.vals.length r.v, .slice r.F p.free.length r.f, .int .i64 p.next, .int .u64 p.mt.txn, .int .i64 p.mt.main.page, .int .i64 p.mt.main.count, .int .i64 p.mt.main.flags, .int .i64 p.mt.free, .int .i64 p.mt.last] PageT)).alloc (.cells pgZ5 PageT)) (w.heap.size + 1) PageT pgZ5 from blk_second w _ _ _)
  obtain ⟨xsI, hqI, hcI⟩ := h.items.seq
  have HQI := Lib.hid (hqI.imp (S' := SI w (fun k => w.heap.size ≤ k)) fun V x hx => row_wide hx fun k hk h' => by omega)
  have HFR := Lib.hid (frees_wide h.free (T := fun k => w.heap.size ≤ k) fun k hk h' => by omega)
  have HCI := Lib.hid (fun a ha j u hu => (hb0.cell (p := a.add j) (cell_blk (hcI a ha j u hu))).trans (hcI a ha j u hu))
  have HTX := Lib.hid h.txn
  have HLI := Lib.hid (show xsI.length = p.items.length * 10 from hqI.len itemV_ten)
  have HOI := Lib.hid (show ∀ u ∈ xsI, u.oneCell' = true from hqI.one itemV_ones)
  have HNI := Lib.hid (show r.I = none → p.items.length = 0 from fun e => by
    rcases HP.out.items.2 with h0 | ⟨b, off, e', _⟩
    · rw [h0]; rfl
    · rw [e'] at e; cases e)
  have HS := Lib.hid hs
  have HSZ := Lib.hid hsz
  clear h hb0 hpv hqI hcI hs hsz
  go_enter Tryz.func69, Tryz.ntmps69
  go_upto_region 1 with fail
  rw [show (Obj.cells #[.int .i64 0, .slice none 0 0, .slice none 0 0, .slice none 0 0, .string ⟨#[]⟩, .slice none 0 0, .slice none 0 0, .int .i64 0, .int .u64 0, .int .i64 0, .int .i64 0, .int .i64 0, .int .i64 0, .int .i64 0] 59 (0, 0)) = .cells pgZ5 PageT from rfl]
  generalize (w.alloc (.cells #[.int .i64 p.kind, .slice r.I p.items.length r.i, .slice r.K p.keys.length r.k, .slice r.D p.kids.length r.d, .string ⟨p.text.toArray⟩, .slice r.V p.vals.length r.v, .slice r.F p.free.length r.f, .int .i64 p.next, .int .u64 p.mt.txn, .int .i64 p.mt.main.page, .int .i64 p.mt.main.count, .int .i64 p.mt.main.flags, .int .i64 p.mt.free, .int .i64 p.mt.last] PageT)).alloc (.cells pgZ5 PageT) = w1 at *
  refine wp_region_in 20 13 (fun W => Below w1.heap.size w1 W) (by kernel_rfl) rfl ?_
  refine wpIn_take 0 (.pointer (some ⟨w.heap.size, 1, none⟩)) rfl (by kernel_rfl) (by kernel_rfl) (by kernel_rfl) (by kernel_rfl) (by kernel_rfl) (by rfl) (fun _ _ _ h => h) (Below.refl w1.heap.size w1).drew (fun W hW => by go_simp; all_goals first | with_reducible rfl | rfl) ?_
  simp only [List.getElem_toArray, List.getElem_cons_zero, List.getElem_cons_succ, Act.put, List.setIfInBounds_toArray, List.set_cons_succ, List.set_cons_zero]
  refine wpIn_take 1 (.slice r.I p.items.length r.i) rfl (by kernel_rfl) (by kernel_rfl) (by kernel_rfl) (by kernel_rfl) (by kernel_rfl) (by rfl) (fun _ _ _ h => h) (Below.refl w1.heap.size w1).drew (fun W hW => by have hc := (hW.cell (p := ⟨w.heap.size, 1, none⟩) (show w.heap.size < w1.heap.size by have := HSZ.out; omega)).trans (HN.out.cell 1); simp at hc; go_simp; all_goals first | with_reducible rfl | rfl) ?_
  simp only [List.getElem_toArray, List.getElem_cons_zero, List.getElem_cons_succ, Act.put, List.setIfInBounds_toArray, List.set_cons_succ, List.set_cons_zero]
  refine wpIn_take 3 (.pointer (some ⟨w.heap.size, 2, none⟩)) rfl (by kernel_rfl) (by kernel_rfl) (by kernel_rfl) (by kernel_rfl) (by kernel_rfl) (by rfl) (fun _ _ _ h => h) (Below.refl w1.heap.size w1).drew (fun W hW => by go_simp; all_goals first | with_reducible rfl | rfl) ?_
  simp only [List.getElem_toArray, List.getElem_cons_zero, List.getElem_cons_succ, Act.put, List.setIfInBounds_toArray, List.set_cons_succ, List.set_cons_zero]
  refine wpIn_take 4 (.slice r.K p.keys.length r.k) rfl (by kernel_rfl) (by kernel_rfl) (by kernel_rfl) (by kernel_rfl) (by kernel_rfl) (by rfl) (fun _ _ _ h => h) (Below.refl w1.heap.size w1).drew (fun W hW => by have hc := (hW.cell (p := ⟨w.heap.size, 2, none⟩) (show w.heap.size < w1.heap.size by have := HSZ.out; omega)).trans (HN.out.cell 2); simp at hc; go_simp; all_goals first | with_reducible rfl | rfl) ?_
  simp only [List.getElem_toArray, List.getElem_cons_zero, List.getElem_cons_succ, Act.put, List.setIfInBounds_toArray, List.set_cons_succ, List.set_cons_zero]
  refine wpIn_take 6 (.pointer (some ⟨w.heap.size, 3, none⟩)) rfl (by kernel_rfl) (by kernel_rfl) (by kernel_rfl) (by kernel_rfl) (by kernel_rfl) (by rfl) (fun _ _ _ h => h) (Below.refl w1.heap.size w1).drew (fun W hW => by go_simp; all_goals first | with_reducible rfl | rfl) ?_
  simp only [List.getElem_toArray, List.getElem_cons_zero, List.getElem_cons_succ, Act.put, List.setIfInBounds_toArray, List.set_cons_succ, List.set_cons_zero]
  refine wpIn_take 7 (.slice r.D p.kids.length r.d) rfl (by kernel_rfl) (by kernel_rfl) (by kernel_rfl) (by kernel_rfl) (by kernel_rfl) (by rfl) (fun _ _ _ h => h) (Below.refl w1.heap.size w1).drew (fun W hW => by have hc := (hW.cell (p := ⟨w.heap.size, 3, none⟩) (show w.heap.size < w1.heap.size by have := HSZ.out; omega)).trans (HN.out.cell 3); simp at hc; go_simp; all_goals first | with_reducible rfl | rfl) ?_
  simp only [List.getElem_toArray, List.getElem_cons_zero, List.getElem_cons_succ, Act.put, List.setIfInBounds_toArray, List.set_cons_succ, List.set_cons_zero]
  refine wpIn_take 9 (.pointer (some ⟨w.heap.size, 5, none⟩)) rfl (by kernel_rfl) (by kernel_rfl) (by kernel_rfl) (by kernel_rfl) (by kernel_rfl) (by rfl) (fun _ _ _ h => h) (Below.refl w1.heap.size w1).drew (fun W hW => by go_simp; all_goals first | with_reducible rfl | rfl) ?_
  simp only [List.getElem_toArray, List.getElem_cons_zero, List.getElem_cons_succ, Act.put, List.setIfInBounds_toArray, List.set_cons_succ, List.set_cons_zero]
  refine wpIn_take 10 (.slice r.V p.vals.length r.v) rfl (by kernel_rfl) (by kernel_rfl) (by kernel_rfl) (by kernel_rfl) (by kernel_rfl) (by rfl) (fun _ _ _ h => h) (Below.refl w1.heap.size w1).drew (fun W hW => by have hc := (hW.cell (p := ⟨w.heap.size, 5, none⟩) (show w.heap.size < w1.heap.size by have := HSZ.out; omega)).trans (HN.out.cell 5); simp at hc; go_simp; all_goals first | with_reducible rfl | rfl) ?_
  simp only [List.getElem_toArray, List.getElem_cons_zero, List.getElem_cons_succ, Act.put, List.setIfInBounds_toArray, List.set_cons_succ, List.set_cons_zero]
  refine wpIn_one 2 rfl (by kernel_rfl) (fun _ => (Below.refl w1.heap.size w1).drew) (by rfl) ?_
  go_simp
  refine (cloneM_any r.I p.items.length r.i xsI w1.drew HLI.out HNI.out (fun a ha j u hu => HCI.out a ha j u hu) HOI.out (by have := HS.out.i; omega)).mono ?_
  rintro e w2 ⟨u2, rfl, ho2, hb2⟩
  obtain ⟨A2, c2, rfl⟩ := own_form ho2
  have hB2 : Below w1.heap.size w1 w2 := (Below.refl w1.heap.size w1).drew.trans hb2
  have HO2 := Lib.hid (show w2.ownsRow w1.heap.size ItemT 10 (.slice A2 p.items.length c2) p.items.length xsI from ho2)
  have hz2 := hB2.size
  clear ho2 hb2
  simp only [List.getElem_toArray, List.getElem_cons_zero, List.getElem_cons_succ, Act.put, List.setIfInBounds_toArray, List.set_cons_succ, List.set_cons_zero]
  refine wpIn_take 12 (.pointer (some ⟨w.heap.size, 1, none⟩)) rfl (by kernel_rfl) (by kernel_rfl) (by kernel_rfl) (by kernel_rfl) (by kernel_rfl) (by rfl) (fun _ _ _ h => h) hB2 (fun W hW => by go_simp; all_goals first | with_reducible rfl | rfl) ?_
  simp only [List.getElem_toArray, List.getElem_cons_zero, List.getElem_cons_succ, Act.put, List.setIfInBounds_toArray, List.set_cons_succ, List.set_cons_zero]
  refine wpIn_one 5 rfl (by kernel_rfl) (fun _ => hB2) (by rfl) ?_
  go_simp
  refine (cloneT_any r.k (HP.out.keys.go hB2) (by have := HS.out.k; omega)).mono ?_
  rintro e w3 ⟨A3, c3, rfl, ho3, hb3⟩
  have hB3 : Below w1.heap.size w1 w3 := hB2.trans (hb3.mono hz2)
  have HO3 := Lib.hid ho3
  have HB3 := Lib.hid hb3
  have hz3 := hB3.size
  clear ho3 hb3
  simp only [List.getElem_toArray, List.getElem_cons_zero, List.getElem_cons_succ, Act.put, List.setIfInBounds_toArray, List.set_cons_succ, List.set_cons_zero]
  refine wpIn_one 8 rfl (by kernel_rfl) (fun _ => hB3) (by rfl) ?_
  go_simp
  refine (cloneN_any r.d (HP.out.kids.go hB3) (by have := HS.out.d; omega)).mono ?_
  rintro e w4 ⟨A4, c4, rfl, ho4, hb4⟩
  have hB4 : Below w1.heap.size w1 w4 := hB3.trans (hb4.mono hz3)
  have HO4 := Lib.hid ho4
  have HB4 := Lib.hid hb4
  have hz4 := hB4.size
  clear ho4 hb4
  simp only [List.getElem_toArray, List.getElem_cons_zero, List.getElem_cons_succ, Act.put, List.setIfInBounds_toArray, List.set_cons_succ, List.set_cons_zero]
  refine wpIn_one 11 rfl (by kernel_rfl) (fun _ => hB4) (by rfl) ?_
  go_simp
  refine (cloneT_any r.v (HP.out.vals.go hB4) (by have := HS.out.v; omega)).mono ?_
  rintro e w5 ⟨A5, c5, rfl, ho5, hb5⟩
  have hB5 : Below w1.heap.size w1 w5 := hB4.trans (hb5.mono hz4)
  have HO5 := Lib.hid ho5
  have HB5 := Lib.hid hb5
  have hz5 := hB5.size
  clear ho5 hb5
  have HB06 := Lib.hid (HB0.out.trans (hB5.mono HB0.out.size))
  have hn5 : Blk w5 w.heap.size PageT #[.int .i64 p.kind, .slice r.I p.items.length r.i, .slice r.K p.keys.length r.k, .slice r.D p.kids.length r.d, .string ⟨p.text.toArray⟩, .slice r.V p.vals.length r.v, .slice r.F p.free.length r.f, .int .i64 p.next, .int .u64 p.mt.txn, .int .i64 p.mt.main.page, .int .i64 p.mt.main.count, .int .i64 p.mt.main.flags, .int .i64 p.mt.free, .int .i64 p.mt.last] := HN.out.below hB5 HN.out.lt
  have hz5' : Blk w5 (w.heap.size + 1) PageT pgZ5 := HZ.out.below hB5 HZ.out.lt
  have HN5 := Lib.hid hn5
  have HZ5 := Lib.hid hz5'
  have d1 : w5.cell? ⟨w.heap.size, 1, none⟩ = some (.slice r.I p.items.length r.i) := hn5.cell 1
  have d2 : w5.cell? ⟨w.heap.size, 2, none⟩ = some (.slice r.K p.keys.length r.k) := hn5.cell 2
  have d3 : w5.cell? ⟨w.heap.size, 3, none⟩ = some (.slice r.D p.kids.length r.d) := hn5.cell 3
  have d5 : w5.cell? ⟨w.heap.size, 5, none⟩ = some (.slice r.V p.vals.length r.v) := hn5.cell 5
  have f1 := hn5.frozen 1
  have f2 := hn5.frozen 2
  have f3 := hn5.frozen 3
  have f5 := hn5.frozen 5
  clear hn5 hz5'
  simp only [List.getElem_toArray, List.getElem_cons_zero, List.getElem_cons_succ, Act.put, List.setIfInBounds_toArray, List.set_cons_succ, List.set_cons_zero]
  refine wpIn_one 13 rfl (by kernel_rfl) (fun _ => hB5) (by rfl) ?_
  go_simp
  refine wpIn_one 14 rfl (by kernel_rfl) (fun h => absurd h (by decide)) (by rfl) ?_
  go_simp
  refine wpIn_one 15 rfl (by kernel_rfl) (fun h => absurd h (by decide)) (by rfl) ?_
  go_simp
  refine wpIn_one 16 rfl (by kernel_rfl) (fun h => absurd h (by decide)) (by rfl) ?_
  go_simp
  refine wpIn_one 17 rfl (by kernel_rfl) (fun h => absurd h (by decide)) (by rfl) ?_
  go_simp
  refine wpIn_one 18 rfl (by kernel_rfl) (fun h => absurd h (by decide)) (by rfl) ?_
  go_simp
  refine wpIn_one 19 rfl (by kernel_rfl) (fun h => absurd h (by decide)) (by rfl) ?_
  go_simp
  refine wpIn_done (by kernel_rfl) (by kernel_rfl) ?_ _
  simp only [Exit.then]
  go_upto_region 2 with fail
  clear d1 d2 d3 d5 f1 f2 f3 f5
  refine wp_gen (fun W => CqS w p ⟨A2, A3, A4, A5, r.F, c2, c3, c4, c5, r.f⟩ W ∧ W.ownsRow w.heap.size ItemT 10 (.slice A2 p.items.length c2) p.items.length xsI ∧ SeqQ itemV (SI W (fun k => w.heap.size ≤ k)) p.items xsI ∧ Frees W (fun k => w.heap.size ≤ k) r.F p.free) ?_ ?_
  · have k4 : Chg (OneM w.heap.size) w5 ((((w5.setCell ⟨w.heap.size, 1, none⟩ (.slice A2 p.items.length c2)).setCell ⟨w.heap.size, 2, none⟩ (.slice A3 p.keys.length c3)).setCell ⟨w.heap.size, 3, none⟩ (.slice A4 p.kids.length c4)).setCell ⟨w.heap.size, 5, none⟩ (.slice A5 p.vals.length c5)) := (((Chg.set1 w5 _ 1 _).trans (Chg.set1 _ _ 2 _)).trans (Chg.set1 _ _ 3 _)).trans (Chg.set1 _ _ 5 _)
    have hbb := HB06.out.trans (k4.below HB06.out.size fun j hj e => by have : j = w.heap.size := e; omega)
    have hlow : ∀ {e : TypeId} {size n base : Nat} {v : Value} {xs : List Value} {W : World}, w.heap.size ≤ base → Below W.heap.size W w5 → W.ownsRow base e size v n xs → e ≠ PageT → ((((w5.setCell ⟨w.heap.size, 1, none⟩ (.slice A2 p.items.length c2)).setCell ⟨w.heap.size, 2, none⟩ (.slice A3 p.keys.length c3)).setCell ⟨w.heap.size, 3, none⟩ (.slice A4 p.kids.length c4)).setCell ⟨w.heap.size, 5, none⟩ (.slice A5 p.vals.length c5)).ownsRow w.heap.size e size v n xs := fun hbase hbw ho hne => own_base (own_setT (own_chg2 (S := NoM) ho (Chg.of_below hbw) (fun _ _ h => h)) HN5.out hne k4) hbase
    have hw1 : w.heap.size ≤ w1.heap.size := HB0.out.size
    have q3 := HB3.out.size
    have q4 := HB4.out.size
    have q5 := HB5.out.size
    refine ⟨⟨hbb, ((((HN5.out.set_ 1 _).set_ 2 _).set_ 3 _).set_ 5 _), HZ5.out.chg k4 (by unfold OneM; omega), hlow (by omega) (HB4.out.trans (HB5.out.mono q4)) HO3.out (by decide), hlow (by omega) HB5.out HO4.out (by decide), hlow (by omega) (Below.refl _ _) HO5.out (by decide), HTX.out⟩, hlow hw1 ((HB3.out.trans (HB4.out.mono q3)).trans (HB5.out.mono (Nat.le_trans q3 q4))) HO2.out (by decide), HQI.out.imp fun V x hx => hx.chg (Chg.of_below hbb), HFR.out.chg (Chg.of_below hbb)⟩
  clear HB0 HP HN HZ HQI HFR HCI HTX HLI HOI HNI HO2 HO3 HO4 HO5 HB3 HB4 HB5 HB06 HN5 HZ5 HSZ hB2 hB3 hB4 hB5 hz2 hz3 hz4 hz5
  rintro W6 ⟨hS, hI, hQ, hF⟩
  have CS := Lib.hid hS
  have CI := Lib.hid hI
  have CQ := Lib.hid hQ
  have CF := Lib.hid hF
  have d1 : W6.cell? ⟨w.heap.size, 1, none⟩ = some (.slice A2 p.items.length c2) := hS.bp.cell 1
  clear hS hI hQ hF
  obtain ⟨r1, hr1⟩ : ∃ r1 : Refs, r1 = ⟨A2, A3, A4, A5, r.F, c2, c3, c4, c5, r.f⟩ := ⟨_, rfl⟩
  have e1 : r1.I = A2 := by rw [hr1]
  have e1c : r1.i = c2 := by rw [hr1]
  have E6 := Lib.hid (show r1.F = r.F by rw [hr1])
  have E6c := Lib.hid (show r1.f = r.f by rw [hr1])
  rw [← hr1] at CS
  clear hr1
  have LI := Lib.hid (show CiS itemV SI ItemT 10 (w.heap.size + 2) w.heap.size w.heap.size p.items A2 c2 0 W6 from ⟨[], xsI, CI.out, rfl, CQ.out⟩)
  have hin := HS.out.i
  clear CI CQ
  go_upto_region 3 with fail
  go_loopw [24] (fun iv wr => ∃ i : Nat, i ≤ p.items.length ∧ iv = .int .i64 (i : Int) ∧ CqS w p r1 wr ∧ CiS itemV SI ItemT 10 (w.heap.size + 2) w.heap.size w.heap.size p.items A2 c2 i wr ∧ Frees wr (fun k => w.heap.size ≤ k) r.F p.free) (fun iv _ => p.items.length - (intOf iv).toNat)
  case atStart => exact ⟨0, Nat.zero_le _, rfl, CS.out, LI.out, CF.out⟩
  case round =>
    clear d1 LI CF CS
    obtain ⟨i, hi, rfl, hcs, hli, hcf⟩ := hrel
    have CF := Lib.hid hcf
    have d1 : wr.cell? ⟨w.heap.size, 1, none⟩ = some (.slice A2 p.items.length c2) := by
      have := hcs.bp.cell 1
      rw [← e1, ← e1c]
      exact this
    have CS := Lib.hid hcs
    by_cases hlt : i < p.items.length
    · obtain ⟨xs1, xs2, ho, h1, h2⟩ := hli.xs
      obtain ⟨q1, q2⟩ := take_get p.items i Sp.item0 hlt
      rcases own_none ho with ⟨_, h0, _⟩ | ⟨g, cur, rfl, hgB, hgb, hgc⟩
      · omega
      rw [q2] at h2
      obtain ⟨V, cv, ys, rfl, hV, h2⟩ := h2
      have hx1 : xs1.length = i * 10 := by
        have := h1.len itemV_ten
        rw [List.length_take] at this
        omega
      have d5 : wr.cell? ⟨g, i * 10 + 5, none⟩ = some (.slice V (p.items.getD i Sp.item0).vals.length cv) := by
        rw [← Nat.zero_add (i * 10 + 5)]
        refine hgc _ _ ?_
        rw [List.getElem?_append_right (by omega), hx1, show i * 10 + 5 - i * 10 = 5 by omega]
        rfl
      have hxv : (p.items.getD i Sp.item0).vals.length ≤ 1000 := by
        refine HS.out.iv _ ?_
        rw [show p.items.getD i Sp.item0 = p.items[i] by simp [List.getD, hlt]]
        exact List.getElem_mem hlt
      have hgw := hgb.lt
      have hbw := hcs.bp.lt
      have HO := Lib.hid ho
      have HQ1 := Lib.hid h1
      have HQ2 := Lib.hid h2
      have HV := Lib.hid hV
      have HGB := Lib.hid hgb
      have HT1 := Lib.hid q1
      clear ho h1 h2 hV hgb hgc hcs hli hcf q1 q2
      generalize p.items.getD i Sp.item0 = x at *
      have hlt' : (i : Int) < (p.items.length : Int) := by omega
      go_upto_region 5 with fail
      refine wp_region_in 13 12 (fun W => Below wr.heap.size wr W) (by kernel_rfl) rfl ?_
      refine wpIn_take 0 (.pointer (some ⟨w.heap.size, 1, none⟩)) rfl (by kernel_rfl) (by kernel_rfl) (by kernel_rfl) (by kernel_rfl) (by kernel_rfl) (by rfl) (fun _ _ _ h => h) (Below.refl wr.heap.size wr).drew (fun W hW => by go_simp; all_goals first | with_reducible rfl | rfl) ?_
      simp only [List.getElem_toArray, List.getElem_cons_zero, List.getElem_cons_succ, Act.put, List.setIfInBounds_toArray, List.set_cons_succ, List.set_cons_zero]
      refine wpIn_take 1 (.slice (some ⟨g, 0, none⟩) p.items.length c2) rfl (by kernel_rfl) (by kernel_rfl) (by kernel_rfl) (by kernel_rfl) (by kernel_rfl) (by rfl) (fun _ _ _ h => h) (Below.refl wr.heap.size wr).drew (fun W hW => by have hc := (hW.cell (p := ⟨w.heap.size, 1, none⟩) (by assumption)).trans d1; go_simp; all_goals first | with_reducible rfl | rfl) ?_
      simp only [List.getElem_toArray, List.getElem_cons_zero, List.getElem_cons_succ, Act.put, List.setIfInBounds_toArray, List.set_cons_succ, List.set_cons_zero]
      refine wpIn_take 2 (.int .i64 (i : Int)) rfl (by kernel_rfl) (by kernel_rfl) (by kernel_rfl) (by kernel_rfl) (by kernel_rfl) (by rfl) (fun _ _ _ h => h) (Below.refl wr.heap.size wr).drew (fun W hW => by go_simp; all_goals first | with_reducible rfl | rfl) ?_
      simp only [List.getElem_toArray, List.getElem_cons_zero, List.getElem_cons_succ, Act.put, List.setIfInBounds_toArray, List.set_cons_succ, List.set_cons_zero]
      refine wpIn_take 3 (.pointer (some ⟨w.heap.size, 1, none⟩)) rfl (by kernel_rfl) (by kernel_rfl) (by kernel_rfl) (by kernel_rfl) (by kernel_rfl) (by rfl) (fun _ _ _ h => h) (Below.refl wr.heap.size wr).drew (fun W hW => by go_simp; all_goals first | with_reducible rfl | rfl) ?_
      simp only [List.getElem_toArray, List.getElem_cons_zero, List.getElem_cons_succ, Act.put, List.setIfInBounds_toArray, List.set_cons_succ, List.set_cons_zero]
      refine wpIn_take 4 (.slice (some ⟨g, 0, none⟩) p.items.length c2) rfl (by kernel_rfl) (by kernel_rfl) (by kernel_rfl) (by kernel_rfl) (by kernel_rfl) (by rfl) (fun _ _ _ h => h) (Below.refl wr.heap.size wr).drew (fun W hW => by have hc := (hW.cell (p := ⟨w.heap.size, 1, none⟩) (by assumption)).trans d1; go_simp; all_goals first | with_reducible rfl | rfl) ?_
      simp only [List.getElem_toArray, List.getElem_cons_zero, List.getElem_cons_succ, Act.put, List.setIfInBounds_toArray, List.set_cons_succ, List.set_cons_zero]
      refine wpIn_take 5 (.int .i64 (i : Int)) rfl (by kernel_rfl) (by kernel_rfl) (by kernel_rfl) (by kernel_rfl) (by kernel_rfl) (by rfl) (fun _ _ _ h => h) (Below.refl wr.heap.size wr).drew (fun W hW => by go_simp; all_goals first | with_reducible rfl | rfl) ?_
      simp only [List.getElem_toArray, List.getElem_cons_zero, List.getElem_cons_succ, Act.put, List.setIfInBounds_toArray, List.set_cons_succ, List.set_cons_zero]
      refine wpIn_take 6 (.pointer (some ⟨g, i * 10, none⟩)) rfl (by kernel_rfl) (by kernel_rfl) (by kernel_rfl) (by kernel_rfl) (by kernel_rfl) (by rfl) (fun _ _ _ h => h) (Below.refl wr.heap.size wr).drew (fun W hW => by go_simp; all_goals first | with_reducible rfl | rfl) ?_
      simp only [List.getElem_toArray, List.getElem_cons_zero, List.getElem_cons_succ, Act.put, List.setIfInBounds_toArray, List.set_cons_succ, List.set_cons_zero]
      refine wpIn_take 7 (.pointer (some ⟨g, i * 10 + 5, none⟩)) rfl (by kernel_rfl) (by kernel_rfl) (by kernel_rfl) (by kernel_rfl) (by kernel_rfl) (by rfl) (fun _ _ _ h => h) (Below.refl wr.heap.size wr).drew (fun W hW => by go_simp; all_goals first | with_reducible rfl | rfl) ?_
      simp only [List.getElem_toArray, List.getElem_cons_zero, List.getElem_cons_succ, Act.put, List.setIfInBounds_toArray, List.set_cons_succ, List.set_cons_zero]
      refine wpIn_take 8 (.slice V x.vals.length cv) rfl (by kernel_rfl) (by kernel_rfl) (by kernel_rfl) (by kernel_rfl) (by kernel_rfl) (by rfl) (fun _ _ _ h => h) (Below.refl wr.heap.size wr).drew (fun W hW => by have hc := (hW.cell (p := ⟨g, i * 10 + 5, none⟩) (by assumption)).trans d5; go_simp; all_goals first | with_reducible rfl | rfl) ?_
      simp only [List.getElem_toArray, List.getElem_cons_zero, List.getElem_cons_succ, Act.put, List.setIfInBounds_toArray, List.set_cons_succ, List.set_cons_zero]
      refine wpIn_one 9 rfl (by kernel_rfl) (fun _ => (Below.refl wr.heap.size wr).drew) (by rfl) ?_
      go_simp
      refine (cloneT_any (w := wr.drew) cv HV.out hxv).mono ?_
      rintro e w7 ⟨A7, c7, rfl, ho7, hb7⟩
      have hB7 : Below wr.heap.size wr w7 := (Below.refl wr.heap.size wr).drew.trans hb7
      have HO7 := Lib.hid ho7
      have HB7 := Lib.hid hB7
      have e7 : w7.cell? ⟨g, i * 10 + 5, none⟩ = some (.slice V x.vals.length cv) := (hB7.cell (p := ⟨g, i * 10 + 5, none⟩) hgw).trans d5
      have f7 : w7.frozen? ⟨g, i * 10 + 5, none⟩ = false := (HGB.out.below hB7 hgw).frozen _
      clear ho7 hb7
      simp only [List.getElem_toArray, List.getElem_cons_zero, List.getElem_cons_succ, Act.put, List.setIfInBounds_toArray, List.set_cons_succ, List.set_cons_zero]
      refine wpIn_one 10 rfl (by kernel_rfl) (fun _ => hB7) (by rfl) ?_
      go_simp
      refine wpIn_one 11 rfl (by kernel_rfl) (fun _ => hB7) (by rfl) ?_
      go_simp
      refine wpIn_one 12 rfl (by kernel_rfl) (fun _ => hB7) (by rfl) ?_
      go_simp
      refine wpIn_done (by kernel_rfl) (by kernel_rfl) ?_ _
      simp only [Exit.then, Exit.inBlock]
      clear d1 d5 e7 f7
      go_wp2_with fail
      go_roundw
      case rel =>
        have hgb7 := HGB.out.below HB7.out hgw
        have k8 := Chg.set1 w7 g (i * 10 + 5) (.slice A7 x.vals.length c7)
        have zr := CS.out.hb.size
        have z7 := HB7.out.size
        refine ⟨i + 1, by omega, by go_num, (CS.out.go HB7.out).set hgb7 (by decide) (by decide) (by decide) hgB k8, ⟨xs1 ++ itemV x A7 c7, ys, ?_, ?_, ?_⟩, (CF.out.chg (Chg.of_below HB7.out)).chg (k8.mono fun k _ hk => by have : k = g := hk; omega)⟩
        · have ho := own_setK (own_chg2 (S := NoM) HO.out (Chg.of_below HB7.out) (fun _ _ h => h)) (i * 10 + 5) (.slice A7 x.vals.length c7)
          rw [List.set_append, if_neg (by omega), hx1, show i * 10 + 5 - i * 10 = 5 by omega] at ho
          rw [List.append_assoc]
          exact ho
        · rw [HT1.out]
          refine (HQ1.out.imp fun V' x' hx => siChg (siChg hx (Chg.of_below (S := NoM) HB7.out) (fun _ h => absurd h (by simp [NoM]))) k8 (fun k hk => .inr (by have : k = g := hk; subst this; rfl))).snoc ?_
          exact siChg (show SI w7 _ A7 x from row_new (B := w.heap.size + 2) HO7.out CS.out.bz.lt hgw (by omega)) k8 (fun k hk => .inr (by have : k = g := hk; subst this; rfl))
        · exact HQ2.out.imp fun V' x' hx => siChg (siChg hx (Chg.of_below (S := NoM) HB7.out) (fun _ h => absurd h (by simp [NoM]))) k8 (fun k hk => by have : k = g := hk; omega)
      case measure => simp [intOf]; omega
    · obtain rfl : i = p.items.length := by omega
      obtain ⟨xs1, xs2, ho, h1, h2⟩ := hli.xs
      rw [List.drop_length] at h2
      obtain rfl : xs2 = [] := h2
      rw [List.append_nil] at ho
      rw [List.take_length] at h1
      have HO := Lib.hid ho
      have HQ := Lib.hid (h1.imp (S' := SI wr (fun k => k < w.heap.size + 2 ∨ wr.heap.size ≤ k)) fun V x hx => row_wide hx fun k hk h => by
        rcases h with h | h
        · exact .inl h
        · omega)
      obtain ⟨xsF, hqF, hcF⟩ := hcf.seq
      have HQF := Lib.hid hqF
      have HCF := Lib.hid hcF
      have HLF := Lib.hid (show xsF.length = p.free.length * 2 from hqF.len freeV_two)
      have HOF := Lib.hid (show ∀ u ∈ xsF, u.oneCell' = true from hqF.one freeV_ones)
      have HNF := Lib.hid (show r.F = none → p.free.length = 0 from fun e => by
        rcases hcf.2 with h0 | ⟨b, off, e', _⟩
        · rw [h0]; rfl
        · rw [e'] at e; cases e)
      have hbp := hcs.bp
      have hbw := hbp.lt
      have d6 : wr.cell? ⟨w.heap.size, 6, none⟩ = some (.slice r.F p.free.length r.f) := by
        have := hbp.cell 6
        rw [← E6.out, ← E6c.out]
        exact this
      have HBP := Lib.hid hbp
      clear ho h1 hli hcs hcf hqF hcF hbp CF d1
      have hge : ¬ ((p.items.length : Int) < (p.items.length : Int)) := by omega
      obtain ⟨wo, rfl⟩ : ∃ W, W = wr := ⟨_, rfl⟩
      go_upto_region 7 with fail
      go_upto_region 8 with (go_at_call 125; refine (cloneF_any r.F p.free.length r.f xsF wo HLF.out HNF.out (fun a ha j u hu => HCF.out a ha j u hu) HOF.out (by have := HS.out.f; omega)).mono ?_; rintro e w8 ⟨u8, rfl, ho8, hb8⟩; obtain ⟨A8, c8, rfl⟩ := own_form ho8; have HO8 := Lib.hid ho8; have HB8 := Lib.hid hb8; have e6 : w8.cell? ⟨w.heap.size, 6, none⟩ = some (.slice r.F p.free.length r.f) := (hb8.cell (p := ⟨w.heap.size, 6, none⟩) hbw).trans d6; have f6 : w8.frozen? ⟨w.heap.size, 6, none⟩ = false := (HBP.out.below hb8 hbw).frozen 6; clear ho8 hb8)
      clear d6 e6 f6
      obtain ⟨r2, hr2⟩ : ∃ r2 : Refs, r2 = { r1 with F := A8, f := c8 } := ⟨_, rfl⟩
      have g1 : r2.I = A2 := by rw [hr2]; exact e1
      have g1c : r2.i = c2 := by rw [hr2]; exact e1c
      have g6 : r2.F = A8 := by rw [hr2]
      have g6c : r2.f = c8 := by rw [hr2]
      refine wp_gen (fun W => CqS w p r2 W ∧ W.ownsRow w.heap.size ItemT 10 (.slice A2 p.items.length c2) p.items.length xs1 ∧ SeqQ itemV (SI W (fun k => k < w.heap.size + 2 ∨ wo.heap.size ≤ k)) p.items xs1 ∧ CiS freeV SF FreeT 2 wo.heap.size wo.heap.size w.heap.size p.free A8 c8 0 W ∧ Below wo.heap.size wo w8 ∧ Chg (OneM w.heap.size) w8 W) ?_ ?_
      · have k6 := Chg.set1 w8 w.heap.size 6 (.slice A8 p.free.length c8)
        have zo := CS.out.hb.size
        have z8 := HB8.out.size
        have c1 := CS.out.go HB8.out
        have hC : CqS w p { r1 with F := A8, f := c8 } (w8.setCell ⟨w.heap.size, 6, none⟩ (.slice A8 p.free.length c8)) := ⟨c1.hb.trans (k6.below c1.hb.size fun j hj e => by have : j = w.heap.size := e; omega), c1.bp.set_ 6 _, c1.bz.chg k6 (by unfold OneM; omega), own_setT c1.ik c1.bp (by decide) k6, own_setT c1.id c1.bp (by decide) k6, own_setT c1.iv c1.bp (by decide) k6, c1.tx⟩
        rw [← hr2] at hC
        refine ⟨hC, own_setT (own_chg2 (S := NoM) HO.out (Chg.of_below HB8.out) (fun _ _ h => h)) c1.bp (by decide) k6, ?_, ⟨[], xsF, ?_, rfl, ?_⟩, HB8.out, k6⟩
        · exact HQ.out.imp fun V' x' hx => siChg (siChg hx (Chg.of_below (S := NoM) HB8.out) (fun _ h => absurd h (by simp [NoM]))) k6 (fun k hk => .inl (by have : k = w.heap.size := hk; omega))
        · exact own_setT HO8.out c1.bp (by decide) k6
        · exact HQF.out.imp fun V' x' hx => sfChg (sfChg hx (Chg.of_below (S := NoM) HB8.out) (fun _ h => absurd h (by simp [NoM]))) k6 (fun k hk => by have : k = w.heap.size := hk; omega)
      have HWO := Lib.hid (show w.heap.size + 1 < wo.heap.size from CS.out.bz.lt)
      have HWB := Lib.hid (CS.out.hb.size)
      clear CS HO HQ HQF HCF HLF HOF HNF HBP HO8 HB8 hr2 hge hlt hbw e1 e1c E6 E6c
      rintro W9 ⟨hS, hI, hQ, hL, _, _⟩
      have CS := Lib.hid hS
      have CO := Lib.hid hI
      have CQ := Lib.hid hQ
      have LI := Lib.hid hL
      have d1 : W9.cell? ⟨w.heap.size, 6, none⟩ = some (.slice A8 p.free.length c8) := by
        have := hS.bp.cell 6
        rw [← g6, ← g6c]
        exact this
      have hin2 := HS.out.f
      clear hS hI hQ hL
      go_upto_region 9 with fail
      go_loopw [47] (fun iv wr => ∃ i : Nat, i ≤ p.free.length ∧ iv = .int .i64 (i : Int) ∧ CqS w p r2 wr ∧ CiS freeV SF FreeT 2 wo.heap.size wo.heap.size w.heap.size p.free A8 c8 i wr ∧ wr.ownsRow w.heap.size ItemT 10 (.slice A2 p.items.length c2) p.items.length xs1 ∧ SeqQ itemV (SI wr (fun k => k < w.heap.size + 2 ∨ wo.heap.size ≤ k)) p.items xs1) (fun iv _ => p.free.length - (intOf iv).toNat)
      case atStart => exact ⟨0, Nat.zero_le _, rfl, CS.out, LI.out, CO.out, CQ.out⟩
      case round =>
        clear d1 LI CO CQ CS
        obtain ⟨i, hi, rfl, hcs, hli, hco, hcq⟩ := hrel
        have CO := Lib.hid hco
        have CQ := Lib.hid hcq
        have d1 : wr.cell? ⟨w.heap.size, 6, none⟩ = some (.slice A8 p.free.length c8) := by
          have := hcs.bp.cell 6
          rw [← g6, ← g6c]
          exact this
        have CS := Lib.hid hcs
        clear hco hcq
        by_cases hlt : i < p.free.length
        · obtain ⟨ys1, ys2, ho, h1, h2⟩ := hli.xs
          obtain ⟨q1, q2⟩ := take_get p.free i Sp.free0 hlt
          rcases own_none ho with ⟨_, h0, _⟩ | ⟨g, cur, rfl, hgN, hgb, hgc⟩
          · omega
          have hgB : w.heap.size ≤ g := Nat.le_trans HWB.out hgN
          rw [q2] at h2
          obtain ⟨V, cv, ys, rfl, hV, h2⟩ := h2
          have hx1 : ys1.length = i * 2 := by
            have := h1.len freeV_two
            rw [List.length_take] at this
            omega
          have d5 : wr.cell? ⟨g, i * 2 + 1, none⟩ = some (.slice V (p.free.getD i Sp.free0).ids.length cv) := by
            rw [← Nat.zero_add (i * 2 + 1)]
            refine hgc _ _ ?_
            rw [List.getElem?_append_right (by omega), hx1, show i * 2 + 1 - i * 2 = 1 by omega]
            rfl
          have hxv : (p.free.getD i Sp.free0).ids.length ≤ 1000 := by
            refine HS.out.fi _ ?_
            rw [show p.free.getD i Sp.free0 = p.free[i] by simp [List.getD, hlt]]
            exact List.getElem_mem hlt
          have hgw := hgb.lt
          have hbw := hcs.bp.lt
          have HO := Lib.hid ho
          have HQ1 := Lib.hid h1
          have HQ2 := Lib.hid h2
          have HV := Lib.hid hV
          have HGB := Lib.hid hgb
          have HT1 := Lib.hid q1
          clear ho h1 h2 hV hgb hgc hcs hli q1 q2
          generalize p.free.getD i Sp.free0 = x at *
          have hlt' : (i : Int) < (p.free.length : Int) := by omega
          go_upto_region 11 with fail
          refine wp_region_in 13 12 (fun W => Below wr.heap.size wr W) (by kernel_rfl) rfl ?_
          refine wpIn_take 0 (.pointer (some ⟨w.heap.size, 6, none⟩)) rfl (by kernel_rfl) (by kernel_rfl) (by kernel_rfl) (by kernel_rfl) (by kernel_rfl) (by rfl) (fun _ _ _ h => h) (Below.refl wr.heap.size wr).drew (fun W hW => by go_simp; all_goals first | with_reducible rfl | rfl) ?_
          simp only [List.getElem_toArray, List.getElem_cons_zero, List.getElem_cons_succ, Act.put, List.setIfInBounds_toArray, List.set_cons_succ, List.set_cons_zero]
          refine wpIn_take 1 (.slice (some ⟨g, 0, none⟩) p.free.length c8) rfl (by kernel_rfl) (by kernel_rfl) (by kernel_rfl) (by kernel_rfl) (by kernel_rfl) (by rfl) (fun _ _ _ h => h) (Below.refl wr.heap.size wr).drew (fun W hW => by have hc := (hW.cell (p := ⟨w.heap.size, 6, none⟩) (by assumption)).trans d1; go_simp; all_goals first | with_reducible rfl | rfl) ?_
          simp only [List.getElem_toArray, List.getElem_cons_zero, List.getElem_cons_succ, Act.put, List.setIfInBounds_toArray, List.set_cons_succ, List.set_cons_zero]
          refine wpIn_take 2 (.int .i64 (i : Int)) rfl (by kernel_rfl) (by kernel_rfl) (by kernel_rfl) (by kernel_rfl) (by kernel_rfl) (by rfl) (fun _ _ _ h => h) (Below.refl wr.heap.size wr).drew (fun W hW => by go_simp; all_goals first | with_reducible rfl | rfl) ?_
          simp only [List.getElem_toArray, List.getElem_cons_zero, List.getElem_cons_succ, Act.put, List.setIfInBounds_toArray, List.set_cons_succ, List.set_cons_zero]
          refine wpIn_take 3 (.pointer (some ⟨w.heap.size, 6, none⟩)) rfl (by kernel_rfl) (by kernel_rfl) (by kernel_rfl) (by kernel_rfl) (by kernel_rfl) (by rfl) (fun _ _ _ h => h) (Below.refl wr.heap.size wr).drew (fun W hW => by go_simp; all_goals first | with_reducible rfl | rfl) ?_
          simp only [List.getElem_toArray, List.getElem_cons_zero, List.getElem_cons_succ, Act.put, List.setIfInBounds_toArray, List.set_cons_succ, List.set_cons_zero]
          refine wpIn_take 4 (.slice (some ⟨g, 0, none⟩) p.free.length c8) rfl (by kernel_rfl) (by kernel_rfl) (by kernel_rfl) (by kernel_rfl) (by kernel_rfl) (by rfl) (fun _ _ _ h => h) (Below.refl wr.heap.size wr).drew (fun W hW => by have hc := (hW.cell (p := ⟨w.heap.size, 6, none⟩) (by assumption)).trans d1; go_simp; all_goals first | with_reducible rfl | rfl) ?_
          simp only [List.getElem_toArray, List.getElem_cons_zero, List.getElem_cons_succ, Act.put, List.setIfInBounds_toArray, List.set_cons_succ, List.set_cons_zero]
          refine wpIn_take 5 (.int .i64 (i : Int)) rfl (by kernel_rfl) (by kernel_rfl) (by kernel_rfl) (by kernel_rfl) (by kernel_rfl) (by rfl) (fun _ _ _ h => h) (Below.refl wr.heap.size wr).drew (fun W hW => by go_simp; all_goals first | with_reducible rfl | rfl) ?_
          simp only [List.getElem_toArray, List.getElem_cons_zero, List.getElem_cons_succ, Act.put, List.setIfInBounds_toArray, List.set_cons_succ, List.set_cons_zero]
          refine wpIn_take 6 (.pointer (some ⟨g, i * 2, none⟩)) rfl (by kernel_rfl) (by kernel_rfl) (by kernel_rfl) (by kernel_rfl) (by kernel_rfl) (by rfl) (fun _ _ _ h => h) (Below.refl wr.heap.size wr).drew (fun W hW => by go_simp; all_goals first | with_reducible rfl | rfl) ?_
          simp only [List.getElem_toArray, List.getElem_cons_zero, List.getElem_cons_succ, Act.put, List.setIfInBounds_toArray, List.set_cons_succ, List.set_cons_zero]
          refine wpIn_take 7 (.pointer (some ⟨g, i * 2 + 1, none⟩)) rfl (by kernel_rfl) (by kernel_rfl) (by kernel_rfl) (by kernel_rfl) (by kernel_rfl) (by rfl) (fun _ _ _ h => h) (Below.refl wr.heap.size wr).drew (fun W hW => by go_simp; all_goals first | with_reducible rfl | rfl) ?_
          simp only [List.getElem_toArray, List.getElem_cons_zero, List.getElem_cons_succ, Act.put, List.setIfInBounds_toArray, List.set_cons_succ, List.set_cons_zero]
          refine wpIn_take 8 (.slice V x.ids.length cv) rfl (by kernel_rfl) (by kernel_rfl) (by kernel_rfl) (by kernel_rfl) (by kernel_rfl) (by rfl) (fun _ _ _ h => h) (Below.refl wr.heap.size wr).drew (fun W hW => by have hc := (hW.cell (p := ⟨g, i * 2 + 1, none⟩) (by assumption)).trans d5; go_simp; all_goals first | with_reducible rfl | rfl) ?_
          simp only [List.getElem_toArray, List.getElem_cons_zero, List.getElem_cons_succ, Act.put, List.setIfInBounds_toArray, List.set_cons_succ, List.set_cons_zero]
          refine wpIn_one 9 rfl (by kernel_rfl) (fun _ => (Below.refl wr.heap.size wr).drew) (by rfl) ?_
          go_simp
          refine (cloneN_any (w := wr.drew) cv HV.out.1 hxv).mono ?_
          rintro e w7 ⟨A7, c7, rfl, ho7, hb7⟩
          have hB7 : Below wr.heap.size wr w7 := (Below.refl wr.heap.size wr).drew.trans hb7
          have HO7 := Lib.hid ho7
          have HB7 := Lib.hid hB7
          have e7 : w7.cell? ⟨g, i * 2 + 1, none⟩ = some (.slice V x.ids.length cv) := (hB7.cell (p := ⟨g, i * 2 + 1, none⟩) hgw).trans d5
          have f7 : w7.frozen? ⟨g, i * 2 + 1, none⟩ = false := (HGB.out.below hB7 hgw).frozen _
          clear ho7 hb7
          simp only [List.getElem_toArray, List.getElem_cons_zero, List.getElem_cons_succ, Act.put, List.setIfInBounds_toArray, List.set_cons_succ, List.set_cons_zero]
          refine wpIn_one 10 rfl (by kernel_rfl) (fun _ => hB7) (by rfl) ?_
          go_simp
          refine wpIn_one 11 rfl (by kernel_rfl) (fun _ => hB7) (by rfl) ?_
          go_simp
          refine wpIn_one 12 rfl (by kernel_rfl) (fun _ => hB7) (by rfl) ?_
          go_simp
          refine wpIn_done (by kernel_rfl) (by kernel_rfl) ?_ _
          simp only [Exit.then, Exit.inBlock]
          clear d1 d5 e7 f7
          go_wp2_with fail
          go_roundw
          case rel =>
            have hgb7 := HGB.out.below HB7.out hgw
            have k8 := Chg.set1 w7 g (i * 2 + 1) (.slice A7 x.ids.length c7)
            have zr := CS.out.hb.size
            have z7 := HB7.out.size
            refine ⟨i + 1, by omega, by go_num, (CS.out.go HB7.out).set hgb7 (by decide) (by decide) (by decide) hgB k8, ⟨ys1 ++ freeV x A7 c7, ys, ?_, ?_, ?_⟩, own_setT (own_chg2 (S := NoM) CO.out (Chg.of_below HB7.out) (fun _ _ h => h)) hgb7 (by decide) k8, CQ.out.imp fun V' x' hx => siChg (siChg hx (Chg.of_below (S := NoM) HB7.out) (fun _ h => absurd h (by simp [NoM]))) k8 (fun k hk => .inr (by have : k = g := hk; omega))⟩
            · have ho := own_setK (own_chg2 (S := NoM) HO.out (Chg.of_below HB7.out) (fun _ _ h => h)) (i * 2 + 1) (.slice A7 x.ids.length c7)
              rw [List.set_append, if_neg (by omega), hx1, show i * 2 + 1 - i * 2 = 1 by omega] at ho
              rw [List.append_assoc]
              exact ho
            · rw [HT1.out]
              refine (HQ1.out.imp fun V' x' hx => sfChg (sfChg hx (Chg.of_below (S := NoM) HB7.out) (fun _ h => absurd h (by simp [NoM]))) k8 (fun k hk => .inr (by have : k = g := hk; subst this; rfl))).snoc ?_
              exact sfChg (show SF w7 _ A7 x from ⟨row_new (B := wo.heap.size) HO7.out (Nat.le_trans hgN (Nat.le_of_lt hgw)) hgw (by omega), HV.out.2⟩) k8 (fun k hk => .inr (by have : k = g := hk; subst this; rfl))
            · exact HQ2.out.imp fun V' x' hx => sfChg (sfChg hx (Chg.of_below (S := NoM) HB7.out) (fun _ h => absurd h (by simp [NoM]))) k8 (fun k hk => by have : k = g := hk; omega)
          case measure => simp [intOf]; omega
        · obtain rfl : i = p.free.length := by omega
          obtain ⟨ys1, ys2, ho, h1, h2⟩ := hli.xs
          rw [List.drop_length] at h2
          obtain rfl : ys2 = [] := h2
          rw [List.append_nil] at ho
          rw [List.take_length] at h1
          have hge : ¬ ((p.free.length : Int) < (p.free.length : Int)) := by omega
          have k9 := chg_setRow5 wr (w.heap.size + 1) (pageV p r2).toArray
          have hw2 : w.heap.size + 1 < wo.heap.size := HWO.out
          have HFR : Hid (PageRd (wr.setRow (w.heap.size + 1) (pageV p r2).toArray) (fun k => k < w.heap.size) p r2) := by
            have hlow : ∀ k, w.heap.size ≤ k → ¬ (k < w.heap.size) := fun k h => by omega
            refine Lib.hid ⟨?_, Row.of_own (own_setT hcs.ik hcs.bz (by decide) k9) hlow (by have := HS.out.k; omega), Row.of_own (own_setT hcs.id hcs.bz (by decide) k9) hlow (by have := HS.out.d; omega), Row.of_own (own_setT hcs.iv hcs.bz (by decide) k9) hlow (by have := HS.out.v; omega), ?_, hcs.tx⟩
            · rw [g1]
              exact Items.of_seq (own_setT CO.out hcs.bz (by decide) k9) (CQ.out.imp fun V x hx => Row.anti (show Row _ _ V _ from siChg hx k9 (fun k hk => .inl (by have : k = w.heap.size + 1 := hk; omega))) fun k h => .inl (by omega)) hlow (by omega)
            · rw [g6]
              exact Frees.of_seq (own_base (own_setT ho hcs.bz (by decide) k9) HWB.out) (h1.imp fun V x hx => ⟨Row.anti (sfChg hx k9 (fun k hk => .inl (by have : k = w.heap.size + 1 := hk; omega))).1 fun k h => .inl (by omega), hx.2⟩) hlow (by omega)
          have HBB := Lib.hid hcs.hb
          have HBP := Lib.hid hcs.bp
          have HBZ := Lib.hid hcs.bz
          clear hcs hli ho h1 CS CO CQ d1 g1 g1c g6 g6c k9
          go_wp2_with (first
            | (refine wpList_row PageT _ rfl w.heap.size rfl rfl PageT _ (0, 0) _ HBP.out Tryz.underlying59 rfl rfl ?_)
            | (refine wpList_store_row rfl PageT _ _ rfl (w.heap.size + 1) _ rfl rfl PageT _ HBZ.out (by kernel_rfl) rfl (pageV_all5 p r2) ?_))
          obtain ⟨⟨z0, z1, z2, z3, z4, z5, z6, z7, z8, z9, z10, z11, z12, z13⟩, _⟩ := ((show Blk wr (w.heap.size + 1) PageT pgZ5 from HBZ.out).row (ds := #[.int .i64 p.kind, .slice r2.I p.items.length r2.i, .slice r2.K p.keys.length r2.k, .slice r2.D p.kids.length r2.d, .string ⟨p.text.toArray⟩, .slice r2.V p.vals.length r2.v, .slice r2.F p.free.length r2.f, .int .i64 p.next, .int .u64 p.mt.txn, .int .i64 p.mt.main.page, .int .i64 p.mt.main.count, .int .i64 p.mt.main.flags, .int .i64 p.mt.free, .int .i64 p.mt.last])).at14
          refine bodyPost_ret (v := .agg (pageV p r2).toArray) (by simp [results, Tryz.results69, go_sem, pageV, mtV, z0, z1, z2, z3, z4, z5, z6, z7, z8, z9, z10, z11, z12, z13]) rfl ⟨r2, rfl, HFR.out, below_setRow HBB.out (by omega) _⟩
end Go.Proofs.YtlpmjeiogdlifaaGreat
