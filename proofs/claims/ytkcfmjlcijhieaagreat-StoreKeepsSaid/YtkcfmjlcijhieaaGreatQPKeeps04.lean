/- Which pages may be taken again: parted, counted. Which pages may be taken again: told. -/
import Derived.Test.YtkcfmjlcijhieaaGreatQB03
import Derived.Test.YtkcfmjlcijhieaaGreatQB19
import Derived.Test.YtkcfmjlcijhieaaGreatQPKeeps03
import Derived.Maps.AppendAt
set_option linter.unusedSimpArgs false
set_option linter.unusedVariables false
namespace Go.Proofs.YtkcfmjlcijhieaaGreat
open Go.RowKit
attribute [local go_sem low] mk_extract
attribute [local go_sem] After.cell After.frozen mk_extract_end ByteArray.mk_append_mk
/-- Free pages by transactions, each row of the call's own. -/
def FrO (w : World) (B : Nat) : List Sp.Free → List Value → Prop
  | [], xs => xs = []
  | x :: l, xs => ∃ V c ys, xs = freeV x V c ++ ys ∧ w.ownsRow B IntT 1 (.slice V x.ids.length c) x.ids.length (x.ids.map iv) ∧ (x.ids.length ≤ 1000 ∧ 0 ≤ x.txn ∧ x.txn < 18446744073709551616) ∧ FrO w B l ys
section
variable {w w' : World} {B : Nat}
theorem FrO.chg {S : Nat → Prop} (hk : Chg S w w') (hS : ∀ k cs, B ≤ k → Blk w k IntT cs → ¬ S k) : ∀ {l : List Sp.Free} {xs : List Value}, FrO w B l xs → FrO w' B l xs
  | [], _, h => h
  | x :: l, _, ⟨V, c, ys, e, ho, hb, h⟩ => ⟨V, c, ys, e, own_chg2 ho hk (fun k hk' => by
      obtain ⟨cs, hc⟩ := own_ty ho hk'
      exact hS k cs (ho.lt k hk').1 hc), hb, h.chg hk hS⟩
theorem FrO.go (hb : Below w.heap.size w w') {l : List Sp.Free} {xs : List Value} (h : FrO w B l xs) : FrO w' B l xs := h.chg (S := NoM) (Chg.of_below hb) (fun _ _ _ _ h => h)
theorem FrO.snoc {x : Sp.Free} {V : Option Addr} {c : Nat} (ho : w.ownsRow B IntT 1 (.slice V x.ids.length c) x.ids.length (x.ids.map iv)) (hb : x.ids.length ≤ 1000 ∧ 0 ≤ x.txn ∧ x.txn < 18446744073709551616) : ∀ {l : List Sp.Free} {xs : List Value}, FrO w B l xs → FrO w B (l ++ [x]) (xs ++ freeV x V c)
  | [], xs, h => ⟨V, c, [], by rw [show xs = [] from h]; simp, ho, hb, rfl⟩
  | _ :: _, _, ⟨V', c', ys, e, ho', hb', h⟩ => ⟨V', c', ys ++ freeV x V c, by rw [e, List.append_assoc], ho', hb', h.snoc ho hb⟩
theorem own_intsB {w : World} {B : Nat} {A : Option Addr} {n c : Nat} {L : List Int} (h : w.ownsRow B IntT 1 (.slice A n c) n (L.map iv)) (hl : L.length = n) (hn : n ≤ 1000) {M : Nat → Prop} (hM : ∀ k, B ≤ k → ¬ M k) : Ints w M A L := by
  refine ⟨by rw [List.length_map]; omega, ?_⟩
  rcases own_none h with ⟨_, h0, _⟩ | ⟨g, cur, hv, hg, hb, hc⟩
  · left; rw [List.eq_nil_of_length_eq_zero (by omega : L.length = 0)]; rfl
  · exact .inr ⟨g, 0, hv, hb.lt, hM g hg, hc⟩
theorem FrO.seq {M : Nat → Prop} (hM : ∀ k, B ≤ k → ¬ M k) : ∀ {l : List Sp.Free} {xs : List Value}, FrO w B l xs → SeqQ freeV (SF w M) l xs
  | [], _, h => h
  | x :: l, _, ⟨V, c, ys, e, ho, hb, h⟩ => ⟨V, c, ys, e, ⟨own_intsB ho rfl hb.1 hM, hb.2⟩, h.seq hM⟩
end
/-- A list of free pages of the call's own. -/
structure FrsO (w : World) (B : Nat) (u : Value) (l : List Sp.Free) : Prop where
  ex : ∃ xs, w.ownsRow B FreeT 2 u l.length xs ∧ FrO w B l xs
section
variable {w w' : World} {B : Nat} {u : Value} {l : List Sp.Free}
theorem own_ty2 {w : World} {base : Nat} {e : TypeId} {n z : Nat} {v : Value} {xs : List Value} (h : w.ownsRow base e z v n xs) {k : Nat} (hk : v.ownBlock = some k) : ∃ cs, Blk w k e cs := by
  rcases h.2 with ⟨e, _⟩ | ⟨g, cap, cur, e, _, hh, _⟩
  · rw [e] at hk; simp [Value.ownBlock] at hk
  · rw [e] at hk
    have : g = k := by simpa [Value.ownBlock] using hk
    exact ⟨cur, this ▸ hh⟩
theorem FrsO.chg {S : Nat → Prop} (h : FrsO w B u l) (hk : Chg S w w') (hu : ∀ k, u.ownBlock = some k → ¬ S k) (hS : ∀ k cs, B ≤ k → Blk w k IntT cs → ¬ S k) : FrsO w' B u l := by
  obtain ⟨xs, h1, h2⟩ := h.ex
  exact ⟨xs, own_chg2 h1 hk hu, h2.chg hk hS⟩
theorem FrsO.go (h : FrsO w B u l) (hb : Below w.heap.size w w') : FrsO w' B u l := h.chg (S := NoM) (Chg.of_below hb) (fun _ _ h => h) (fun _ _ _ _ h => h)
theorem FrsO.nil : FrsO w B (.slice none 0 0) [] := ⟨[], own_nil0 _ _ _ _, rfl⟩
theorem FrsO.form (h : FrsO w B u l) : ∃ A c, u = .slice A l.length c := by
  obtain ⟨xs, h1, _⟩ := h.ex
  rcases h1.2 with ⟨rfl, h0⟩ | ⟨g, cap, cur, rfl, _⟩
  · exact ⟨none, 0, by rw [h0]⟩
  · exact ⟨_, _, rfl⟩
theorem FrsO.frees {A : Option Addr} {c : Nat} (h : FrsO w B (.slice A l.length c) l) {M : Nat → Prop} (hM : ∀ k, B ≤ k → ¬ M k) (hl : l.length ≤ 100000) : Frees w M A l := by
  obtain ⟨xs, h1, h2⟩ := h.ex
  exact Frees.of_seq h1 (h2.seq hM) hM hl
theorem FrO.lens : ∀ {l : List Sp.Free} {xs : List Value}, FrO w B l xs → ∀ f ∈ l, f.ids.length ≤ 1000 ∧ 0 ≤ f.txn ∧ f.txn < 18446744073709551616
  | [], _, _, f, hf => by cases hf
  | _ :: _, _, ⟨_, _, ys, _, _, hb, h⟩, f, hf => by
    rcases List.mem_cons.1 hf with rfl | hf
    · exact hb
    · exact h.lens f hf
theorem FrsO.lens (h : FrsO w B u l) : ∀ f ∈ l, f.ids.length ≤ 1000 ∧ 0 ≤ f.txn ∧ f.txn < 18446744073709551616 := by
  obtain ⟨xs, _, h2⟩ := h.ex
  exact h2.lens
theorem Ints.iv {M : Nat → Prop} {A : Option Addr} {c : Nat} {L : List Int} (h : Ints w M A L) (h1 : 1 ≤ L.length) (hn : L.length ≤ 100000) : IV w (.slice A L.length c) L := by
  obtain ⟨b, off, rfl, _, hc⟩ := h.at_ (k := 0) (by omega)
  exact ⟨⟨_, c, rfl, .inr ⟨b, off, rfl, hc⟩⟩, hn⟩
/-- One more. -/
theorem FrsO.more {x : Sp.Free} {V : Option Addr} {c : Nat} {v' : Value} {xs : List Value} (h1 : w.ownsRow B FreeT 2 u l.length xs) (h2 : FrO w B l xs) (hB : B ≤ w.heap.size)
    (ho : w.ownsRow B IntT 1 (.slice V x.ids.length c) x.ids.length (x.ids.map iv)) (hb : x.ids.length ≤ 1000 ∧ 0 ≤ x.txn ∧ x.txn < 18446744073709551616)
    (hown : w'.ownsRow B FreeT 2 v' (l.length + 1) (xs ++ freeV x V c)) (hgr : w.grownBy w' u.ownBlock) : FrsO w' B v' (l ++ [x]) ∧ Chg (fun k => u.ownBlock = some k) w w' := by
  have hk : Chg (fun k => u.ownBlock = some k) w w' := Chg.of_grown hgr (fun k hk => .inl hk)
  have hS : ∀ k cs, B ≤ k → Blk w k IntT cs → ¬ (u.ownBlock = some k) := fun k cs _ hb' e => by
    obtain ⟨ds, hd⟩ := own_ty2 h1 e
    exact hb'.not_ (by decide) _ hd
  exact ⟨⟨xs ++ freeV x V c, by rw [List.length_append]; exact hown, (h2.snoc ho hb).chg hk hS⟩, hk⟩
end
theorem info_free2 : (Tryz.prog.info? 28).map (fun i => (i.zero, i.size, i.bytes)) = some (some (.agg #[.int .u64 0, .slice none 0 0]), 2, 32) := by kernel_rfl
theorem chg_setRowM {S : Nat → Prop} {a b : World} {g : Nat} (h : Chg S a b) (hg : S g ∨ a.heap.size ≤ g) (cs : Array Value) : Chg S a (b.setRow g cs) :=
  ⟨h.os, h.tape, h.output, by have := h.size; simpa [World.setRow] using this, fun k hk hs => by
    have : k ≠ g := by
      rintro rfl
      rcases hg with hg | hg
      · exact hs hg
      · omega
    rw [setRow_other b g k cs this]
    exact h.block k hk hs⟩
/-- What parted holds between its rounds. -/
structure PtS (w : World) (va vb : Value) (l a b : List Sp.Free) (A : Option Addr) (W : World) : Prop where
  hb : Below w.heap.size w W
  fa : FrsO W w.heap.size va a
  fb : FrsO W w.heap.size vb b
  ap : ∀ k, va.ownBlock = some k → vb.ownBlock ≠ some k
  fr : Frees W (fun k => w.heap.size ≤ k) A l
theorem PtS.go {w W W' : World} {va vb : Value} {l a b : List Sp.Free} {A : Option Addr} (h : PtS w va vb l a b A W) (hb : Below W.heap.size W W') : PtS w va vb l a b A W' :=
  ⟨h.hb.trans (hb.mono h.hb.size), h.fa.go hb, h.fb.go hb, h.ap, h.fr.go hb⟩
theorem PtS.swap {w W : World} {va vb : Value} {l a b : List Sp.Free} {A : Option Addr} (h : PtS w va vb l a b A W) : PtS w vb va l b a A W :=
  ⟨h.hb, h.fb, h.fa, fun k h1 h2 => h.ap k h2 h1, h.fr⟩
theorem PtS.more {w W W' : World} {va vb v' : Value} {l a b : List Sp.Free} {A : Option Addr} (h : PtS w va vb l a b A W) {x : Sp.Free} {V : Option Addr} {c : Nat} {xs : List Value} (h1 : W.ownsRow w.heap.size FreeT 2 va a.length xs) (h2 : FrO W w.heap.size a xs)
    (ho : W.ownsRow w.heap.size IntT 1 (.slice V x.ids.length c) x.ids.length (x.ids.map iv)) (hb : x.ids.length ≤ 1000 ∧ 0 ≤ x.txn ∧ x.txn < 18446744073709551616)
    (hown : W'.ownsRow w.heap.size FreeT 2 v' (a.length + 1) (xs ++ freeV x V c)) (hgr : W.grownBy W' va.ownBlock) (hat : v'.ownBlock = va.ownBlock ∨ v'.ownBlock = some W.heap.size) : PtS w v' vb l (a ++ [x]) b A W' := by
  obtain ⟨hf, hk⟩ := FrsO.more h1 h2 h.hb.size ho hb hown hgr
  obtain ⟨ys, h3, h4⟩ := h.fb.ex
  refine ⟨h.hb.trans (hk.below h.hb.size fun k hk' e => ?_), hf, h.fb.chg hk (fun k hk' e => h.ap k e hk') (fun k cs _ hb' e => ?_), fun k e1 e2 => ?_, h.fr.chg (hk.mono fun k _ e => ?_)⟩
  · have := (h1.lt k e).1
    omega
  · obtain ⟨ds, hd⟩ := own_ty2 h1 e
    exact hb'.not_ (by decide) _ hd
  · rcases hat with h5 | h5
    · exact h.ap k (h5 ▸ e1) e2
    · rw [h5] at e1
      injection e1 with e1
      have := own_lt h3 k e2
      omega
  · exact (h1.lt k e).1
theorem cells_free {x : Sp.Free} {V : Option Addr} {c : Nat} (w : World) : ∀ j u, (freeV x V c)[j]? = some u → (w.alloc (.cells (freeV x V c).toArray FreeT)).cell? ((⟨w.heap.size, 0, none⟩ : Addr).add j) = some u := by
  intro j u hj
  rw [Go.WideShapes.add_plain, Nat.zero_add]
  refine ((Blk.new w FreeT (freeV x V c).toArray).cell j).trans ?_
  simpa using hj
/-- In a round: beside it what is looked at, and its copy. -/
structure PuS (w : World) (va vb : Value) (l a b : List Sp.Free) (A : Option Addr) (x : Sp.Free) (b9 : Nat) (V : Option Addr) (c : Nat) (W : World) : Prop where
  p : PtS w va vb l a b A W
  bx : Blk W b9 FreeT (freeV x V c).toArray
  g9 : w.heap.size ≤ b9
theorem PuS.go {w W W' : World} {va vb : Value} {l a b : List Sp.Free} {A : Option Addr} {x : Sp.Free} {b9 : Nat} {V : Option Addr} {c : Nat} (h : PuS w va vb l a b A x b9 V c W) (hb : Below W.heap.size W W') : PuS w va vb l a b A x b9 V c W' :=
  ⟨h.p.go hb, h.bx.below hb h.bx.lt, h.g9⟩
theorem filt_snoc {α : Type} (p : α → Bool) (d : α) (l : List α) {j : Nat} (hj : j < l.length) : (l.take (j + 1)).filter p = (l.take j).filter p ++ if p (l.getD j d) then [l.getD j d] else [] := by
  rw [List.take_succ_eq_append_getElem hj, List.filter_append, List.filter_cons]
  rw [show l[j] = l.getD j d by simp [List.getD, hj]]
  split <;> rfl
set_option maxRecDepth 100000 in
set_option maxHeartbeats 1600000 in
theorem parted_any (l : List Sp.Free) (A : Option Addr) (cA : Nat) (o : Int) {M : Nat → Prop} (w : World) (h0 : Frees w M A l) (hn : l.length ≤ 1000) (hl : ∀ f ∈ l, 1 ≤ f.ids.length ∧ f.ids.length ≤ 1000) (ho : 0 ≤ o ∧ o < 18446744073709551616) :
    Calls Tryz.prog 67 #[.slice A l.length cA, .int .u64 o] w fun e w' => ∃ a b, e = .returned (.tuple #[a, b]) ∧ FrsO w' w.heap.size a (l.filter fun f => decide (f.txn < o)) ∧ FrsO w' w.heap.size b (l.filter fun f => !decide (f.txn < o)) ∧ Below w.heap.size w w' := by
  obtain ⟨i0, hi0, hz0, hz1, hz2⟩ := info_parts info_free2
  have H0 := Lib.hid (⟨Below.refl _ _, FrsO.nil, FrsO.nil, fun k h => by simp [Value.ownBlock] at h, frees_wide h0 (fun k hk h => by omega)⟩ : PtS w (.slice none 0 0) (.slice none 0 0) l [] [] A w)
  have HL := Lib.hid hl
  clear h0 hl
  go_enter Tryz.func67, Tryz.ntmps67
  go_upto_region 3 with fail
  go_loopw [6, 7, 13] (fun va vb i wr => ∃ j : Nat, j ≤ l.length ∧ i = .int .i64 j ∧ PtS w va vb l ((l.take j).filter fun f => decide (f.txn < o)) ((l.take j).filter fun f => !decide (f.txn < o)) A wr) (fun _ _ i _ => l.length - (intOf i).toNat)
  case atStart => exact ⟨0, Nat.zero_le _, rfl, H0.out⟩
  case round =>
    obtain ⟨j, hj, rfl, hs⟩ := hrel
    have S := Lib.hid hs
    clear hs H0
    by_cases hjl : j < l.length
    · obtain ⟨fb, fo, rfl, hfb, hfc⟩ := S.out.fr.at_ hjl
      obtain ⟨V, c, ⟨hc0, hc1⟩, hids, htx0, htx1⟩ := hfc j hjl
      have HFC := Lib.hid (show ∀ q v, (freeV (l.getD j Sp.free0) V c).toArray[q]? = some v → wr.cell? ⟨fb, fo + j * 2 + q, none⟩ = some v from fun q v hv => by
        match q, hv with
        | 0, hv => exact hc0.trans (by simpa [freeV] using hv)
        | 1, hv => exact hc1.trans (by simpa [freeV] using hv)
        | q + 2, hv => simp [freeV] at hv)
      have HX := Lib.hid (HL.out (l.getD j Sp.free0) (by rw [show l.getD j Sp.free0 = l[j] by simp [List.getD, hjl]]; exact List.getElem_mem hjl))
      have HFA := Lib.hid (filt_snoc (fun f : Sp.Free => decide (f.txn < o)) Sp.free0 l hjl)
      have HFB := Lib.hid (filt_snoc (fun f : Sp.Free => !decide (f.txn < o)) Sp.free0 l hjl)
      have HI := Lib.hid hids
      clear hfc hc0 hc1 hids
      have hla : ((l.take j).filter fun f => decide (f.txn < o)).length ≤ j := Nat.le_trans (List.length_filter_le _ _) (by rw [List.length_take]; omega)
      have hlb : ((l.take j).filter fun f => !decide (f.txn < o)).length ≤ j := Nat.le_trans (List.length_filter_le _ _) (by rw [List.length_take]; omega)
      generalize ((l.take j).filter fun f => decide (f.txn < o)) = a at *
      generalize ((l.take j).filter fun f => !decide (f.txn < o)) = b at *
      generalize l.getD j Sp.free0 = x at *
      go_upto_region 5 with (first
        | (refine wpList_at FreeT _ rfl fb (fo + j * 2) rfl rfl (freeV x V c).toArray _ HFC.out Tryz.underlying28 rfl (by kernel_rfl) ?_)
        | (refine wpList_new FreeT _ _ rfl rfl rfl rfl rfl rfl _ rfl (of_decide_eq_true (by kernel_rfl)) (by kernel_rfl) (by kernel_rfl) (by kernel_rfl) ?_))
      simp only [Act.put, List.setIfInBounds_toArray, List.set_cons_succ, List.set_cons_zero]
      have hal := (Below.refl wr.heap.size wr).alloc (Nat.le_refl _) (.cells (freeV x V c).toArray FreeT)
      have HIV := Lib.hid ((HI.out.go hal).iv (c := c) HX.out.1 (by have := HX.out.2; omega))
      refine wp_gen (fun W => PuS w u6 u7 l a b (some ⟨fb, fo, none⟩) x wr.heap.size V c W ∧ IV W (.slice V x.ids.length c) x.ids) ⟨⟨S.out.go hal, Blk.new _ _ _, S.out.hb.size⟩, HIV.out⟩ ?_
      have h9w : w.heap.size ≤ wr.heap.size := S.out.hb.size
      clear HFC HIV hal HI S
      generalize wr.heap.size = b9 at *
      rintro w1 ⟨hp, hiv⟩
      have P := Lib.hid hp
      have HIV := Lib.hid hiv
      clear hp hiv
      have hx0 := htx0
      have hx1 := htx1
      go_cut [10] (fun y W => ∃ b10 V2 c2, y = .pointer (some ⟨b10, 0, none⟩) ∧ PuS w u6 u7 l a b (some ⟨fb, fo, none⟩) x b9 V c W ∧ Blk W b10 FreeT #[.int .u64 x.txn, .slice V2 x.ids.length c2] ∧ W.ownsRow w.heap.size IntT 1 (.slice V2 x.ids.length c2) x.ids.length (x.ids.map iv))
      case first =>
        refine wp_region_in 8 7 (fun W => Below w1.heap.size w1 W) (by kernel_rfl) rfl ?_
        refine wpIn_takeV 0 [1, 5, 7] (.pointer (some ⟨b9, 0, none⟩)) rfl (by kernel_rfl) (by kernel_rfl) (by kernel_rfl) (by kernel_rfl) (by kernel_rfl) (by kernel_rfl) (by kernel_rfl) (by rfl) (fun _ _ _ h => h) (Below.refl w1.heap.size w1).drew (fun W hW => by go_simp; all_goals first | with_reducible rfl | rfl | omega) ?_
        try simp only [List.getElem_toArray, List.getElem_cons_zero, List.getElem_cons_succ, Act.put, List.setIfInBounds_toArray, List.set_cons_succ, List.set_cons_zero]
        refine wpIn_takeV 1 [5, 7] (.int .u64 x.txn) rfl (by kernel_rfl) (by kernel_rfl) (by kernel_rfl) (by kernel_rfl) (by kernel_rfl) (by kernel_rfl) (by kernel_rfl) (by rfl) (fun _ _ _ h => h) (Below.refl w1.heap.size w1).drew (fun W hW => by have hc := (P.out.bx.below hW P.out.bx.lt).cell 0; go_simp; all_goals first | with_reducible rfl | rfl | omega) ?_
        try simp only [List.getElem_toArray, List.getElem_cons_zero, List.getElem_cons_succ, Act.put, List.setIfInBounds_toArray, List.set_cons_succ, List.set_cons_zero]
        refine wpIn_takeV 2 [3, 4, 5, 7] (.pointer (some ⟨b9, 1, none⟩)) rfl (by kernel_rfl) (by kernel_rfl) (by kernel_rfl) (by kernel_rfl) (by kernel_rfl) (by kernel_rfl) (by kernel_rfl) (by rfl) (fun _ _ _ h => h) (Below.refl w1.heap.size w1).drew (fun W hW => by go_simp; all_goals first | with_reducible rfl | rfl | omega) ?_
        try simp only [List.getElem_toArray, List.getElem_cons_zero, List.getElem_cons_succ, Act.put, List.setIfInBounds_toArray, List.set_cons_succ, List.set_cons_zero]
        refine wpIn_takeV 3 [4, 5, 7] (.slice V x.ids.length c) rfl (by kernel_rfl) (by kernel_rfl) (by kernel_rfl) (by kernel_rfl) (by kernel_rfl) (by kernel_rfl) (by kernel_rfl) (by rfl) (fun _ _ _ h => h) (Below.refl w1.heap.size w1).drew (fun W hW => by have hc := (P.out.bx.below hW P.out.bx.lt).cell 1; go_simp; all_goals first | with_reducible rfl | rfl | omega) ?_
        try simp only [List.getElem_toArray, List.getElem_cons_zero, List.getElem_cons_succ, Act.put, List.setIfInBounds_toArray, List.set_cons_succ, List.set_cons_zero]
        refine wpIn_two 4 6 rfl rfl (by kernel_rfl) (fun _ => (Below.refl w1.heap.size w1).drew) (by rfl) (by rfl) ?_ ?_
        · go_simp
          refine (cloneI_any (HIV.out.go (Below.refl w1.heap.size w1).drew)).mono ?_
          rintro e w2 ⟨u', rfl, ho, hb⟩
          obtain ⟨V2, c2, rfl⟩ := own_slice ho
          have hB2 : Below w1.heap.size w1 w2 := Below.trans (Below.refl w1.heap.size w1).drew hb
          try simp only [List.getElem_toArray, List.getElem_cons_zero, List.getElem_cons_succ, Act.put, List.setIfInBounds_toArray, List.set_cons_succ, List.set_cons_zero]
          refine wpIn_takeV 5 [7] (.agg #[.int .u64 x.txn, .slice V2 x.ids.length c2]) rfl (by kernel_rfl) (by kernel_rfl) (by kernel_rfl) (by kernel_rfl) (by kernel_rfl) (by kernel_rfl) (by kernel_rfl) (by rfl) (fun _ _ _ h => h) hB2 (fun W hW => by go_simp; all_goals first | with_reducible rfl | rfl | omega) ?_
          try simp only [List.getElem_toArray, List.getElem_cons_zero, List.getElem_cons_succ, Act.put, List.setIfInBounds_toArray, List.set_cons_succ, List.set_cons_zero]
          refine wpIn_one 6 rfl (by kernel_rfl) (fun _ => hB2) (by rfl) ?_
          go_simp
          try simp only [List.getElem_toArray, List.getElem_cons_zero, List.getElem_cons_succ, Act.put, List.setIfInBounds_toArray, List.set_cons_succ, List.set_cons_zero]
          have HGE := Lib.hid (show w1.heap.size ≤ w2.heap.size from hB2.size)
          have hB3 : Below w1.heap.size w1 (w2.alloc (.cells #[.int .u64 0, .slice none 0 0] FreeT)) := hB2.alloc hB2.size _
          have HO2 := Lib.hid (own_base (base' := w.heap.size) (own_chg2 (S := NoM) ho (Chg.of_below ((Below.refl w2.heap.size w2).alloc (Nat.le_refl _) (.cells #[.int .u64 0, .slice none 0 0] FreeT))) (fun _ _ h => h)) P.out.p.hb.size)
          have HNE := Lib.hid (show ∀ k, (Value.slice V2 x.ids.length c2).ownBlock = some k → k = w2.heap.size → False from fun k hk e => by have := own_lt ho k hk; omega)
          clear ho hb
          refine wpIn_one 7 rfl (by kernel_rfl) (fun _ => hB3) (by rfl) ?_
          refine wp_store_row FreeT _ _ rfl w2.heap.size #[.int .u64 x.txn, .slice V2 x.ids.length c2] rfl rfl FreeT _ (Blk.new w2 FreeT #[.int .u64 0, .slice none 0 0]) (by kernel_rfl) rfl (by kernel_rfl) ?_
          try simp only [List.getElem_toArray, List.getElem_cons_zero, List.getElem_cons_succ, Act.put, List.setIfInBounds_toArray, List.set_cons_succ, List.set_cons_zero]
          refine wpIn_done (by kernel_rfl) (by kernel_rfl) ?_ _
          simp only [Exit.then]
          have hBF := below_setRow hB3 (g := w2.heap.size) HGE.out #[.int .u64 x.txn, .slice V2 x.ids.length c2]
          refine ‹∀ (a' : Act) (w' : World), Met _ a' w' → _› _ _ ?_
          go_meet
          case rel => exact ⟨w2.heap.size, V2, c2, rfl, P.out.go hBF, ((Blk.new w2 FreeT #[.int .u64 0, .slice none 0 0])).row, own_chg2 (S := OneM w2.heap.size) HO2.out (chg_setRowM (Chg.refl (OneM w2.heap.size) _) (.inl rfl) _) (fun k hk e => HNE.out k hk e)⟩
        · go_simp
          try simp only [List.getElem_toArray, List.getElem_cons_zero, List.getElem_cons_succ, Act.put, List.setIfInBounds_toArray, List.set_cons_succ, List.set_cons_zero]
          have hA1 : Below w1.heap.size w1 (w1.alloc (.cells #[.int .u64 0, .slice none 0 0] FreeT)).drew := (Below.trans (Below.refl w1.heap.size w1).drew (Below.refl w1.heap.size w1.drew)) |> fun _ => ((Below.refl w1.heap.size w1).alloc (Nat.le_refl _) _).drew
          refine wpIn_one 4 rfl (by kernel_rfl) (fun _ => hA1) (by rfl) ?_
          go_simp
          refine (cloneI_any (HIV.out.go hA1)).mono ?_
          rintro e w2 ⟨u', rfl, ho, hb⟩
          obtain ⟨V2, c2, rfl⟩ := own_slice ho
          have hB2 : Below w1.heap.size w1 w2 := Below.trans hA1 (hb.mono hA1.size)
          try simp only [List.getElem_toArray, List.getElem_cons_zero, List.getElem_cons_succ, Act.put, List.setIfInBounds_toArray, List.set_cons_succ, List.set_cons_zero]
          refine wpIn_takeV 5 [7] (.agg #[.int .u64 x.txn, .slice V2 x.ids.length c2]) rfl (by kernel_rfl) (by kernel_rfl) (by kernel_rfl) (by kernel_rfl) (by kernel_rfl) (by kernel_rfl) (by kernel_rfl) (by rfl) (fun _ _ _ h => h) hB2 (fun W hW => by go_simp; all_goals first | with_reducible rfl | rfl | omega) ?_
          try simp only [List.getElem_toArray, List.getElem_cons_zero, List.getElem_cons_succ, Act.put, List.setIfInBounds_toArray, List.set_cons_succ, List.set_cons_zero]
          have HGE := Lib.hid (Nat.le_refl w1.heap.size)
          have hsz : (w1.alloc (.cells #[.int .u64 0, .slice none 0 0] FreeT)).drew.heap.size = w1.heap.size + 1 := World.size_alloc ..
          have HO2 := Lib.hid (own_base (base' := w.heap.size) ho (by have := P.out.p.hb.size; omega))
          have HBK := Lib.hid ((Blk.drew (Blk.new w1 FreeT #[.int .u64 0, .slice none 0 0])).below hb (by omega))
          have HNE := Lib.hid (show ∀ k, (Value.slice V2 x.ids.length c2).ownBlock = some k → k = w1.heap.size → False from fun k hk e => by have := (ho.lt k hk).1; omega)
          clear ho hb
          refine wpIn_one 7 rfl (by kernel_rfl) (fun _ => hB2) (by rfl) ?_
          refine wp_store_row FreeT _ _ rfl w1.heap.size #[.int .u64 x.txn, .slice V2 x.ids.length c2] rfl rfl FreeT _ HBK.out (by kernel_rfl) rfl (by kernel_rfl) ?_
          try simp only [List.getElem_toArray, List.getElem_cons_zero, List.getElem_cons_succ, Act.put, List.setIfInBounds_toArray, List.set_cons_succ, List.set_cons_zero]
          refine wpIn_done (by kernel_rfl) (by kernel_rfl) ?_ _
          simp only [Exit.then]
          have hBF := below_setRow hB2 (g := w1.heap.size) HGE.out #[.int .u64 x.txn, .slice V2 x.ids.length c2]
          refine ‹∀ (a' : Act) (w' : World), Met _ a' w' → _› _ _ ?_
          go_meet
          case rel => exact ⟨w1.heap.size, V2, c2, rfl, P.out.go hBF, (HBK.out).row, own_chg2 (S := OneM w1.heap.size) HO2.out (chg_setRowM (Chg.refl (OneM w1.heap.size) _) (.inl rfl) _) (fun k hk e => HNE.out k hk e)⟩
      case rest =>
        obtain ⟨b10, V2, c2, rfl, hp2, hb10, ho2⟩ := hcut
        obtain ⟨w4, rfl⟩ : ∃ W, W = wc := ⟨_, rfl⟩
        have P2 := Lib.hid hp2
        have HB10 := Lib.hid hb10
        have HO2 := Lib.hid ho2
        have ct : w4.cell? ⟨b9, 0, none⟩ = some (.int .u64 x.txn) := hp2.bx.cell 0
        clear P HIV hp2 hb10 ho2
        have hal := (Below.refl w4.heap.size w4).alloc (Nat.le_refl _) (.cells (freeV x V2 c2).toArray FreeT)
        have P3 := Lib.hid (P2.out.go hal)
        have HO3 := Lib.hid (own_chg2 (S := NoM) HO2.out (Chg.of_below hal) (fun _ _ h => h))
        have HCE := Lib.hid (cells_free (x := x) (V := V2) (c := c2) w4)
        have hzw : w.heap.size ≤ (w4.alloc (.cells (freeV x V2 c2).toArray FreeT)).heap.size := by have := P2.out.p.hb.size; rw [World.size_alloc]; omega
        clear hal P2 HO2
        by_cases ht : x.txn < o
        · obtain ⟨xs, h1, h2⟩ := P3.out.p.fa.ex
          have H1 := Lib.hid h1
          have H2 := Lib.hid h2
          clear h1 h2
          go_wp2_with (first
            | (refine wpList_row FreeT _ rfl b10 rfl rfl FreeT _ (0, 0) _ HB10.out Tryz.underlying28 rfl (by kernel_rfl) ?_)
            | (at_builtin; refine wpList_append_own_at _ rfl _ _ 24 rfl w.heap.size FreeT i0 _ 2 32 Tryz.underlying24 hi0 hz0 hz1 hz2 rfl (by decide) _ a.length xs rfl H1.out ⟨w4.heap.size, 0, none⟩ 1 1 (freeV x V2 c2) rfl rfl HCE.out (freeV_ones x V2 c2) ?c3 ?c4 hzw ?_))
          case c3 => simp only [maxLen]; omega
          case c4 => omega
          intro v' w5 hown hgr _ hat
          have hq := P3.out.p.more H1.out H2.out HO3.out ⟨HX.out.2, htx0, htx1⟩ hown hgr (by rw [World.size_alloc]; exact hat)
          have HQ := Lib.hid hq
          clear hown hgr hat hq
          go_wp2_with fail
          go_roundw
          case rel => exact ⟨j + 1, by omega, by go_num, by rw [HFA.out, HFB.out, if_pos (decide_eq_true ht), if_neg (by simp [ht]), List.append_nil]; exact HQ.out⟩
          case measure => simp [intOf]; omega
        · obtain ⟨xs, h1, h2⟩ := P3.out.p.swap.fa.ex
          have H1 := Lib.hid h1
          have H2 := Lib.hid h2
          clear h1 h2
          go_wp2_with (first
            | (refine wpList_row FreeT _ rfl b10 rfl rfl FreeT _ (0, 0) _ HB10.out Tryz.underlying28 rfl (by kernel_rfl) ?_)
            | (at_builtin; refine wpList_append_own_at _ rfl _ _ 24 rfl w.heap.size FreeT i0 _ 2 32 Tryz.underlying24 hi0 hz0 hz1 hz2 rfl (by decide) _ b.length xs rfl H1.out ⟨w4.heap.size, 0, none⟩ 1 1 (freeV x V2 c2) rfl rfl HCE.out (freeV_ones x V2 c2) ?c3 ?c4 hzw ?_))
          case c3 => simp only [maxLen]; omega
          case c4 => omega
          intro v' w5 hown hgr _ hat
          have hq := (P3.out.p.swap.more H1.out H2.out HO3.out ⟨HX.out.2, htx0, htx1⟩ hown hgr (by rw [World.size_alloc]; exact hat)).swap
          have HQ := Lib.hid hq
          clear hown hgr hat hq
          go_wp2_with fail
          go_roundw
          case rel => exact ⟨j + 1, by omega, by go_num, by rw [HFA.out, HFB.out, if_neg (by simp [ht]), if_pos (by simp [ht]), List.append_nil]; exact HQ.out⟩
          case measure => simp [intOf]; omega
    · obtain rfl : j = l.length := by omega
      rw [List.take_length] at S
      go_wp2_with fail
      go_ret2
      exact ⟨_, _, rfl, S.out.fa, S.out.fb, S.out.hb⟩
set_option maxRecDepth 100000 in
set_option maxHeartbeats 1600000 in
theorem frest_any (l : List Sp.Free) (A : Option Addr) (cA : Nat) (o : Int) {M : Nat → Prop} (w : World) (h0 : Frees w M A l) (hn : l.length ≤ 1000) (hl : ∀ f ∈ l, 1 ≤ f.ids.length ∧ f.ids.length ≤ 1000) (ho : 0 ≤ o ∧ o < 18446744073709551616) :
    Calls Tryz.prog 24 #[.slice A l.length cA, .int .u64 o] w fun e w' => ∃ b, e = .returned b ∧ FrsO w' w.heap.size b (l.filter fun f => !decide (f.txn < o)) ∧ Below w.heap.size w w' := by
  have HP := Lib.hid (parted_any l A cA o w h0 hn hl ho)
  clear h0 hl
  go_enter Tryz.func24, Tryz.ntmps24
  go_wp2_with (go_at_call 67; refine HP.out.mono ?_; rintro e w1 ⟨a, b, rfl, hfa, hfb, hb⟩; have HB := Lib.hid hb; have HFB := Lib.hid hfb; clear hb hfa hfb)
  go_ret
  exact ⟨_, rfl, HFB.out, HB.out⟩
set_option maxRecDepth 100000 in
set_option maxHeartbeats 1600000 in
theorem fcount_any (l : List Sp.Free) (A : Option Addr) (cA : Nat) {M : Nat → Prop} (w : World) (h0 : Frees w M A l) (hn : l.length ≤ 1000) (hl : ∀ f ∈ l, f.ids.length ≤ 1000) :
    Calls Tryz.prog 16 #[.slice A l.length cA] w fun e w' => e = .returned (.int .i64 (Sp.total l)) ∧ Below w.heap.size w w' := by
  have H := Lib.hid h0
  have HL := Lib.hid hl
  clear h0 hl
  go_enter Tryz.func16, Tryz.ntmps16
  go_upto_region 3 with fail
  go_loopw [3, 8] (fun z i wr => ∃ j : Nat, j ≤ l.length ∧ i = .int .i64 j ∧ z = .int .i64 (Sp.total (l.take j)) ∧ Below w.heap.size w wr) (fun _ i _ => l.length - (intOf i).toNat)
  case atStart => exact ⟨0, Nat.zero_le _, rfl, rfl, Below.refl _ _⟩
  case round =>
    obtain ⟨j, hj, rfl, rfl, hb⟩ := hrel
    have HB := Lib.hid hb
    by_cases hjl : j < l.length
    · obtain ⟨fb, fo, rfl, hfb, hfc⟩ := H.out.at_ hjl
      obtain ⟨V, c, ⟨hc0, hc1⟩, hids, htx0, htx1⟩ := hfc j hjl
      have HFC := Lib.hid (show ∀ q v, (freeV (l.getD j Sp.free0) V c).toArray[q]? = some v → wr.cell? ⟨fb, fo + j * 2 + q, none⟩ = some v from fun q v hv => by
        match q, hv with
        | 0, hv => exact (hb.cell (p := ⟨fb, fo + j * 2, none⟩) hfb).trans (hc0.trans (by simpa [freeV] using hv))
        | 1, hv => exact (hb.cell (p := ⟨fb, fo + j * 2 + 1, none⟩) hfb).trans (hc1.trans (by simpa [freeV] using hv))
        | q + 2, hv => simp [freeV] at hv)
      have HT := Lib.hid (Sp.total_take hjl)
      have hx := HL.out (l.getD j Sp.free0) (by rw [show l.getD j Sp.free0 = l[j] by simp [List.getD, hjl]]; exact List.getElem_mem hjl)
      have htot : Sp.total (l.take j) ≤ 1000 * j := by
        have : ∀ m : List Sp.Free, (∀ f ∈ m, f.ids.length ≤ 1000) → Sp.total m ≤ 1000 * m.length := by
          intro m
          induction m with
          | nil => intro _; simp [Sp.total]
          | cons x m ih =>
            intro hm
            have h1 := ih fun f hf => hm f (by simp [hf])
            have h2 := hm x (by simp)
            simp only [Sp.total, List.map_cons, List.sum_cons, List.length_cons] at *
            omega
        have h3 := this (l.take j) fun f hf => HL.out f (List.mem_of_mem_take hf)
        rw [List.length_take] at h3
        exact Nat.le_trans h3 (Nat.mul_le_mul_left _ (by omega))
      clear hfc hc0 hc1 hids hb
      generalize l.getD j Sp.free0 = x at *
      generalize Sp.total (l.take j) = tt at *
      go_upto_region 5 with (first
        | (refine wpList_at FreeT _ rfl fb (fo + j * 2) rfl rfl (freeV x V c).toArray _ HFC.out Tryz.underlying28 rfl (by kernel_rfl) ?_)
        | (refine wpList_new FreeT _ _ rfl rfl rfl rfl rfl rfl _ rfl (of_decide_eq_true (by kernel_rfl)) (by kernel_rfl) (by kernel_rfl) (by kernel_rfl) ?_))
      simp only [Act.put, List.setIfInBounds_toArray, List.set_cons_succ, List.set_cons_zero]
      have hzw := HB.out.size
      have hal := HB.out.alloc hzw (.cells (freeV x V c).toArray FreeT)
      refine wp_gen (fun W => Below w.heap.size w W ∧ W.cell? ⟨wr.heap.size, 1, none⟩ = some (.slice V x.ids.length c)) ⟨hal, (Blk.new wr FreeT (freeV x V c).toArray).cell 1⟩ ?_
      clear HFC HB hal
      generalize wr.heap.size = b9 at *
      rintro w1 ⟨hb1, hc⟩
      have HB1 := Lib.hid hb1
      clear hb1
      go_wp2_with fail
      go_roundw
      case rel => exact ⟨j + 1, by omega, by go_num, by rw [HT.out]; go_num, HB1.out⟩
      case measure => simp [intOf]; omega
    · obtain rfl : j = l.length := by omega
      rw [List.take_length]
      go_wp2_with fail
      go_ret
      exact ⟨rfl, HB.out⟩
end Go.Proofs.YtkcfmjlcijhieaaGreat
namespace Go.Proofs.YtkcfmjlcijhieaaGreat
open Go.RowKit
attribute [local go_sem low] mk_extract
attribute [local go_sem] After.cell After.frozen mk_extract_end ByteArray.mk_append_mk
theorem FrO.at_ {w : World} {B : Nat} : ∀ {l : List Sp.Free} {xs : List Value}, FrO w B l xs → ∀ k, k < l.length → ∃ V c, w.ownsRow B IntT 1 (.slice V (l.getD k Sp.free0).ids.length c) (l.getD k Sp.free0).ids.length ((l.getD k Sp.free0).ids.map iv) ∧ ∀ q u, (freeV (l.getD k Sp.free0) V c)[q]? = some u → xs[k * 2 + q]? = some u
  | [], _, _, k, hk => absurd hk (by simp)
  | x :: l, _, ⟨V, c, ys, e, ho, _, h⟩, 0, _ => ⟨V, c, ho, fun q u hu => by
      rw [e, Nat.zero_mul, Nat.zero_add, List.getElem?_append_left]
      · exact hu
      · exact (List.getElem?_eq_some_iff.1 hu).1⟩
  | x :: l, _, ⟨V, c, ys, e, _, _, h⟩, k + 1, hk => by
    obtain ⟨V', c', ho', hc⟩ := h.at_ k (by simpa using hk)
    refine ⟨V', c', by simpa using ho', fun q u hu => ?_⟩
    have := hc q u (by simpa using hu)
    rw [e, List.getElem?_append_right (by rw [freeV_two]; omega), freeV_two, show (k + 1) * 2 + q - 2 = k * 2 + q by omega]
    exact this
theorem FrsO.at_ {w : World} {B : Nat} {u : Value} {l : List Sp.Free} (h : FrsO w B u l) {k : Nat} (hk : k < l.length) : ∃ g c V c2, u = .slice (some ⟨g, 0, none⟩) l.length c ∧ g < w.heap.size ∧ w.ownsRow B IntT 1 (.slice V (l.getD k Sp.free0).ids.length c2) (l.getD k Sp.free0).ids.length ((l.getD k Sp.free0).ids.map iv) ∧
    ∀ q v, (freeV (l.getD k Sp.free0) V c2).toArray[q]? = some v → w.cell? ⟨g, k * 2 + q, none⟩ = some v := by
  obtain ⟨A, c, rfl⟩ := h.form
  obtain ⟨xs, h1, h2⟩ := h.ex
  obtain ⟨V, c2, ho, hc⟩ := h2.at_ k hk
  rcases own_none h1 with ⟨_, h0, _⟩ | ⟨g, cur, rfl, _, hb, hx⟩
  · omega
  · refine ⟨g, c, V, c2, rfl, hb.lt, ho, fun q v hv => ?_⟩
    have := hx _ _ (hc q v (by simpa using hv))
    rwa [Nat.zero_add] at this
namespace Sp
theorem bothI_len (a b : List Int) : (bothI a b).length ≤ a.length + b.length := by
  unfold bothI
  refine Nat.le_trans (compact_le _) ?_
  rw [List.length_mergeSort, List.length_append]
  exact Nat.le_refl _
/-- What may be taken again. -/
def usableI (l : List Free) (o : Int) : List Int := (l.filter fun f => decide (f.txn < o)).foldl (fun a f => bothI a f.ids) []
theorem fold_len : ∀ (l : List Free) (a : List Int), (l.foldl (fun a f => bothI a f.ids) a).length ≤ a.length + total l
  | [], a => by simp [total]
  | x :: l, a => by
    have h1 := fold_len l (bothI a x.ids)
    have h2 := bothI_len a x.ids
    have h3 : total (x :: l) = x.ids.length + total l := by simp [total]
    rw [List.foldl_cons, h3]
    omega
theorem total_filter (p : Free → Bool) : ∀ l : List Free, total (l.filter p) ≤ total l
  | [] => by simp [total]
  | x :: l => by
    have ih := total_filter p l
    have h3 : total (x :: l) = x.ids.length + total l := by simp [total]
    rw [List.filter_cons, h3]
    split
    · have h4 : total (x :: l.filter p) = x.ids.length + total (l.filter p) := by simp [total]
      omega
    · omega
theorem total_take_le {l : List Free} (k : Nat) : total (l.take k) ≤ total l := by
  conv => rhs; rw [← List.take_append_drop k l]
  unfold total
  rw [List.map_append, List.sum_append]
  omega
end Sp
set_option maxRecDepth 100000 in
set_option maxHeartbeats 1600000 in
theorem usable_any (l : List Sp.Free) (A : Option Addr) (cA : Nat) (o : Int) {M : Nat → Prop} (w : World) (h0 : Frees w M A l) (hn : l.length ≤ 1000) (hl : ∀ f ∈ l, 1 ≤ f.ids.length ∧ f.ids.length ≤ 1000) (ht : Sp.total l ≤ 8000) (ho : 0 ≤ o ∧ o < 18446744073709551616) :
    Calls Tryz.prog 23 #[.slice A l.length cA, .int .u64 o] w fun e w' => ∃ b, e = .returned b ∧ w'.ownsRow w.heap.size IntT 1 b (Sp.usableI l o).length ((Sp.usableI l o).map iv) ∧ Below w.heap.size w w' := by
  have HP := Lib.hid (parted_any l A cA o w h0 hn hl ho)
  have hk := Nat.le_trans (Sp.total_filter (fun f => decide (f.txn < o)) l) ht
  have hkl : (l.filter fun f => decide (f.txn < o)).length ≤ 1000 := Nat.le_trans (List.length_filter_le _ _) hn
  have HU := Lib.hid (show Sp.usableI l o = (l.filter fun f => decide (f.txn < o)).foldl (fun a f => Sp.bothI a f.ids) [] from rfl)
  clear h0 hl ht
  go_enter Tryz.func23, Tryz.ntmps23
  go_upto_region 3 with (go_at_call 67; refine HP.out.mono ?_; rintro e w1 ⟨a, b, rfl, hfa, hfb, hb⟩; have HB := Lib.hid hb; have HFA := Lib.hid hfa; clear hb hfa hfb)
  clear HP
  generalize (l.filter fun f => decide (f.txn < o)) = m at *
  have h9 : w.heap.size ≤ w1.heap.size := HB.out.size
  obtain ⟨Aa, ca, hua⟩ := HFA.out.form
  subst hua
  go_upto_region 4 with fail
  go_loopw [5, 18] (fun z i wr => ∃ j : Nat, j ≤ m.length ∧ i = .int .i64 j ∧ wr.ownsRow w.heap.size IntT 1 z ((m.take j).foldl (fun a f => Sp.bothI a f.ids) []).length (((m.take j).foldl (fun a f => Sp.bothI a f.ids) []).map iv) ∧ Below w1.heap.size w1 wr) (fun _ i _ => m.length - (intOf i).toNat)
  case atStart => exact ⟨0, Nat.zero_le _, rfl, own_nil0 _ _ _ _, Below.refl _ _⟩
  case round =>
    obtain ⟨j, hj, rfl, hrow, hb⟩ := hrel
    have S := Lib.hid (HFA.out.go hb)
    have HR := Lib.hid hrow
    have HBB := Lib.hid hb
    clear hb hrow
    by_cases hjm : j < m.length
    · obtain ⟨g, c, V, c2, hA, hg, hown, hcell⟩ := S.out.at_ hjm
      injection hA with hA _ hc
      subst hA; subst hc
      have HFC := Lib.hid hcell
      have HOW := Lib.hid hown
      have hfl := Sp.fold_len (m.take j) []
      have htk := Sp.total_take hjm
      have htl := Sp.total_take_le (l := m) (j + 1)
      have HNX := Lib.hid (show (m.take (j + 1)).foldl (fun a f => Sp.bothI a f.ids) [] = Sp.bothI ((m.take j).foldl (fun a f => Sp.bothI a f.ids) []) (m.getD j Sp.free0).ids from by
        rw [List.take_succ_eq_append_getElem hjm, List.foldl_append]
        simp [List.getD, hjm])
      have hbd : ((m.take j).foldl (fun a f => Sp.bothI a f.ids) []).length + (m.getD j Sp.free0).ids.length ≤ 8000 := by
        rw [List.length_nil] at hfl
        omega
      clear hcell hown hfl htk htl
      generalize ((m.take j).foldl (fun a f => Sp.bothI a f.ids) []) = L at *
      generalize m.getD j Sp.free0 = x at *
      go_upto_region 6 with (first
        | (refine wpList_at FreeT _ rfl g (j * 2) rfl rfl (freeV x V c2).toArray _ HFC.out Tryz.underlying28 rfl (by kernel_rfl) ?_)
        | (refine wpList_new FreeT _ _ rfl rfl rfl rfl rfl rfl _ rfl (of_decide_eq_true (by kernel_rfl)) (by kernel_rfl) (by kernel_rfl) (by kernel_rfl) ?_))
      simp only [Act.put, List.setIfInBounds_toArray, List.set_cons_succ, List.set_cons_zero]
      have hal := (Below.refl wr.heap.size wr).alloc (Nat.le_refl _) (.cells (freeV x V c2).toArray FreeT)
      have hzw : w.heap.size ≤ wr.heap.size := by have := HBB.out.size; omega
      refine wp_gen (fun W => (w.heap.size ≤ W.heap.size ∧ W.ownsRow w.heap.size IntT 1 u5 L.length (L.map iv) ∧ W.ownsRow w.heap.size IntT 1 (.slice V x.ids.length c2) x.ids.length (x.ids.map iv) ∧ Below w1.heap.size w1 W) ∧ W.cell? ⟨wr.heap.size, 1, none⟩ = some (.slice V x.ids.length c2)) ?_ ?_
      · exact ⟨⟨by rw [World.size_alloc]; omega, own_chg2 (S := NoM) HR.out (Chg.of_below hal) (fun _ _ h => h), own_chg2 (S := NoM) HOW.out (Chg.of_below hal) (fun _ _ h => h), HBB.out.trans (hal.mono HBB.out.size)⟩, (Blk.new wr FreeT (freeV x V c2).toArray).cell 1⟩
      clear HFC HR HOW HBB S hal hzw
      generalize wr.heap.size = b9 at *
      rintro w2 ⟨⟨hz2, h1, h2, hb2⟩, hc⟩
      have HBO := Lib.hid (idsBoth_any h1 h2 (by omega))
      have HB2 := Lib.hid hb2
      clear h1 h2 hb2
      go_wp2_with (go_at_call 68; refine HBO.out.mono ?_; rintro e w3 ⟨r, rfl, ho3, hb3⟩; have HO3 := Lib.hid ho3; have HB3 := Lib.hid hb3; clear ho3 hb3)
      go_roundw
      case rel => exact ⟨j + 1, by omega, by go_num, by rw [HNX.out]; exact own_base HO3.out hz2, HB2.out.trans (HB3.out.mono HB2.out.size)⟩
      case measure => simp [intOf]; omega
    · obtain rfl : j = m.length := by omega
      rw [List.take_length] at HR
      go_wp2_with fail
      go_ret
      rw [HU.out]
      exact ⟨_, rfl, HR.out, HB.out.trans (HBB.out.mono h9)⟩
end Go.Proofs.YtkcfmjlcijhieaaGreat
