/- Free pages packed: what is on one page. -/
import Derived.Test.YtkcfmjlcijhieaaGreatQB09
import Derived.Test.YtkcfmjlcijhieaaGreatQPKeeps04
import Derived.Test.YtkcfmjlcijhieaaGreatQPKeeps06
set_option linter.unusedSimpArgs false
set_option linter.unusedVariables false
namespace Go.Proofs.YtkcfmjlcijhieaaGreat
open Go.RowKit
attribute [local go_sem low] mk_extract
attribute [local go_sem] After.cell After.frozen mk_extract_end ByteArray.mk_append_mk
open Go.Conc
namespace Sp
/-- A page that is free: freed by whom; whether it begins a row. -/
structure One where
  txn : Int
  id : Int
  new : Bool
def rowStep (out : List Free) (x : One) : List Free :=
  if x.new = true ∨ out = [] then out ++ [⟨x.txn, [x.id]⟩] else out.dropLast ++ [⟨(out.getLastD free0).txn, (out.getLastD free0).ids ++ [x.id]⟩]
/-- What is on one page. -/
def rowI (L : List One) : List Free := (L.take 20).foldl rowStep []
theorem rowStep_ne (out : List Free) (x : One) : rowStep out x ≠ [] := by
  unfold rowStep
  split <;> simp
theorem rowStep_new {out : List Free} {x : One} (h : x.new = true ∨ out = []) : rowStep out x = out ++ [⟨x.txn, [x.id]⟩] := if_pos h
theorem rowStep_old {init : List Free} {last : Free} {x : One} (h : x.new = false) : rowStep (init ++ [last]) x = init ++ [⟨last.txn, last.ids ++ [x.id]⟩] := by
  unfold rowStep
  rw [if_neg (by simp [h])]
  simp
end Sp
abbrev OneT : TypeId := 101
def oneV (x : Sp.One) : Value := .agg #[.int .u64 x.txn, .int .i64 x.id, .bool x.new]
/-- Rows that stay whatever becomes of this block, of blocks from G on, of those below B. -/
def FrU (W : World) (B G g : Nat) (l : List Sp.Free) (ys : List Value) : Prop := ∀ W', Chg (fun k => G ≤ k ∨ k = g ∨ k < B) W W' → FrO W' B l ys
section
variable {W W' : World} {B G g g' : Nat} {l : List Sp.Free} {ys : List Value}
theorem FrU.here (h : FrU W B G g l ys) : FrO W B l ys := h W (Chg.refl _ _)
theorem FrU.go (h : FrU W B G g l ys) (hk : Chg (fun k => G ≤ k ∨ k = g ∨ k < B) W W') : FrU W' B G g l ys := fun W2 h2 => h W2 (hk.trans h2)
theorem FrU.up {G' : Nat} (h : FrU W B G g l ys) (hG : G ≤ G') (hg : g' = g ∨ G ≤ g') : FrU W B G' g' l ys := fun W2 h2 => h W2 (h2.mono fun k _ e => by
  rcases e with e | e | e
  · exact .inl (by omega)
  · subst e
    rcases hg with hg | hg
    · exact .inr (.inl hg)
    · exact .inl hg
  · exact .inr (.inr e))
theorem FrU.snoc {last : Sp.Free} {V : Option Addr} {c : Nat} (h : FrU W B G g l ys) (hBG : B ≤ G) (hGW : G ≤ W.heap.size) (ho : W.ownsRow G IntT 1 (.slice V last.ids.length c) last.ids.length (last.ids.map iv)) (hb : last.ids.length ≤ 1000 ∧ 0 ≤ last.txn ∧ last.txn < 18446744073709551616) (hg : ∃ cs, Blk W g FreeT cs) :
    FrU W B W.heap.size g (l ++ [last]) (ys ++ freeV last V c) := fun W2 h2 => by
  refine FrO.snoc (own_base (own_chg2 ho h2 fun k hk e => ?_) hBG) hb (h W2 (h2.mono fun k _ e => ?_))
  · have h3 := own_lt ho k hk
    have h4 := (ho.lt k hk).1
    rcases e with e | e | e
    · omega
    · subst e
      obtain ⟨cs, hc⟩ := hg
      obtain ⟨ds, hd⟩ := own_ty2 ho hk
      exact hd.not_ (by decide) _ hc
    · omega
  · rcases e with e | e | e
    · exact .inl (by omega)
    · exact .inr (.inl e)
    · exact .inr (.inr e)
end
/-- What row holds between its rounds, where something is there. -/
structure RwL (w : World) (u : Value) (init : List Sp.Free) (last : Sp.Free) (W : World) : Prop where
  ex : ∃ g c V cl G ys, u = .slice (some ⟨g, 0, none⟩) (init.length + 1) c ∧ W.ownsRow w.heap.size FreeT 2 u (init.length + 1) (ys ++ freeV last V cl) ∧ W.ownsRow G IntT 1 (.slice V last.ids.length cl) last.ids.length (last.ids.map iv) ∧
    FrU W w.heap.size G g init ys ∧ w.heap.size ≤ G ∧ G ≤ W.heap.size
  bd : last.ids.length ≤ 1000 ∧ 0 ≤ last.txn ∧ last.txn < 18446744073709551616
def RwS (w : World) (u : Value) (out : List Sp.Free) (W : World) : Prop := (out = [] ∧ u = .slice none 0 0) ∨ ∃ init last, out = init ++ [last] ∧ RwL w u init last W
section
variable {w W W' : World} {u : Value} {init out : List Sp.Free} {last : Sp.Free}
theorem RwL.go (h : RwL w u init last W) (hk : Chg (fun k => k < w.heap.size) W W') : RwL w u init last W' := by
  obtain ⟨g, c, V, cl, G, ys, rfl, h1, h2, h3, h4, h5⟩ := h.ex
  exact ⟨⟨g, c, V, cl, G, ys, rfl, own_chg2 h1 hk (fun k hk' e => by have := (h1.lt k hk').1; omega), own_chg2 h2 hk (fun k hk' e => by have := (h2.lt k hk').1; omega), h3.go (hk.mono fun k _ e => .inr (.inr e)), h4, Nat.le_trans h5 hk.size⟩, h.bd⟩
theorem RwS.go (h : RwS w u out W) (hk : Chg (fun k => k < w.heap.size) W W') : RwS w u out W' := by
  rcases h with h | ⟨init, last, e, h⟩
  · exact .inl h
  · exact .inr ⟨init, last, e, h.go hk⟩
theorem RwL.frs (h : RwL w u init last W) : FrsO W w.heap.size u (init ++ [last]) := by
  obtain ⟨g, c, V, cl, G, ys, rfl, h1, h2, h3, h4, h5⟩ := h.ex
  exact ⟨_, by rw [List.length_append]; exact h1, FrO.snoc (own_base h2 h4) h.bd h3.here⟩
theorem RwS.frs (h : RwS w u out W) : FrsO W w.heap.size u out := by
  rcases h with ⟨rfl, rfl⟩ | ⟨init, last, rfl, h⟩
  · exact FrsO.nil
  · exact h.frs
/-- A row of the call's own, of one more. -/
theorem RwS.new_ (h : RwS w u out W) (hw : w.heap.size ≤ W.heap.size) (t : Int) (ht : 0 ≤ t ∧ t < 18446744073709551616) : ∃ xs, W.ownsRow w.heap.size FreeT 2 u out.length xs ∧
    ∀ v' W', W'.ownsRow w.heap.size FreeT 2 v' (out.length + 1) (xs ++ freeV ⟨t, []⟩ none 0) → W.grownBy W' u.ownBlock → (v'.ownBlock = u.ownBlock ∨ v'.ownBlock = some W.heap.size) → RwL w v' out ⟨t, []⟩ W' := by
  have key : ∀ {v' : Value} {W' : World} {zs : List Value} {n : Nat}, W'.ownsRow w.heap.size FreeT 2 v' (n + 1) zs → ∃ g c, v' = .slice (some ⟨g, 0, none⟩) (n + 1) c := fun {v' W' zs n} ho => by
    rcases ho.2 with ⟨_, h0⟩ | ⟨g, cap, cur, e, _⟩
    · omega
    · exact ⟨g, cap, e⟩
  rcases h with ⟨rfl, rfl⟩ | ⟨init, last, rfl, h⟩
  · refine ⟨[], own_nil0 _ _ _ _, fun v' W' ho hgr hat => ?_⟩
    obtain ⟨g, c, rfl⟩ := key ho
    exact ⟨⟨g, c, none, 0, W'.heap.size, [], rfl, ho, own_nil0 _ _ _ _, fun _ _ => rfl, Nat.le_trans hw hgr.size, Nat.le_refl _⟩, ⟨Nat.zero_le _, ht⟩⟩
  · obtain ⟨g, c, V, cl, G, ys, rfl, h1, h2, h3, h4, h5⟩ := h.ex
    refine ⟨_, by rw [List.length_append]; exact h1, fun v' W' ho hgr hat => ?_⟩
    rw [List.length_append] at ho
    obtain ⟨g', c', rfl⟩ := key ho
    have hgb : ∃ cs, Blk W g FreeT cs := own_ty2 h1 rfl
    have h6 := h3.snoc h4 h5 h2 h.bd hgb
    have hg' : g' = g ∨ W.heap.size ≤ g' := by
      rcases hat with e | e
      · left; simpa [Value.ownBlock] using e
      · right
        have : g' = W.heap.size := by simpa [Value.ownBlock] using e
        omega
    have hk : Chg (fun k => W.heap.size ≤ k ∨ k = g ∨ k < w.heap.size) W W' := Chg.of_grown hgr fun k hk => .inl (.inr (.inl (by simpa [Value.ownBlock] using hk.symm)))
    exact ⟨⟨g', c', none, 0, W'.heap.size, _, by simp, by rw [List.length_append]; exact ho, own_nil0 _ _ _ _, (h6.go hk).up hgr.size (hg'.imp id fun h => h), Nat.le_trans hw hgr.size, Nat.le_refl _⟩, ⟨Nat.zero_le _, ht⟩⟩
end
namespace Sp
theorem rowStep_len {n : Nat} {out : List Free} (h : out.length ≤ n ∧ ∀ f ∈ out, f.ids.length ≤ n) (x : One) : (rowStep out x).length ≤ n + 1 ∧ ∀ f ∈ rowStep out x, f.ids.length ≤ n + 1 := by
  by_cases hx : x.new = true ∨ out = []
  · rw [rowStep_new hx]
    refine ⟨by rw [List.length_append]; have := h.1; simp; omega, fun f hf => ?_⟩
    rcases List.mem_append.1 hf with hf | hf
    · have := h.2 f hf; omega
    · rw [List.mem_singleton.1 hf]; simp
  · obtain ⟨hn, ho⟩ := not_or.1 hx
    obtain ⟨init, last, rfl⟩ : ∃ init last, out = init ++ [last] := ⟨out.dropLast, out.getLast ho, (List.dropLast_concat_getLast ho).symm⟩
    rw [rowStep_old (by simpa using hn)]
    refine ⟨by have := h.1; simp at *; omega, fun f hf => ?_⟩
    rcases List.mem_append.1 hf with hf | hf
    · have := h.2 f (by simp [hf]); omega
    · rw [List.mem_singleton.1 hf, List.length_append]
      have := h.2 last (by simp)
      simpa using this
theorem fold_row (L : List One) : ∀ j, j ≤ L.length → ((L.take j).foldl rowStep []).length ≤ j ∧ ∀ f ∈ (L.take j).foldl rowStep [], f.ids.length ≤ j
  | 0, _ => by simp
  | j + 1, hj => by
    rw [List.take_succ_eq_append_getElem (by omega), List.foldl_append]
    exact rowStep_len (fold_row L j (by omega)) _
end Sp
theorem info_one : (Tryz.prog.info? 101).map (fun i => (i.zero, i.size, i.bytes)) = some (some (.agg #[.int .u64 0, .int .i64 0, .bool false]), 3, 24) := by kernel_rfl
theorem own_set2 {w : World} {B g c n : Nat} {ys : List Value} {a b : Value} (h : w.ownsRow B FreeT 2 (.slice (some ⟨g, 0, none⟩) (n + 1) c) (n + 1) (ys ++ [a, b])) (v : Value) : (w.setCell ⟨g, n * 2 + 1, none⟩ v).ownsRow B FreeT 2 (.slice (some ⟨g, 0, none⟩) (n + 1) c) (n + 1) (ys ++ [a, v]) := by
  have hl := h.1
  rcases h.2 with ⟨h0, _⟩ | ⟨g', cap, cur, hv, hg, hh, h1, h2, h3, h4⟩
  · cases h0
  · injection hv with hv _ hc
    injection hv with hv
    injection hv with hv
    subst hv; subst hc
    have hb : Blk w g FreeT cur := hh
    refine ⟨by simpa using hl, .inr ⟨g, c, _, rfl, hg, hb.set_ (n * 2 + 1) v, h1, h2, by simpa using h3, ?_⟩⟩
    have hy : ys.length = n * 2 := by rw [List.length_append] at hl; simp at hl; omega
    rw [Array.toList_setIfInBounds, List.take_set, h4, List.set_append, if_neg (by omega), hy]
    rw [show n * 2 + 1 - n * 2 = 1 by omega]
    rfl
theorem own_cells2 {w : World} {B g c n : Nat} {ys : List Value} {a b : Value} (h : w.ownsRow B FreeT 2 (.slice (some ⟨g, 0, none⟩) (n + 1) c) (n + 1) (ys ++ [a, b])) : w.cell? ⟨g, n * 2 + 1, none⟩ = some b := by
  have hl := h.1
  rcases own_none h with ⟨h0, _⟩ | ⟨g', cur, hv, _, _, hc⟩
  · cases h0
  · injection hv with hv
    injection hv with hv
    subst hv
    have hy : ys.length = n * 2 := by rw [List.length_append] at hl; simp at hl; omega
    have := hc (n * 2 + 1) b (by rw [List.getElem?_append_right (by omega), hy, show n * 2 + 1 - n * 2 = 1 by omega]; rfl)
    rwa [Nat.zero_add] at this
/-- An entry's numbers, one more. -/
theorem RwL.more {w W W' : World} {g c n : Nat} {init : List Sp.Free} {last : Sp.Free} {V : Option Addr} {cl G : Nat} {ys : List Value} {id : Int} {v' : Value} (h1 : W.ownsRow w.heap.size FreeT 2 (.slice (some ⟨g, 0, none⟩) (init.length + 1) c) (init.length + 1) (ys ++ freeV last V cl)) (h2 : W.ownsRow G IntT 1 (.slice V last.ids.length cl) last.ids.length (last.ids.map iv))
    (h3 : FrU W w.heap.size G g init ys) (h4 : w.heap.size ≤ G) (h5 : G ≤ W.heap.size) (bd : last.ids.length ≤ 100 ∧ 0 ≤ last.txn ∧ last.txn < 18446744073709551616)
    (ho : W'.ownsRow G IntT 1 v' (last.ids.length + 1) (last.ids.map iv ++ [iv id])) (hgr : W.grownBy W' (Value.slice V last.ids.length cl).ownBlock) :
    RwL w (.slice (some ⟨g, 0, none⟩) (init.length + 1) c) init ⟨last.txn, last.ids ++ [id]⟩ (W'.setCell ⟨g, init.length * 2 + 1, none⟩ v') ∧ Below w.heap.size W (W'.setCell ⟨g, init.length * 2 + 1, none⟩ v') := by
  obtain ⟨A', c', hv'⟩ := own_slice ho
  subst hv'
  have hk := Chg.of_grown (S := fun k => (Value.slice V last.ids.length cl).ownBlock = some k) hgr (fun k hk => .inl hk)
  have hgF : ∃ ds, Blk W g FreeT ds := own_ty2 h1 rfl
  have hgV : ¬ ((Value.slice V last.ids.length cl).ownBlock = some g) := fun e => by
    obtain ⟨ds, hd⟩ := own_ty2 h2 e
    obtain ⟨es, he⟩ := hgF
    exact hd.not_ (by decide) _ he
  have hB := (h1.lt g rfl).1
  have h1' := own_chg2 h1 hk (fun k hk' e => by
    have : g = k := by simpa [Value.ownBlock] using hk'
    exact hgV (this ▸ e))
  have hgF' : ∃ ds, Blk W' g FreeT ds := own_ty2 h1' rfl
  have hs1 := Chg.set1 W' g (init.length * 2 + 1) (.slice A' (last.ids.length + 1) c')
  have hbl : Below w.heap.size W W' := hk.below (by omega) (fun k _ e => by have := (h2.lt k e).1; omega)
  refine ⟨⟨⟨g, c, A', c', G, ys, rfl, ?_, ?_, h3.go ((hk.mono fun k hk e => .inl (h2.lt k e).1).trans (hs1.mono fun k _ e => .inr (.inl e))), h4, Nat.le_trans h5 (by rw [World.size_setCell]; exact hk.size)⟩, by rw [List.length_append]; simp; omega⟩, hbl.trans (hs1.below (by have := hbl.size; omega) fun k _ e => by have : k = g := e; omega)⟩
  · have := own_set2 h1' (.slice A' (last.ids.length + 1) c')
    simpa [freeV] using this
  · have := own_chg2 ho hs1 (fun k hk' e => by
      obtain ⟨ds, hd⟩ := own_ty2 ho hk'
      obtain ⟨es, he⟩ := hgF'
      have e : k = g := e
      subst e
      exact hd.not_ (by decide) _ he)
    simpa using this
set_option maxRecDepth 100000 in
set_option maxHeartbeats 1600000 in
theorem frow_any (cc cap : Nat) (L : List Sp.One) (w : World) (hL : ∀ x ∈ L, 0 ≤ x.txn ∧ x.txn < 18446744073709551616) (hc : ∃ s q, w.heap[cc]? = some (.chan cap (L.map oneV).toArray false s q false)) :
    Calls Tryz.prog 54 #[.chan (some cc)] w fun e w' => ∃ u, e = .returned u ∧ FrsO w' w.heap.size u (Sp.rowI L) ∧ (∃ s q, w'.heap[cc]? = some (.chan cap ((L.drop 20).map oneV).toArray false s q false)) ∧ Chg (OneM cc) w w' := by
  obtain ⟨i0, hi0, hz0, hz1, hz2⟩ := info_parts info_free2
  obtain ⟨i2, hi2, hy0, hy1, hy2⟩ := info_parts info_int
  have HC := Lib.hid hc
  have HL := Lib.hid hL
  have hcl : cc < w.heap.size := by
    obtain ⟨s, q, h⟩ := hc
    exact (Array.getElem?_eq_some_iff.1 h).1
  clear hc hL
  go_enter Tryz.func54, Tryz.ntmps54
  go_upto_region 3 with fail
  go_loopw [3, 6] (fun u i wr => ∃ j : Nat, j ≤ 20 ∧ i = .int .i64 j ∧ (j ≤ L.length) ∧ RwS w u ((L.take j).foldl Sp.rowStep []) wr ∧ (∃ s q, wr.heap[cc]? = some (.chan cap ((L.drop j).map oneV).toArray false s q false)) ∧ Chg (OneM cc) w wr) (fun _ i _ => 20 - (intOf i).toNat)
  case atStart => exact ⟨0, by omega, rfl, Nat.zero_le _, .inl ⟨rfl, rfl⟩, HC.out, Chg.refl _ _⟩
  case round =>
    obtain ⟨j, hj, rfl, hjL, hs, hch, hk⟩ := hrel
    have S := Lib.hid hs
    have CH := Lib.hid hch
    have K := Lib.hid hk
    clear hs hch hk HC
    by_cases hj20 : j < 20
    · have hfl := Sp.fold_row L j hjL
      rcases hd : L.drop j with _ | ⟨x, rest⟩
      · have hLj : L.length ≤ j := by
          have := congrArg List.length hd
          rw [List.length_drop] at this
          simp at this
          omega
        have HT := Lib.hid (show Sp.rowI L = (L.take j).foldl Sp.rowStep [] from by unfold Sp.rowI; rw [List.take_of_length_le (by omega), List.take_of_length_le hLj])
        have HD := Lib.hid (show L.drop 20 = L.drop j from by rw [hd]; exact List.drop_eq_nil_of_le (by omega))
        go_upto_region 5 with fail
        obtain ⟨sq, qq, hc⟩ := CH.out
        have hc' := hc
        rw [hd] at hc'
        refine InReg.region ?_
        show InReg _ _ _ [0, 1, 2] _ _
        refine InReg.default (w' := wr) (c := cc) (z := .agg #[.int .u64 0, .int .i64 0, .bool false]) rfl rfl (by simp [go_sem, execOp, rcase, Act.eval]) hc' ?_
        refine InReg.val (w' := wr) (v := goInt (-1)) rfl rfl (by simp [go_sem, execOp, Act.eval, Act.put]) ?_
        refine InReg.val (w' := wr) (v := .bool false) rfl rfl (by simp [go_sem, execOp, Act.eval, Act.put, goInt]) ?_
        refine InReg.nil ?_
        clear hd hc hc'
        go_wp2_with fail
        go_ret
        exact ⟨_, rfl, by rw [HT.out]; exact S.out.frs, by rw [HD.out]; exact CH.out, K.out⟩
      · have hjl : j < L.length := by
          have := congrArg List.length hd
          rw [List.length_drop] at this
          simp at this
          omega
        have hxj : L[j] = x := by
          have := congrArg (fun l => l[0]?) hd
          simp at this
          rw [List.getElem?_eq_getElem hjl] at this
          simpa using this
        have hrest : L.drop (j + 1) = rest := by
          have := congrArg List.tail hd
          simpa [List.tail_drop] using this
        have HT := Lib.hid (show (L.take (j + 1)).foldl Sp.rowStep [] = Sp.rowStep ((L.take j).foldl Sp.rowStep []) x from by rw [List.take_succ_eq_append_getElem hjl, List.foldl_append, hxj]; rfl)
        have HR := Lib.hid hrest
        have hxb := HL.out x (by rw [← hxj]; exact List.getElem_mem hjl)
        clear hxj hrest
        generalize (L.take j).foldl Sp.rowStep [] = out at *
        go_upto_region 5 with fail
        obtain ⟨sq, qq, hc⟩ := CH.out
        have hc' := hc
        rw [hd, List.map_cons] at hc'
        refine InReg.region ?_
        show InReg _ _ _ [0, 1, 2] _ _
        refine InReg.recv (w' := wr) (c := cc) (z := .agg #[.int .u64 0, .int .i64 0, .bool false]) rfl rfl (by simp [go_sem, execOp, rcase, Act.eval]) hc' (by simp) ?_
        have e1 : (oneV x :: rest.map oneV).toArray.getD 0 undef = .agg #[.int .u64 x.txn, .int .i64 x.id, .bool x.new] := rfl
        have e2 : (oneV x :: rest.map oneV).toArray.extract 1 (oneV x :: rest.map oneV).toArray.size = (rest.map oneV).toArray := by simp [List.take_of_length_le]
        rw [e1, e2]
        have hlt : cc < wr.heap.size := (Array.getElem?_eq_some_iff.1 hc).1
        have CH4 := Lib.hid (show ∃ s q, (wr.setChan cc cap (rest.map oneV).toArray false sq (qq + 1) false).heap[cc]? = some (.chan cap (rest.map oneV).toArray false s q false) from ⟨sq, qq + 1, heap_setChan wr cc cap _ false sq (qq + 1) false hlt⟩)
        have K4 := Lib.hid (chg_setChan K.out (.inl rfl) cap (rest.map oneV).toArray false sq (qq + 1) false)
        have S4 := Lib.hid (S.out.go (chg_setChan (S := fun k => k < w.heap.size) (Chg.refl _ wr) (.inl hcl) cap (rest.map oneV).toArray false sq (qq + 1) false))
        clear hd hc hc' e1 e2 S CH K hlt
        generalize wr.setChan cc cap (rest.map oneV).toArray false sq (qq + 1) false = W4 at *
        refine InReg.val (w' := W4) (v := goInt 0) rfl rfl (by simp [go_sem, execOp, Act.eval, Act.put]) ?_
        refine InReg.val (w' := W4) (v := .bool true) rfl rfl (by simp [go_sem, execOp, Act.eval, Act.put, goInt]) ?_
        refine InReg.nil ?_
        go_upto_region 8 with (refine wpList_new OneT _ _ rfl rfl rfl rfl rfl rfl _ rfl (of_decide_eq_true (by kernel_rfl)) (by kernel_rfl) (by kernel_rfl) (by kernel_rfl) ?_)
        try simp only [Act.put, List.setIfInBounds_toArray, List.set_cons_succ, List.set_cons_zero]
        have hz4 : w.heap.size ≤ W4.heap.size := K4.out.size
        have hal := (Below.refl W4.heap.size W4).alloc (Nat.le_refl _) (.cells #[.int .u64 x.txn, .int .i64 x.id, .bool x.new] OneT)
        refine wp_gen (fun W => RwS w u3 out W ∧ (∃ s q, W.heap[cc]? = some (.chan cap (rest.map oneV).toArray false s q false)) ∧ Chg (OneM cc) w W ∧ Blk W W4.heap.size OneT #[.int .u64 x.txn, .int .i64 x.id, .bool x.new]) ⟨S4.out.go (Chg.of_below hal), ?_, K4.out.trans (Chg.of_below hal), Blk.new _ _ _⟩ ?_
        · obtain ⟨s, q, h⟩ := CH4.out
          exact ⟨s, q, ((Chg.of_below (S := NoM) hal).block _ (Array.getElem?_eq_some_iff.1 h).1 (fun h => h)).trans h⟩
        clear CH4 K4 S4 hal
        generalize W4.heap.size = b4 at *
        rintro W5 ⟨hs5, hch5, hk5, hb5⟩
        have S5 := Lib.hid hs5
        have CH5 := Lib.hid hch5
        have K5 := Lib.hid hk5
        have HB5 := Lib.hid hb5
        have x0 : W5.cell? ⟨b4, 0, none⟩ = some (.int .u64 x.txn) := hb5.cell 0
        have x2 : W5.cell? ⟨b4, 2, none⟩ = some (.bool x.new) := hb5.cell 2
        clear hs5 hch5 hk5 hb5
        obtain ⟨Au, cu, hu⟩ := S5.out.frs.form
        subst hu
        obtain ⟨nw, hnw⟩ : ∃ nw : Bool, nw = decide (x.new = true ∨ out = []) := ⟨_, rfl⟩
        have HNW := Lib.hid (show nw = decide (x.new = true ∨ out = []) from hnw)
        clear hnw
        go_cut [20] (fun z W => z = .bool nw ∧ W5 = W)
        case first =>
          by_cases hxf : x.new = false
          · rw [hxf] at x2
            have HXN := Lib.hid (show x.new = false from hxf)
            clear hxf
            by_cases hoe : out = []
            · have hol0 : (out.length : Int) = 0 := by rw [hoe]; rfl
              have HOE := Lib.hid (show out = [] from hoe)
              clear hoe
              go_wp2_with fail
              go_meet
              case rel => exact ⟨by rw [HNW.out, decide_eq_true (.inr HOE.out)], rfl⟩
            · have hol0 : ¬ (out.length : Int) = 0 := by
                have : out.length ≠ 0 := fun e => hoe (List.eq_nil_of_length_eq_zero e)
                omega
              have HOE := Lib.hid (show ¬ out = [] from hoe)
              clear hoe
              go_wp2_with fail
              go_meet
              case rel => exact ⟨by rw [HNW.out, decide_eq_false (fun h => h.elim (by rw [HXN.out]; simp) HOE.out), (beq_eq_false_iff_ne.2 hol0 : ((out.length : Int) == 0) = false)], rfl⟩
          · have hxt : x.new = true := by simpa using hxf
            rw [hxt] at x2
            have HXN := Lib.hid (show x.new = true from hxt)
            clear hxt hxf
            go_wp2_with fail
            go_meet
            case rel => exact ⟨by rw [HNW.out, decide_eq_true (.inl HXN.out)], rfl⟩
        case rest =>
          obtain ⟨rfl, rfl⟩ := hcut
          refine ‹∀ (a : Act) (w : World), Code.wp _ _ _ a w → _› _ _ ?_
          go_cut [3] (fun u W => ∃ init last, RwL w u init last W ∧ Sp.rowStep out x = init ++ [⟨last.txn, last.ids ++ [x.id]⟩] ∧ last.ids.length ≤ 100 ∧ init.length ≤ 100 ∧ (∃ s q, W.heap[cc]? = some (.chan cap (rest.map oneV).toArray false s q false)) ∧ Chg (OneM cc) w W ∧ Blk W b4 OneT #[.int .u64 x.txn, .int .i64 x.id, .bool x.new])
          case first =>
            rcases nw with _ | _
            · have hnn := of_decide_eq_false HNW.out.symm
              obtain ⟨hx1, hoe⟩ := not_or.1 hnn
              have HXN := Lib.hid (show x.new = false from by simpa using hx1)
              have HOE := Lib.hid (show ¬ out = [] from hoe)
              clear hnn hx1 hoe
              go_wp2_with fail
              go_meet
              case rel =>
                rcases S5.out with ⟨e, _⟩ | ⟨init, last, e, hr⟩
                · exact absurd e HOE.out
                · refine ⟨init, last, hr, by rw [e]; exact Sp.rowStep_old HXN.out, ?_, ?_, CH5.out, K5.out, HB5.out⟩
                  · have := hfl.2 last (by rw [e]; simp)
                    omega
                  · have := hfl.1
                    rw [e, List.length_append] at this
                    omega
            · have HNEW := Lib.hid (show x.new = true ∨ out = [] from of_decide_eq_true HNW.out.symm)
              have hal6 := (Below.refl W5.heap.size W5).alloc (Nat.le_refl _) (.cells (freeV ⟨x.txn, []⟩ none 0).toArray FreeT)
              have hz5 : w.heap.size ≤ W5.heap.size := K5.out.size
              obtain ⟨xs, h1, h2⟩ := (S5.out.go (Chg.of_below hal6)).new_ (by rw [World.size_alloc]; omega) x.txn hxb
              have H1 := Lib.hid h1
              have H2 := Lib.hid h2
              have HCE := Lib.hid (cells_free (x := ⟨x.txn, []⟩) (V := none) (c := 0) W5)
              have hz6 : w.heap.size ≤ (W5.alloc (.cells (freeV ⟨x.txn, []⟩ none 0).toArray FreeT)).heap.size := by rw [World.size_alloc]; omega
              have K6 := Lib.hid (K5.out.trans (Chg.of_below hal6))
              have HB6 := Lib.hid (HB5.out.below hal6 HB5.out.lt)
              have CH6 := Lib.hid (show ∃ s q, (W5.alloc (.cells (freeV ⟨x.txn, []⟩ none 0).toArray FreeT)).heap[cc]? = some (.chan cap (rest.map oneV).toArray false s q false) from by
                obtain ⟨s, q, h⟩ := CH5.out
                exact ⟨s, q, ((Chg.of_below (S := NoM) hal6).block _ (Array.getElem?_eq_some_iff.1 h).1 (fun h => h)).trans h⟩)
              have HOL := Lib.hid hfl
              have hol := hfl.1
              clear h1 h2 hal6 CH5 K5 S5 HB5 hfl
              go_wp2_with (at_builtin; refine wpList_append_own_at _ rfl _ _ 24 rfl w.heap.size FreeT i0 _ 2 32 Tryz.underlying24 hi0 hz0 hz1 hz2 rfl (by decide) _ out.length xs rfl H1.out ⟨W5.heap.size, 0, none⟩ 1 1 (freeV ⟨x.txn, []⟩ none 0) rfl rfl HCE.out (freeV_ones _ none 0) ?c3 ?c4 hz6 ?_)
              case c3 => simp only [maxLen]; omega
              case c4 => omega
              intro v' w7 hown hgr _ hat
              have hq := H2.out v' w7 hown hgr (by rw [World.size_alloc]; exact hat)
              have hk7 := Chg.of_grown (S := fun k => (Value.slice Au out.length cu).ownBlock = some k) hgr (fun k hk => .inl hk)
              have hn7 : ∀ k, (Value.slice Au out.length cu).ownBlock = some k → ∃ ds, Blk (W5.alloc (.cells (freeV ⟨x.txn, []⟩ none 0).toArray FreeT)) k FreeT ds := fun k hk => own_ty2 H1.out hk
              go_wp2_with fail
              go_meet
              case rel =>
                have hcs : ¬ ((Value.slice Au out.length cu).ownBlock = some cc) := fun e => by have := (H1.out.lt cc e).1; omega
                have hbs : ¬ ((Value.slice Au out.length cu).ownBlock = some b4) := fun e => by
                  obtain ⟨ds, hd⟩ := own_ty2 H1.out e
                  exact HB6.out.not_ (by decide) _ hd
                refine ⟨out, ⟨x.txn, []⟩, hq, by rw [Sp.rowStep_new HNEW.out]; rfl, Nat.zero_le _, by omega, ?_, Chg.step hk7 (fun i hi => .inr (H1.out.lt i hi).1) K6.out, HB6.out.chg hk7 hbs⟩
                obtain ⟨s, q, h⟩ := CH6.out
                exact ⟨s, q, (hk7.block cc (Array.getElem?_eq_some_iff.1 h).1 hcs).trans h⟩
          case rest =>
            obtain ⟨init, last, hr6, hst, hlb, hib, hch6, hk6, hb6⟩ := hcut
            obtain ⟨w6, rfl⟩ : ∃ W, W = wc := ⟨_, rfl⟩
            obtain ⟨g, c, V, cl, G, ys, rfl, h1, h2, h3, h4, h5⟩ := hr6.ex
            have H1 := Lib.hid h1
            have H2 := Lib.hid h2
            have HRM := Lib.hid (fun (W0 W' : World) (v' : Value) (hk : Below w6.heap.size w6 W0) (ho : W'.ownsRow G IntT 1 v' (last.ids.length + 1) (last.ids.map iv ++ [iv x.id])) (hgr : W0.grownBy W' (Value.slice V last.ids.length cl).ownBlock) => RwL.more (n := 0) (W := W0) (W' := W') (v' := v') (id := x.id) (own_chg2 h1 (Chg.of_below hk) (fun _ _ h => h)) (own_chg2 h2 (Chg.of_below hk) (fun _ _ h => h)) (h3.go (Chg.of_below hk)) h4 (Nat.le_trans h5 hk.size) ⟨hlb, hr6.bd.2⟩ ho hgr)
            have CH6 := Lib.hid hch6
            have K6 := Lib.hid hk6
            have HB6 := Lib.hid hb6
            have HST := Lib.hid hst
            have HG6 := Lib.hid (show g < w6.heap.size ∧ G ≤ w6.heap.size ∧ w.heap.size ≤ g from ⟨(h1.lt g rfl).2, h5, (h1.lt g rfl).1⟩)
            clear h1 h2 h3 h4 h5 hr6 hch6 hk6 hb6 hst
            go_upto_region 11 with fail
            have hg1 : g < w6.heap.size := HG6.out.1
            have cL := own_cells2 H1.out
            have cX : w6.cell? ⟨b4, 1, none⟩ = some (.int .i64 x.id) := HB6.out.cell 1
            have hb4w := HB6.out.lt
            have hC0 : (fun W : World => W.cell? ⟨g, init.length * 2 + 1, none⟩ = some (.slice V last.ids.length cl) ∧ W.cell? ⟨b4, 1, none⟩ = some (.int .i64 x.id)) w6.drew := ⟨cL, cX⟩
            refine wp_region_in 12 11 (fun W : World => W.cell? ⟨g, init.length * 2 + 1, none⟩ = some (.slice V last.ids.length cl) ∧ W.cell? ⟨b4, 1, none⟩ = some (.int .i64 x.id)) (by kernel_rfl) rfl ?_
            refine wpIn_takeV 0 [9, 10, 11] (.pointer (some ⟨g, init.length * 2, none⟩)) rfl (by kernel_rfl) (by kernel_rfl) (by kernel_rfl) (by kernel_rfl) (by kernel_rfl) (by kernel_rfl) (by kernel_rfl) (by rfl) (fun _ _ _ h => h) hC0 (fun W hW => by go_simp; all_goals first | with_reducible rfl | rfl | omega) ?_
            try simp only [List.getElem_toArray, List.getElem_cons_zero, List.getElem_cons_succ, Act.put, List.setIfInBounds_toArray, List.set_cons_succ, List.set_cons_zero]
            refine wpIn_takeV 1 [2, 3, 4, 8, 11] (.pointer (some ⟨g, init.length * 2, none⟩)) rfl (by kernel_rfl) (by kernel_rfl) (by kernel_rfl) (by kernel_rfl) (by kernel_rfl) (by kernel_rfl) (by kernel_rfl) (by rfl) (fun _ _ _ h => h) hC0 (fun W hW => by go_simp; all_goals first | with_reducible rfl | rfl | omega) ?_
            try simp only [List.getElem_toArray, List.getElem_cons_zero, List.getElem_cons_succ, Act.put, List.setIfInBounds_toArray, List.set_cons_succ, List.set_cons_zero]
            refine wpIn_takeV 2 [3, 4, 8, 11] (.pointer (some ⟨g, init.length * 2, none⟩)) rfl (by kernel_rfl) (by kernel_rfl) (by kernel_rfl) (by kernel_rfl) (by kernel_rfl) (by kernel_rfl) (by kernel_rfl) (by rfl) (fun _ _ _ h => h) hC0 (fun W hW => by go_simp; all_goals first | with_reducible rfl | rfl | omega) ?_
            try simp only [List.getElem_toArray, List.getElem_cons_zero, List.getElem_cons_succ, Act.put, List.setIfInBounds_toArray, List.set_cons_succ, List.set_cons_zero]
            refine wpIn_takeV 3 [4, 8, 11] (.pointer (some ⟨g, init.length * 2 + 1, none⟩)) rfl (by kernel_rfl) (by kernel_rfl) (by kernel_rfl) (by kernel_rfl) (by kernel_rfl) (by kernel_rfl) (by kernel_rfl) (by rfl) (fun _ _ _ h => h) hC0 (fun W hW => by go_simp; all_goals first | with_reducible rfl | rfl | omega) ?_
            try simp only [List.getElem_toArray, List.getElem_cons_zero, List.getElem_cons_succ, Act.put, List.setIfInBounds_toArray, List.set_cons_succ, List.set_cons_zero]
            refine wpIn_takeV 4 [8, 11] (.slice V last.ids.length cl) rfl (by kernel_rfl) (by kernel_rfl) (by kernel_rfl) (by kernel_rfl) (by kernel_rfl) (by kernel_rfl) (by kernel_rfl) (by rfl) (fun _ _ _ h => h) hC0 (fun W hW => by have hc := hW.1; go_simp; all_goals first | with_reducible rfl | rfl | omega) ?_
            try simp only [List.getElem_toArray, List.getElem_cons_zero, List.getElem_cons_succ, Act.put, List.setIfInBounds_toArray, List.set_cons_succ, List.set_cons_zero]
            refine wpIn_takeV 5 [6, 7, 8, 11] (.pointer (some ⟨b4, 1, none⟩)) rfl (by kernel_rfl) (by kernel_rfl) (by kernel_rfl) (by kernel_rfl) (by kernel_rfl) (by kernel_rfl) (by kernel_rfl) (by rfl) (fun _ _ _ h => h) hC0 (fun W hW => by go_simp; all_goals first | with_reducible rfl | rfl | omega) ?_
            try simp only [List.getElem_toArray, List.getElem_cons_zero, List.getElem_cons_succ, Act.put, List.setIfInBounds_toArray, List.set_cons_succ, List.set_cons_zero]
            refine wpIn_takeV 6 [7, 8, 11] (.int .i64 x.id) rfl (by kernel_rfl) (by kernel_rfl) (by kernel_rfl) (by kernel_rfl) (by kernel_rfl) (by kernel_rfl) (by kernel_rfl) (by rfl) (fun _ _ _ h => h) hC0 (fun W hW => by have hc := hW.2; go_simp; all_goals first | with_reducible rfl | rfl | omega) ?_
            try simp only [List.getElem_toArray, List.getElem_cons_zero, List.getElem_cons_succ, Act.put, List.setIfInBounds_toArray, List.set_cons_succ, List.set_cons_zero]
            have hB0 : Below w6.heap.size w6 (w6.drew.alloc (.cells #[.int .i64 x.id] IntT)) := (Below.refl w6.heap.size w6).drew.alloc (Nat.le_refl _) _
            have hC1 : (fun W : World => W.cell? ⟨g, init.length * 2 + 1, none⟩ = some (.slice V last.ids.length cl) ∧ W.cell? ⟨b4, 1, none⟩ = some (.int .i64 x.id)) (w6.drew.alloc (.cells #[.int .i64 x.id] IntT)) := ⟨(hB0.cell (p := ⟨g, init.length * 2 + 1, none⟩) hg1).trans cL, (hB0.cell (p := ⟨b4, 1, none⟩) hb4w).trans cX⟩
            refine wpIn_one 7 rfl (by kernel_rfl) (fun _ => hC0) (by rfl) ?_
            go_simp
            try simp only [List.getElem_toArray, List.getElem_cons_zero, List.getElem_cons_succ, Act.put, List.setIfInBounds_toArray, List.set_cons_succ, List.set_cons_zero]
            refine wpIn_one 8 rfl (by kernel_rfl) (fun _ => hC1) (by rfl) ?_
            refine wp_append_own _ (.tmp 36) (.tmp 39) _ rfl G IntT i2 _ 1 8 Tryz.underlying26 hi2 hy0 hy1 hy2 rfl (by decide) (.slice V last.ids.length cl) last.ids.length (last.ids.map iv) rfl (own_chg2 (S := NoM) H2.out (Chg.of_below hB0) (fun _ _ h => h)) ⟨w6.heap.size, 0, none⟩ 1 1 [iv x.id] rfl rfl (cell_one_new _ _ _) (fun u hu => by rw [List.mem_singleton.1 hu]; rfl) (by simp only [maxLen]; omega) (by omega) (Nat.le_trans HG6.out.2.1 hB0.size) ?_
            intro v7 w7 ho7 hgr7 _
            try simp only [List.getElem_toArray, List.getElem_cons_zero, List.getElem_cons_succ, Act.put, List.setIfInBounds_toArray, List.set_cons_succ, List.set_cons_zero]
            obtain ⟨A7, c7, hv7⟩ := own_slice ho7
            subst hv7
            have HQ := Lib.hid (HRM.out _ w7 _ hB0 ho7 hgr7)
            have hk7 := Chg.of_grown (S := fun k => (Value.slice V last.ids.length cl).ownBlock = some k) hgr7 (fun k hk => .inl hk)
            have hgx : ¬ ((Value.slice V last.ids.length cl).ownBlock = some g) := fun e => by
              obtain ⟨ds, hd⟩ := own_ty2 H2.out e
              obtain ⟨es, he⟩ := own_ty2 H1.out (k := g) rfl
              exact hd.not_ (by decide) _ he
            have hbx : ¬ ((Value.slice V last.ids.length cl).ownBlock = some b4) := fun e => by
              obtain ⟨ds, hd⟩ := own_ty2 H2.out e
              exact HB6.out.not_ (by decide) _ hd
            have hzz := hB0.size
            have hC7 : (fun W : World => W.cell? ⟨g, init.length * 2 + 1, none⟩ = some (.slice V last.ids.length cl) ∧ W.cell? ⟨b4, 1, none⟩ = some (.int .i64 x.id)) w7 := ⟨(hk7.cell (Nat.lt_of_lt_of_le hg1 hzz) hgx).trans hC1.1, (hk7.cell (Nat.lt_of_lt_of_le hb4w hzz) hbx).trans hC1.2⟩
            have hfz : w7.frozen? ⟨g, init.length * 2 + 1, none⟩ = false := by
              obtain ⟨ds, hd⟩ := own_ty2 (own_chg2 (own_chg2 (S := NoM) H1.out (Chg.of_below hB0) (fun _ _ h => h)) hk7 (fun k hk e => by
                have e2 : g = k := by simpa [Value.ownBlock] using hk
                exact hgx (e2 ▸ e))) (k := g) rfl
              exact hd.frozen _
            have hcz := hC7.1
            refine wpIn_one 9 rfl (by kernel_rfl) (fun _ => hC7) (by rfl) ?_
            go_simp
            try simp only [List.getElem_toArray, List.getElem_cons_zero, List.getElem_cons_succ, Act.put, List.setIfInBounds_toArray, List.set_cons_succ, List.set_cons_zero]
            refine wpIn_one 10 rfl (by kernel_rfl) (fun _ => hC7) (by rfl) ?_
            go_simp
            try simp only [List.getElem_toArray, List.getElem_cons_zero, List.getElem_cons_succ, Act.put, List.setIfInBounds_toArray, List.set_cons_succ, List.set_cons_zero]
            refine wpIn_one 11 rfl (by kernel_rfl) (fun _ => hC7) (by rfl) ?_
            go_simp
            try simp only [List.getElem_toArray, List.getElem_cons_zero, List.getElem_cons_succ, Act.put, List.setIfInBounds_toArray, List.set_cons_succ, List.set_cons_zero]
            refine wpIn_done (by kernel_rfl) (by kernel_rfl) ?_ _
            simp only [Exit.then, Exit.inBlock]
            have hwz : w.heap.size ≤ w6.heap.size := by have := HG6.out; omega
            have hBF := (hB0.mono hwz).trans HQ.out.2
            have CHF := Lib.hid (show ∃ s q, (w7.setCell ⟨g, init.length * 2 + 1, none⟩ (.slice A7 (last.ids.length + 1) c7)).heap[cc]? = some (.chan cap (rest.map oneV).toArray false s q false) from by
              obtain ⟨s, q, h⟩ := CH6.out
              exact ⟨s, q, (hBF.block cc hcl).trans h⟩)
            have KF := Lib.hid (Chg.step (Chg.of_below (S := fun k => w.heap.size ≤ k) (b := w7.setCell ⟨g, init.length * 2 + 1, none⟩ (.slice A7 (last.ids.length + 1) c7)) (Below.refl _ _) |> fun _ => (⟨hBF.os, hBF.tape, hBF.output, hBF.size, fun k hk hs => hBF.block k (Nat.lt_of_not_le hs)⟩ : Chg (fun k => w.heap.size ≤ k) w6 _)) (fun i hi => .inr hi) K6.out)
            clear hC7 hC1 hC0 hcz hfz hk7 hgr7 ho7
            go_wp2_with fail
            go_roundw
            case rel => exact ⟨j + 1, by omega, by go_num, by omega, .inr ⟨init, ⟨last.txn, last.ids ++ [x.id]⟩, by rw [HT.out, HST.out], HQ.out.1⟩, by rw [HR.out]; exact CHF.out, KF.out⟩
            case measure => simp [intOf]; omega
    · obtain rfl : j = 20 := by omega
      go_wp2_with fail
      go_ret
      exact ⟨_, rfl, S.out.frs, CH.out, K.out⟩
end Go.Proofs.YtkcfmjlcijhieaaGreat
