/- What is in a tree, in plain Lean: its pages by walking, its shape, whether it is right. Copies of rows: texts, items, free pages. Printed by gen_cl.py. Rows of numbers: a copy, a search, one more put in: the library's functions by the shelf's contracts. -/
import Derived.Test.YtlpmjeiogdlifaaGreatQB01
import Derived.Test.YtlpmjeiogdlifaaGreatQB03
import Derived.Test.YtlpmjeiogdlifaaGreatQB04
import Derived.Test.YtlpmjeiogdlifaaGreatQB16
import Derived.Shelf.Slices.Clone
import Derived.Shelf.Slices.SearchI
import Derived.Shelf.Slices.Empties
import Derived.Shelf.Spec.SlicesInsertGrow
set_option linter.unusedSimpArgs false
set_option linter.unusedVariables false
namespace Go.Proofs.YtlpmjeiogdlifaaGreat
open Go.RowKit
attribute [local go_sem low] mk_extract
attribute [local go_sem] After.cell After.frozen mk_extract_end ByteArray.mk_append_mk
namespace Sp
def kidsI (f : Int → List (Int × Page) × Option Int) : List Int → List (Int × Page) × Option Int
  | [] => ([], none)
  | k :: ks => match f k with
    | (l, some e) => (l, some e)
    | (l, none) => (l ++ (kidsI f ks).1, (kidsI f ks).2)
def walkI (rd : Int → Page × Option Int) : Nat → Int → List (Int × Page) × Option Int
  | 0, id => if id = 0 then ([], none) else match rd id with
    | (_, some e) => ([], some e)
    | (_, none) => ([], some 12)
  | n + 1, id => if id = 0 then ([], none) else match rd id with
    | (_, some e) => ([], some e)
    | (p, none) => if p.kind ≠ 1 ∧ p.kind ≠ 2 then ([], some 12) else ((id, p) :: (kidsI (walkI rd n) p.kids).1, (kidsI (walkI rd n) p.kids).2)
def T.In (rd : Int → Page × Option Int) : (d : Nat) → T d → Prop
  | 0, t => 2 ≤ t.1 ∧ rd (t.1 : Int) = (T.page 0 t, none)
  | d + 1, t => (2 ≤ t.1 ∧ rd (t.1 : Int) = (T.page (d + 1) t, none)) ∧ ∀ c ∈ t.2, T.In rd d c.2
def T.nodes : (d : Nat) → T d → List (Int × Page)
  | 0, t => [((t.1 : Int), T.page 0 t)]
  | d + 1, t => ((t.1 : Int), T.page (d + 1) t) :: t.2.flatMap fun c => T.nodes d c.2
theorem T.In.root {rd : Int → Page × Option Int} {d : Nat} {t : T d} (h : T.In rd d t) : 2 ≤ T.id d t ∧ rd (T.id d t : Int) = (T.page d t, none) := by
  cases d with
  | zero => exact h
  | succ d => exact h.1
theorem kids_all {d : Nat} {f : Int → List (Int × Page) × Option Int} : ∀ {cs : List (Txt × T d)}, (∀ c ∈ cs, f (T.id d c.2 : Int) = (T.nodes d c.2, none)) → kidsI f (cs.map fun c => ((T.id d c.2 : Nat) : Int)) = (cs.flatMap fun c => T.nodes d c.2, none)
  | [], _ => rfl
  | c :: cs, h => by
    have ih := kids_all (cs := cs) fun c hc => h c (by simp [hc])
    rw [List.map_cons, List.flatMap_cons]
    unfold kidsI
    rw [h c (by simp), ih]
theorem walk_tree {rd : Int → Page × Option Int} : ∀ {d : Nat} {t : T d} {n : Nat}, T.In rd d t → d < n → walkI rd n (T.id d t : Int) = (T.nodes d t, none)
  | 0, t, n + 1, h, _ => by
    obtain ⟨h2, h3⟩ := h
    unfold walkI
    rw [if_neg (by show ¬ ((t.1 : Nat) : Int) = 0; omega), show rd (T.id 0 t : Int) = _ from h3]
    rfl
  | d + 1, t, n + 1, h, hd => by
    obtain ⟨⟨h2, h3⟩, h4⟩ := h
    have ih := kids_all (f := walkI rd n) fun c hc => walk_tree (h4 c hc) (show d < n by omega)
    unfold walkI
    rw [if_neg (by show ¬ ((t.1 : Nat) : Int) = 0; omega), show rd (T.id (d + 1) t : Int) = _ from h3]
    dsimp only
    rw [if_neg (by rw [show (T.page (d + 1) t).kind = 2 from rfl]; simp), show (T.page (d + 1) t).kids = t.2.map fun c => ((T.id d c.2 : Nat) : Int) from rfl, ih]
    rfl
theorem nodes_items : ∀ {d : Nat} {t : T d}, (T.nodes d t).flatMap (fun x => x.2.items) = T.items d t
  | 0, t => by simp [T.nodes, T.page, leafPg, T.items]
  | d + 1, t => by
    show (((t.1 : Nat) : Int), T.page (d + 1) t).2.items ++ (t.2.flatMap fun c => T.nodes d c.2).flatMap (fun x => x.2.items) = t.2.flatMap fun c => T.items d c.2
    rw [show (((t.1 : Nat) : Int), T.page (d + 1) t).2.items = [] from rfl, List.nil_append, List.flatMap_assoc]
    congr 1
    funext c
    exact nodes_items
theorem nodes_ids : ∀ {d : Nat} {t : T d}, (T.nodes d t).map (fun x => x.1) = (T.ids d t).map (fun i => ((i : Nat) : Int))
  | 0, t => rfl
  | d + 1, t => by
    show ((t.1 : Nat) : Int) :: (t.2.flatMap fun c => T.nodes d c.2).map (fun x => x.1) = (t.1 :: t.2.flatMap fun c => T.ids d c.2).map (fun i => ((i : Nat) : Int))
    rw [List.map_cons, List.map_flatMap, List.map_flatMap]
    congr 2
    funext c
    exact nodes_ids
def joinS : List Txt → Txt
  | [] => []
  | [x] => x
  | x :: y :: l => x ++ 32 :: joinS (y :: l)
def shKids (f : Int → Txt × Option Int) : List Int → Txt × Option Int
  | [] => ([], none)
  | k :: ks => match f k with
    | (_, some e) => ([], some e)
    | (t, none) => match shKids f ks with
      | (_, some e) => ([], some e)
      | (u, none) => (t ++ u, none)
def shapeI (rd : Int → Page × Option Int) : Nat → Int → Txt × Option Int
  | 0, id => match rd id with
    | (_, some e) => ([], some e)
    | (_, none) => ([], some 12)
  | n + 1, id => match rd id with
    | (_, some e) => ([], some e)
    | (p, none) => if p.kind = 1 then (40 :: (joinS (p.items.map fun x => x.key) ++ [41]), none) else if p.kind ≠ 2 then ([], some 12) else match shKids (shapeI rd n) p.kids with
      | (_, some e) => ([], some e)
      | (t, none) => (91 :: (t ++ [93]), none)
def T.shape : (d : Nat) → T d → Txt
  | 0, t => 40 :: (joinS (t.2.map fun x => x.key) ++ [41])
  | d + 1, t => 91 :: ((t.2.flatMap fun c => T.shape d c.2) ++ [93])
theorem shKids_all {d : Nat} {f : Int → Txt × Option Int} : ∀ {cs : List (Txt × T d)}, (∀ c ∈ cs, f (T.id d c.2 : Int) = (T.shape d c.2, none)) → shKids f (cs.map fun c => ((T.id d c.2 : Nat) : Int)) = (cs.flatMap fun c => T.shape d c.2, none)
  | [], _ => rfl
  | c :: cs, h => by
    have ih := shKids_all (cs := cs) fun c hc => h c (by simp [hc])
    rw [List.map_cons, List.flatMap_cons]
    unfold shKids
    rw [h c (by simp), ih]
theorem shape_tree {rd : Int → Page × Option Int} : ∀ {d : Nat} {t : T d} {n : Nat}, T.In rd d t → d < n → shapeI rd n (T.id d t : Int) = (T.shape d t, none)
  | 0, t, n + 1, h, _ => by
    obtain ⟨h2, h3⟩ := h
    unfold shapeI
    rw [show rd (T.id 0 t : Int) = _ from h3]
    rfl
  | d + 1, t, n + 1, h, hd => by
    obtain ⟨⟨h2, h3⟩, h4⟩ := h
    have ih := shKids_all (f := shapeI rd n) fun c hc => shape_tree (h4 c hc) (show d < n by omega)
    unfold shapeI
    rw [show rd (T.id (d + 1) t : Int) = _ from h3]
    dsimp only
    rw [if_neg (by rw [show (T.page (d + 1) t).kind = 2 from rfl]; simp), if_neg (by rw [show (T.page (d + 1) t).kind = 2 from rfl]; simp), show (T.page (d + 1) t).kids = t.2.map fun c => ((T.id d c.2 : Nat) : Int) from rfl, ih]
    rfl
def within (fr bl key : Txt) : Bool := !lt key fr && (decide (bl = []) || lt key bl)
def chkKids (f : Int → Txt → Txt → Int) (keys : List Txt) (fr bl : Txt) : List Int → Nat → Int → Int
  | [], _, lv => lv
  | k :: ks, i, lv => if f k (if 0 < i then keys.getD i [] else fr) (if i + 1 < keys.length then keys.getD (i + 1) [] else bl) < 0 ∨ (0 < lv ∧ f k (if 0 < i then keys.getD i [] else fr) (if i + 1 < keys.length then keys.getD (i + 1) [] else bl) ≠ lv) ∨ within fr bl (if 0 < i then keys.getD i [] else fr) = false then -1 else chkKids f keys fr bl ks (i + 1) (f k (if 0 < i then keys.getD i [] else fr) (if i + 1 < keys.length then keys.getD (i + 1) [] else bl))
def checksI (rd : Int → Page × Option Int) : Nat → Int → Txt → Txt → Bool → Int → Int
  | 0, _, _, _, _, _ => -1
  | n + 1, id, fr, bl, top, deep => match rd id with
    | (_, some _) => -1
    | (p, none) => if p.kind = 1 then (if (top = false ∧ p.items.length < 2) ∨ (p.items.any fun x => !within fr bl x.key) = true then -1 else deep) else if p.kind ≠ 2 then -1 else chkKids (fun k fr bl => checksI rd n k fr bl false (deep + 1)) p.keys fr bl p.kids 0 0
theorem chk_all {d : Nat} {f : Int → Txt → Txt → Int} {fr bl : Txt} {N : Int} {cs0 : List (Txt × T d)} (hN : 0 < N)
    (hf : ∀ i c, cs0[i]? = some c → f (T.id d c.2 : Int) (if 0 < i then (cs0.map (·.1)).getD i [] else fr) (if i + 1 < (cs0.map (·.1)).length then (cs0.map (·.1)).getD (i + 1) [] else bl) = N)
    (hw : ∀ i c, cs0[i]? = some c → within fr bl (if 0 < i then (cs0.map (·.1)).getD i [] else fr) = true) :
    ∀ (cs : List (Txt × T d)) (i : Nat) (lv : Int), cs0.drop i = cs → (lv = N ∨ (lv = 0 ∧ cs ≠ [])) → chkKids f (cs0.map (·.1)) fr bl (cs.map fun c => ((T.id d c.2 : Nat) : Int)) i lv = N
  | [], i, lv, _, hl => by
    rcases hl with rfl | ⟨_, h⟩
    · rfl
    · exact absurd rfl h
  | c :: cs, i, lv, hc, hl => by
    have hi : cs0[i]? = some c := by
      have := congrArg List.head? hc
      rw [List.head?_drop] at this
      simpa using this
    have h1 := hf i c hi
    have h2 := hw i c hi
    rw [List.map_cons]
    unfold chkKids
    rw [h1, h2, if_neg]
    · refine chk_all hN hf hw cs (i + 1) N ?_ (.inl rfl)
      rw [← List.drop_drop, hc]
      rfl
    · rintro (h | ⟨h, h'⟩ | h)
      · omega
      · rcases hl with rfl | ⟨e, _⟩
        · exact h' rfl
        · omega
      · cases h
theorem within_iff {fr bl key : Txt} : within fr bl key = true ↔ lt key fr = false ∧ (bl = [] ∨ lt key bl = true) := by
  unfold within
  simp
theorem checks_tree {rd : Int → Page × Option Int} : ∀ {d : Nat} {t : T d} {n : Nat} {top : Bool} {fr bl : Txt} {deep : Int}, T.In rd d t → d < n → T.Ok d top t → 0 < deep → (∀ y ∈ T.items d t, within fr bl y.key = true) → checksI rd n (T.id d t : Int) fr bl top deep = deep + d
  | 0, t, n + 1, top, fr, bl, deep, h, _, hok, hd, hb => by
    obtain ⟨h2, h3⟩ := h
    unfold checksI
    rw [show rd (T.id 0 t : Int) = _ from h3]
    dsimp only
    rw [if_pos (show (T.page 0 t).kind = 1 from rfl), if_neg]
    · simp
    · rintro (⟨rfl, h⟩ | h)
      · have := hok.2.1
        have h : t.2.length < 2 := h
        simp at this
        omega
      · obtain ⟨x, hx, h⟩ := List.any_eq_true.1 h
        rw [hb x hx] at h
        cases h
  | d + 1, t, n + 1, top, fr, bl, deep, h, hd, hok, hdp, hb => by
    obtain ⟨⟨h2, h3⟩, h4⟩ := h
    obtain ⟨o1, o2, o3, o4, o5, o6⟩ := hok
    have hne : ∀ c ∈ t.2, T.items d c.2 ≠ [] := fun c hc => (o6 c hc).ne
    have hke : KeysRise t.2 := parted_keys o4 hne
    have hit : ∀ c ∈ t.2, ∀ y ∈ T.items d c.2, within fr bl y.key = true := fun c hc y hy => hb y (List.mem_flatMap.2 ⟨c, hc, hy⟩)
    have hgk : ∀ i c, t.2[i]? = some c → (t.2.map (·.1)).getD i [] = c.1 := fun i c hc => by
      rw [List.getD_eq_getElem?_getD, List.getElem?_map, hc]; rfl
    have hkw : ∀ i c, t.2[i]? = some c → 0 < i → within fr bl c.1 = true := fun i c hc hi => by
      obtain ⟨hlt, rfl⟩ := List.getElem?_eq_some_iff.1 hc
      have hp : t.2[i - 1] ∈ t.2 := List.getElem_mem (by omega)
      obtain ⟨y, hy⟩ := List.exists_mem_of_ne_nil _ (hne _ hp)
      obtain ⟨z, hz⟩ := List.exists_mem_of_ne_nil _ (hne _ (List.getElem_mem hlt))
      have a := (within_iff.1 (hit _ hp y hy)).1
      have b := List.pairwise_iff_getElem.1 o4.1 (i - 1) i (by omega) hlt (by omega) y hy
      have c := o4.2 _ (List.getElem_mem hlt) z hz
      have e := (within_iff.1 (hit _ (List.getElem_mem hlt) z hz)).2
      refine within_iff.2 ⟨?_, ?_⟩
      · exact lt_asymm (le_lt a b)
      · rcases e with e | e
        · exact .inl e
        · exact .inr (le_lt c e)
    have hfr : within fr bl fr = true := by
      obtain ⟨c, hc⟩ := List.exists_mem_of_length_pos (show 0 < t.2.length by omega)
      obtain ⟨y, hy⟩ := List.exists_mem_of_ne_nil _ (hne _ hc)
      obtain ⟨a, b⟩ := within_iff.1 (hit c hc y hy)
      refine within_iff.2 ⟨lt_irr fr, ?_⟩
      rcases b with e | e
      · exact .inl e
      · exact .inr (le_lt a e)
    unfold checksI
    rw [show rd (T.id (d + 1) t : Int) = _ from h3]
    dsimp only
    rw [if_neg (by rw [show (T.page (d + 1) t).kind = 2 from rfl]; simp), if_neg (by rw [show (T.page (d + 1) t).kind = 2 from rfl]; simp), show (T.page (d + 1) t).kids = t.2.map fun c => ((T.id d c.2 : Nat) : Int) from rfl, show (T.page (d + 1) t).keys = t.2.map (·.1) from rfl]
    refine (chk_all (N := deep + 1 + d) (cs0 := t.2) (by omega) ?_ ?_ t.2 0 0 rfl (.inr ⟨rfl, fun e => by rw [e] at o1; simp at o1⟩)).trans (by omega)
    · intro i c hc
      have hcm := List.mem_of_getElem? hc
      refine checks_tree (h4 c hcm) (by omega) (o6 c hcm) (by omega) fun y hy => ?_
      obtain ⟨a, b⟩ := within_iff.1 (hit c hcm y hy)
      refine within_iff.2 ⟨?_, ?_⟩
      · split
        · rw [hgk i c hc]; exact o4.2 c hcm y hy
        · exact a
      · split
        · rename_i hi
          rw [List.length_map] at hi
          rw [hgk (i + 1) _ (List.getElem?_eq_getElem hi)]
          obtain ⟨hlt, e⟩ := List.getElem?_eq_some_iff.1 hc
          exact .inr (List.pairwise_iff_getElem.1 o4.1 i (i + 1) hlt hi (by omega) y (by rw [e]; exact hy))
        · exact b
    · intro i c hc
      split
      · rename_i hi
        rw [hgk i c hc]; exact hkw i c hc hi
      · exact hfr
end Sp
end Go.Proofs.YtlpmjeiogdlifaaGreat
namespace Go.Proofs.YtlpmjeiogdlifaaGreat
open Go.RowKit
attribute [local go_sem low] mk_extract
attribute [local go_sem] After.cell After.frozen mk_extract_end ByteArray.mk_append_mk
theorem cell_blk {w : World} {a : Addr} {u : Value} (h : w.cell? a = some u) : a.block < w.heap.size := by
  unfold World.cell? at h
  cases hq : w.heap[a.block]? with
  | none => simp [hq] at h
  | some o => exact (Array.getElem?_eq_some_iff.1 hq).1
set_option maxRecDepth 100000 in
set_option maxHeartbeats 1600000 in
theorem cloneS_any (A : Option Addr) (n c : Nat) (xs : List Value) (w : World) (hl : xs.length = n * 1) (hA : A = none → n = 0) (hc : ∀ a, A = some a → ∀ j u, xs[j]? = some u → w.cell? (a.add j) = some u) (h1 : ∀ u ∈ xs, u.oneCell' = true) (hn : n ≤ 1000000) :
    Calls Tryz.prog 46 #[.slice A n c] w fun e w' => ∃ u', e = .returned u' ∧ w'.ownsRow w.heap.size StrT 1 u' n xs ∧ Below w.heap.size w w' := by
  obtain ⟨i0, hi0, hz0, hz1, hz2⟩ := info_parts info_str
  have hnl := fun W => Lib.run_eql_slice_nil (P := Tryz.prog) W 31 _ A n c 0 0 Tryz.underlying31
  rcases A with _ | a
  · obtain rfl := hA rfl
    obtain rfl : xs = [] := List.eq_nil_of_length_eq_zero (by omega)
    clear hA hc h1 hl hn
    go_enter Tryz.func46, Tryz.ntmps46
    go_wp2_with fail
    go_ret
    exact ⟨_, rfl, ⟨rfl, .inl ⟨rfl, rfl⟩⟩, Below.refl _ _⟩
  · have HC := Lib.hid (fun j u hu => hc a rfl j u hu)
    have HL := Lib.hid hl
    have H1 := Lib.hid h1
    have HN := Lib.hid hn
    clear hA hc h1 hl hn
    go_enter Tryz.func46, Tryz.ntmps46
    go_wp2_with (at_builtin; refine wpList_append_own _ rfl _ _ 31 rfl w.heap.size StrT i0 _ 1 16 Tryz.underlying31 hi0 hz0 hz1 hz2 rfl (by decide) _ 0 [] rfl ?c0 a n c xs rfl ?c6 ?c1 ?c2 ?c3 ?c4 ?c5 ?_)
    case c0 => exact ⟨rfl, .inr ⟨w.heap.size, 0, #[], rfl, Nat.le_refl _, heap_alloc_new _ _, Nat.le_refl _, by simp [maxLen], rfl, rfl⟩⟩
    case c6 => exact HL.out
    case c1 =>
      intro j u hu
      have h := HC.out j u hu
      have hal : Below w.heap.size w (w.alloc (.cells #[] StrT)) := (Below.refl _ _).alloc (Nat.le_refl _) _
      exact (hal.cell (p := a.add j) (cell_blk h)).trans h
    case c2 => exact H1.out
    case c3 => have := HN.out; simp only [maxLen]; omega
    case c4 => have := HN.out; omega
    case c5 => simp
    intro v' w' hown' hgr' hnil
    have hb2 : Below w.heap.size w w' := by
      have h1 : Below w.heap.size w (w.alloc (.cells #[] StrT)) := (Below.refl _ _).alloc (Nat.le_refl _) _
      exact h1.trans (Chg.below (S := fun k => some w.heap.size = some k) (Chg.of_grown hgr' (fun k hk => .inl (by simpa [Value.ownBlock] using hk))) (by simp) (fun k hk e => by simp at e; omega))
    have HB := Lib.hid hb2
    have HO := Lib.hid (show w'.ownsRow w.heap.size StrT 1 v' n xs by simpa using hown')
    clear hown' hgr' hb2 hnil
    go_wp2_with fail
    go_ret
    exact ⟨v', rfl, HO.out, HB.out⟩
set_option maxRecDepth 100000 in
set_option maxHeartbeats 1600000 in
theorem cloneM_any (A : Option Addr) (n c : Nat) (xs : List Value) (w : World) (hl : xs.length = n * 10) (hA : A = none → n = 0) (hc : ∀ a, A = some a → ∀ j u, xs[j]? = some u → w.cell? (a.add j) = some u) (h1 : ∀ u ∈ xs, u.oneCell' = true) (hn : n ≤ 1000000) :
    Calls Tryz.prog 124 #[.slice A n c] w fun e w' => ∃ u', e = .returned u' ∧ w'.ownsRow w.heap.size ItemT 10 u' n xs ∧ Below w.heap.size w w' := by
  obtain ⟨i0, hi0, hz0, hz1, hz2⟩ := info_parts info_item
  have hnl := fun W => Lib.run_eql_slice_nil (P := Tryz.prog) W 36 _ A n c 0 0 Tryz.underlying36
  rcases A with _ | a
  · obtain rfl := hA rfl
    obtain rfl : xs = [] := List.eq_nil_of_length_eq_zero (by omega)
    clear hA hc h1 hl hn
    go_enter Tryz.func124, Tryz.ntmps124
    go_wp2_with fail
    go_ret
    exact ⟨_, rfl, ⟨rfl, .inl ⟨rfl, rfl⟩⟩, Below.refl _ _⟩
  · have HC := Lib.hid (fun j u hu => hc a rfl j u hu)
    have HL := Lib.hid hl
    have H1 := Lib.hid h1
    have HN := Lib.hid hn
    clear hA hc h1 hl hn
    go_enter Tryz.func124, Tryz.ntmps124
    go_wp2_with (at_builtin; refine wpList_append_own _ rfl _ _ 36 rfl w.heap.size ItemT i0 _ 10 112 Tryz.underlying36 hi0 hz0 hz1 hz2 rfl (by decide) _ 0 [] rfl ?c0 a n c xs rfl ?c6 ?c1 ?c2 ?c3 ?c4 ?c5 ?_)
    case c0 => exact ⟨rfl, .inr ⟨w.heap.size, 0, #[], rfl, Nat.le_refl _, heap_alloc_new _ _, Nat.le_refl _, by simp [maxLen], rfl, rfl⟩⟩
    case c6 => exact HL.out
    case c1 =>
      intro j u hu
      have h := HC.out j u hu
      have hal : Below w.heap.size w (w.alloc (.cells #[] ItemT)) := (Below.refl _ _).alloc (Nat.le_refl _) _
      exact (hal.cell (p := a.add j) (cell_blk h)).trans h
    case c2 => exact H1.out
    case c3 => have := HN.out; simp only [maxLen]; omega
    case c4 => have := HN.out; omega
    case c5 => simp
    intro v' w' hown' hgr' hnil
    have hb2 : Below w.heap.size w w' := by
      have h1 : Below w.heap.size w (w.alloc (.cells #[] ItemT)) := (Below.refl _ _).alloc (Nat.le_refl _) _
      exact h1.trans (Chg.below (S := fun k => some w.heap.size = some k) (Chg.of_grown hgr' (fun k hk => .inl (by simpa [Value.ownBlock] using hk))) (by simp) (fun k hk e => by simp at e; omega))
    have HB := Lib.hid hb2
    have HO := Lib.hid (show w'.ownsRow w.heap.size ItemT 10 v' n xs by simpa using hown')
    clear hown' hgr' hb2 hnil
    go_wp2_with fail
    go_ret
    exact ⟨v', rfl, HO.out, HB.out⟩
set_option maxRecDepth 100000 in
set_option maxHeartbeats 1600000 in
theorem cloneF_any (A : Option Addr) (n c : Nat) (xs : List Value) (w : World) (hl : xs.length = n * 2) (hA : A = none → n = 0) (hc : ∀ a, A = some a → ∀ j u, xs[j]? = some u → w.cell? (a.add j) = some u) (h1 : ∀ u ∈ xs, u.oneCell' = true) (hn : n ≤ 1000000) :
    Calls Tryz.prog 125 #[.slice A n c] w fun e w' => ∃ u', e = .returned u' ∧ w'.ownsRow w.heap.size FreeT 2 u' n xs ∧ Below w.heap.size w w' := by
  obtain ⟨i0, hi0, hz0, hz1, hz2⟩ := info_parts info_free
  have hnl := fun W => Lib.run_eql_slice_nil (P := Tryz.prog) W 54 _ A n c 0 0 Tryz.underlying54
  rcases A with _ | a
  · obtain rfl := hA rfl
    obtain rfl : xs = [] := List.eq_nil_of_length_eq_zero (by omega)
    clear hA hc h1 hl hn
    go_enter Tryz.func125, Tryz.ntmps125
    go_wp2_with fail
    go_ret
    exact ⟨_, rfl, ⟨rfl, .inl ⟨rfl, rfl⟩⟩, Below.refl _ _⟩
  · have HC := Lib.hid (fun j u hu => hc a rfl j u hu)
    have HL := Lib.hid hl
    have H1 := Lib.hid h1
    have HN := Lib.hid hn
    clear hA hc h1 hl hn
    go_enter Tryz.func125, Tryz.ntmps125
    go_wp2_with (at_builtin; refine wpList_append_own _ rfl _ _ 54 rfl w.heap.size FreeT i0 _ 2 32 Tryz.underlying54 hi0 hz0 hz1 hz2 rfl (by decide) _ 0 [] rfl ?c0 a n c xs rfl ?c6 ?c1 ?c2 ?c3 ?c4 ?c5 ?_)
    case c0 => exact ⟨rfl, .inr ⟨w.heap.size, 0, #[], rfl, Nat.le_refl _, heap_alloc_new _ _, Nat.le_refl _, by simp [maxLen], rfl, rfl⟩⟩
    case c6 => exact HL.out
    case c1 =>
      intro j u hu
      have h := HC.out j u hu
      have hal : Below w.heap.size w (w.alloc (.cells #[] FreeT)) := (Below.refl _ _).alloc (Nat.le_refl _) _
      exact (hal.cell (p := a.add j) (cell_blk h)).trans h
    case c2 => exact H1.out
    case c3 => have := HN.out; simp only [maxLen]; omega
    case c4 => have := HN.out; omega
    case c5 => simp
    intro v' w' hown' hgr' hnil
    have hb2 : Below w.heap.size w w' := by
      have h1 : Below w.heap.size w (w.alloc (.cells #[] FreeT)) := (Below.refl _ _).alloc (Nat.le_refl _) _
      exact h1.trans (Chg.below (S := fun k => some w.heap.size = some k) (Chg.of_grown hgr' (fun k hk => .inl (by simpa [Value.ownBlock] using hk))) (by simp) (fun k hk e => by simp at e; omega))
    have HB := Lib.hid hb2
    have HO := Lib.hid (show w'.ownsRow w.heap.size FreeT 2 v' n xs by simpa using hown')
    clear hown' hgr' hb2 hnil
    go_wp2_with fail
    go_ret
    exact ⟨v', rfl, HO.out, HB.out⟩
end Go.Proofs.YtlpmjeiogdlifaaGreat
namespace Go.Proofs.YtlpmjeiogdlifaaGreat
open Go.RowKit
attribute [local go_sem low] mk_extract
attribute [local go_sem] After.cell After.frozen mk_extract_end ByteArray.mk_append_mk
def renClone : Go.Shelf.Ren := ⟨fun | 15 => 72 | n => n, fun | 22 => 32 | 3 => 3 | 4 => 4 | n => n, fun | n => n⟩
theorem layClone : Lays2.n15 Tryz.prog renClone := {
  mixed := by kernel_rfl
  f15 := Tryz.func72.trans (congrArg some (by kernel_rfl))
  t3 := Tryz.underlying3
  a3 := Tryz.isAgg3
  z3 := Tryz.sizeOf3
  v3 := Tryz.zeroValue3
  t4 := Tryz.underlying4
  a4 := Tryz.isAgg4
  z4 := Tryz.sizeOf4
  v4 := Tryz.zeroValue4
  t22 := Tryz.underlying32
  a22 := Tryz.isAgg32
  z22 := Tryz.sizeOf32
  v22 := Tryz.zeroValue32
  i3 := by kernel_rfl }
def renSearch : Go.Shelf.Ren := ⟨fun | 25 => 91 | 31 => 151 | 32 => 152 | 37 => 197 | n => n, fun | 22 => 32 | 3 => 3 | 4 => 4 | 0 => 0 | 40 => 170 | n => n, fun | n => n⟩
theorem laySearch : Lays2.n25 Tryz.prog renSearch := {
  mixed := by kernel_rfl
  f25 := Tryz.func91.trans (congrArg some (by kernel_rfl))
  f31 := Tryz.func151.trans (congrArg some (by kernel_rfl))
  f32 := Tryz.func152.trans (congrArg some (by kernel_rfl))
  f37 := Tryz.func197.trans (congrArg some (by kernel_rfl))
  t0 := Tryz.underlying0
  a0 := Tryz.isAgg0
  z0 := Tryz.sizeOf0
  v0 := Tryz.zeroValue0
  t3 := Tryz.underlying3
  a3 := Tryz.isAgg3
  z3 := Tryz.sizeOf3
  v3 := Tryz.zeroValue3
  t4 := Tryz.underlying4
  a4 := Tryz.isAgg4
  z4 := Tryz.sizeOf4
  v4 := Tryz.zeroValue4
  t22 := Tryz.underlying32
  a22 := Tryz.isAgg32
  z22 := Tryz.sizeOf32
  v22 := Tryz.zeroValue32
  t40 := Tryz.underlying170
  a40 := Tryz.isAgg170
  z40 := Tryz.sizeOf170
  v40 := Tryz.zeroValue170 }
def renInsert : Go.Shelf.Ren := ⟨fun | 21 => 92 | 27 => 153 | 28 => 154 | 35 => 198 | 39 => 235 | n => n, fun | 22 => 32 | 3 => 3 | 4 => 4 | 0 => 0 | n => n, fun | n => n⟩
theorem layInsert : Lays2.n21 Tryz.prog renInsert := {
  mixed := by kernel_rfl
  f21 := Tryz.func92.trans (congrArg some (by kernel_rfl))
  f27 := Tryz.func153.trans (congrArg some (by kernel_rfl))
  f28 := Tryz.func154.trans (congrArg some (by kernel_rfl))
  f35 := Tryz.func198.trans (congrArg some (by kernel_rfl))
  f39 := Tryz.func235.trans (congrArg some (by kernel_rfl))
  t0 := Tryz.underlying0
  a0 := Tryz.isAgg0
  z0 := Tryz.sizeOf0
  v0 := Tryz.zeroValue0
  t3 := Tryz.underlying3
  a3 := Tryz.isAgg3
  z3 := Tryz.sizeOf3
  v3 := Tryz.zeroValue3
  t4 := Tryz.underlying4
  a4 := Tryz.isAgg4
  z4 := Tryz.sizeOf4
  v4 := Tryz.zeroValue4
  t22 := Tryz.underlying32
  a22 := Tryz.isAgg32
  z22 := Tryz.sizeOf32
  v22 := Tryz.zeroValue32
  i3 := by kernel_rfl }
structure IV (w : World) (u : Value) (L : List Int) : Prop where
  form : ∃ A c, u = .slice A L.length c ∧ ((A = none ∧ L = []) ∨ ∃ b off, A = some ⟨b, off, none⟩ ∧ ∀ j, j < L.length → w.cell? ⟨b, off + j, none⟩ = some (.int .i64 (L.getD j 0)))
  len : L.length ≤ 100000
theorem own_iv {w : World} {base : Nat} {u : Value} {L : List Int} (h : w.ownsRow base IntT 1 u L.length (L.map iv)) (hn : L.length ≤ 100000) : IV w u L := by
  refine ⟨?_, hn⟩
  rcases h.2 with ⟨rfl, h0⟩ | ⟨g, cap, cur, rfl, _, hh, hnc, _, hcs, ht⟩
  · exact ⟨none, 0, by rw [h0], .inl ⟨rfl, List.eq_nil_of_length_eq_zero h0⟩⟩
  · refine ⟨_, cap, rfl, .inr ⟨g, 0, rfl, fun j hj => ?_⟩⟩
    rw [Nat.zero_add]
    have hb : Blk w g IntT cur := hh
    refine (hb.cell j).trans ?_
    have : (cur.toList.take (L.length * 1))[j]? = (L.map iv)[j]? := by rw [ht]
    rw [List.getElem?_take, if_pos (by omega), List.getElem?_map, List.getElem?_eq_getElem hj] at this
    rw [← Array.getElem?_toList, this]
    simp [iv, List.getD, hj]
theorem cloneI_any {w : World} {u : Value} {L : List Int} (h : IV w u L) :
    Calls Tryz.prog 72 #[u] w fun e w' => ∃ u', e = .returned u' ∧ w'.ownsRow w.heap.size IntT 1 u' L.length (L.map iv) ∧ Below w.heap.size w w' := by
  obtain ⟨A, c, rfl, h1⟩ := h.form
  have hl := h.len
  rcases h1 with ⟨rfl, rfl⟩ | ⟨b, off, rfl, hc⟩
  · exact (Any.slices_Clone_int_nil layClone 0 c w).mono fun e w' ⟨h1, h2⟩ => ⟨_, h1, ⟨rfl, .inl ⟨rfl, rfl⟩⟩, h2 ▸ Below.refl _ _⟩
  · refine (Any.slices_Clone_int layClone b off L.length c L w (Nat.le_refl _) (by omega) hc).mono fun e w' ⟨u', h1, h2, _, h3⟩ => ⟨u', h1, ?_, h3⟩
    rw [List.take_length] at h2
    exact h2
def Sp.posI (x : Int) (L : List Int) : Nat := L.countP (· < x)
theorem searchI_any {w : World} {u : Value} {L : List Int} (x : Int) (h : IV w u L) (hs : L.Pairwise (· < ·)) :
    Calls Tryz.prog 91 #[u, .int .i64 x] w fun e w' => e = .returned (.tuple #[.int .i64 (Sp.posI x L : Nat), .bool (L.contains x)]) ∧ Below w.heap.size w w' := by
  obtain ⟨A, c, rfl, h1⟩ := h.form
  have hl := h.len
  rcases h1 with ⟨rfl, rfl⟩ | ⟨b, off, rfl, hc⟩
  · exact (Any.slices_BinarySearch_int_empty laySearch none c x w).mono fun e w' ⟨h1, h2⟩ => ⟨h1, h2 ▸ Below.refl _ _⟩
  · refine (Any.slices_BinarySearch_int laySearch b off L.length c L x w (Nat.le_refl _) (by omega) hc (by rw [List.take_length]; exact hs.imp fun h => Int.le_of_lt h)).mono fun e w' ⟨h1, q, h2⟩ => ⟨?_, ?_⟩
    · rw [List.take_length] at h1
      exact h1
    · rw [h2]
      exact below_drewN (Below.refl _ _) q
def spl (cur : List Value) (o : Nat) (vs : List Value) : List Value := cur.take o ++ vs ++ cur.drop (o + vs.length)
theorem blk_setCells {g : Nat} {t : TypeId} : ∀ (vs : List Value) (o : Nat) {w : World} {cur : List Value}, Blk w g t cur.toArray → o + vs.length ≤ cur.length → Blk (w.setCells g o vs) g t (spl cur o vs).toArray
  | [], o, w, cur, h, _ => by
    show Blk w g t _
    unfold spl
    rw [List.append_nil, List.length_nil, Nat.add_zero, List.take_append_drop]
    exact h
  | v :: r, o, w, cur, h, hl => by
    rw [List.length_cons] at hl
    have h1 := h.set_ o v
    rw [List.setIfInBounds_toArray] at h1
    have h2 := blk_setCells r (o + 1) h1 (by rw [List.length_set]; omega)
    have e : spl (cur.set o v) (o + 1) r = spl cur o (v :: r) := by
      unfold spl
      have hlt : o < cur.length := by omega
      rw [List.take_set, List.take_succ_eq_append_getElem hlt, List.set_append, List.length_take, Nat.min_eq_left (Nat.le_of_lt hlt), if_neg (Nat.lt_irrefl _), Nat.sub_self, List.set_cons_zero, List.drop_set, if_pos (by omega), List.length_cons, show o + 1 + r.length = o + (r.length + 1) by omega]
      simp
    rw [e] at h2
    exact h2
theorem chg_setCells {g : Nat} : ∀ (vs : List Value) (o : Nat) (w : World), Chg (OneM g) w (w.setCells g o vs)
  | [], _, _ => Chg.refl _ _
  | v :: r, o, w => (Chg.set1 w g o v).trans (chg_setCells r (o + 1) _)
end Go.Proofs.YtlpmjeiogdlifaaGreat
