/- TreeSpoilt in plain Lean: a page of the tree that is spoilt is met. TreeSpoilt: the walk. TreeSpoilt: whatever the input: true; the input reads as it did. -/
import Derived.Test.YtlpmjeiogdlifaaGreatQB00
import Derived.Test.YtlpmjeiogdlifaaGreatQB11
import Derived.Test.YtlpmjeiogdlifaaGreatQB36
import Derived.SizedLaws
set_option linter.unusedSimpArgs false
set_option linter.unusedVariables false
namespace Go.Proofs.YtlpmjeiogdlifaaGreat
open Go.RowKit
attribute [local go_sem low] mk_extract
attribute [local go_sem] After.cell After.frozen mk_extract_end ByteArray.mk_append_mk
namespace Sp
theorem kidsI_bad {f : Int → List (Int × Page) × Option Int} {k : Int} : ∀ {ks : List Int}, k ∈ ks → (f k).2 ≠ none → (kidsI f ks).2 ≠ none
  | j :: js, h, hk => by
    rw [kidsI_cons]
    rcases hj : f j with ⟨l, _ | e⟩
    · dsimp only
      rcases List.mem_cons.1 h with rfl | h
      · rw [hj] at hk; exact absurd rfl hk
      · exact kidsI_bad h hk
    · simp
def BadAt (rd : Int → Page × Option Int) (k : Int) : Prop := (∃ p e, rd k = (p, some e)) ∨ ∃ p, rd k = (p, none) ∧ p.kind ≠ 1 ∧ p.kind ≠ 2
theorem walk_bad {rd rd' : Int → Page × Option Int} {k : Nat} (h2 : 2 ≤ k) (hb : BadAt rd' (k : Int)) (ho : ∀ i : Int, i ≠ (k : Int) → rd' i = rd i) : ∀ {d : Nat} {t : T d} {n : Nat}, T.In rd d t → d < n → k ∈ T.ids d t → (walkI rd' n (T.id d t : Int)).2 ≠ none
  | d, t, n + 1, h, hd, hk => by
    by_cases he : T.id d t = k
    · rw [he]
      have h0 : (k : Int) ≠ 0 := by omega
      rcases hb with ⟨p, e, hr⟩ | ⟨p, hr, hp⟩
      · rw [walkI_err h0 hr]; simp
      · rw [walkI_kind h0 hr hp]; simp
    · have h0 : (T.id d t : Int) ≠ 0 := by have := h.root.1; omega
      have hr : rd' (T.id d t : Int) = (T.page d t, none) := by rw [ho _ (by omega)]; exact h.root.2
      match d, t, h, hd, hk, he, h0, hr with
      | 0, t, h, hd, hk, he, h0, hr =>
        have : k = t.1 := by simpa [T.ids] using hk
        exact absurd this.symm he
      | d + 1, t, h, hd, hk, he, h0, hr =>
        rw [walkI_go h0 hr (.inr rfl)]
        rcases List.mem_cons.1 hk with e | hk
        · exact absurd e.symm he
        · obtain ⟨c, hc, hk⟩ := List.mem_flatMap.1 hk
          exact kidsI_bad (List.mem_map.2 ⟨c, hc, rfl⟩) (walk_bad h2 hb ho (h.2 c hc) (by omega) hk)
def setV (V : List Txt) (k : Nat) (x : Txt) : List Txt := V.set k x
theorem atV_set {V : List Txt} {k : Nat} {x : Txt} (hk : k < V.length) (i : Int) : atV (setV V k x) i = if i = (k : Int) then x else atV V i := by
  unfold atV setV
  by_cases h : i < 0
  · rw [if_pos h, if_pos h, if_neg (by omega)]
  · rw [if_neg h, if_neg h, List.getD_eq_getElem?_getD, List.getD_eq_getElem?_getD]
    by_cases he : i = (k : Int)
    · subst he
      rw [if_pos rfl, Int.toNat_natCast, List.getElem?_set_self hk]
      rfl
    · rw [if_neg he, List.getElem?_set_ne (by omega)]
def ovP : Page := ⟨3, [], [], [], [116], [], [], 0, mt0⟩
def spoil (how : Nat) (s : Txt) : Txt := if how % 3 = 0 then s ++ [120] else if how % 3 = 1 then [] else bytes ovP
theorem ovP_is : isPage ovP = true := by decide +kernel
theorem read_new2 {l : Int} {V : List Txt} {i : Int} (h2 : 2 ≤ i) (h4 : i < 400) : (Sto.new l 400 []).read V i = readF (atV V i) := by
  unfold Sto.read
  have : (Sto.new l 400 []).most = 400 := rfl
  rw [if_neg (by rw [this]; omega)]
  rfl
theorem spoil_read {s : Txt} (h : readOk s = true) (how : Nat) : (∃ p e, readF (spoil how s) = (p, some e)) ∨ ∃ p, readF (spoil how s) = (p, none) ∧ p.kind = 3 ∧ p.items = [] := by
  obtain ⟨h1, h2⟩ := readOk_page h
  unfold spoil
  by_cases h0 : how % 3 = 0
  · rw [if_pos h0]
    refine .inl ⟨pg0, 12, ?_⟩
    have hp : parse (s ++ [120]) = parse s := by
      conv => lhs; rw [← h2]
      exact parse_app h1 (parse_rng s) [120]
    unfold readF
    rw [if_neg]
    unfold readOk
    rw [hp, h2]
    simp
  · rw [if_neg h0]
    by_cases h3 : how % 3 = 1
    · rw [if_pos h3]
      exact .inl ⟨pg0, 12, rfl⟩
    · rw [if_neg h3]
      have hr : Rng ovP := ⟨fun f hf => (by cases hf), Int.le_refl 0, (show (0 : Int) < 18446744073709551616 by decide)⟩
      refine .inr ⟨ovP, ?_, rfl, rfl⟩
      unfold readF
      rw [if_pos (readOk_bytes ovP_is hr), parse_bytes ovP_is hr]
section
variable {keys : List Nat} {P : List Page} {k how : Nat}
theorem spoilt_vals (h : TreeAt keys P) (hn : keys.length ≤ 120) (h2 : 2 ≤ k) (hk : k < P.length + 2) :
    ValsP (setV ([[], []] ++ P.map bytes) k (spoil how (atV ([[], []] ++ P.map bytes) (k : Int)))) (Sto.new ((P.length + 2 : Nat) : Int) 400 []) := by
  have hv := tree_vals h hn
  have hlen := h.len
  obtain ⟨x, _, _, hx⟩ := tree_node h hn (i := (k : Int)) (by omega) (by omega)
  obtain ⟨_, _, hok, _⟩ := read_new hx
  have hkl : k < ([[], []] ++ P.map bytes).length := by simp; omega
  refine ⟨new_right _ _ _, fun i p hr => ?_⟩
  obtain ⟨a2, a4, a3, _⟩ := read_new hr
  have a4 : i < 400 := a4
  rw [read_new2 a2 a4, atV_set hkl] at hr
  by_cases he : i = (k : Int)
  · rw [if_pos he] at hr
    rcases spoil_read hok how with ⟨p, e, hs⟩ | ⟨p, hs, _, hi⟩
    · rw [hs] at hr; cases hr
    · rw [hs] at hr
      cases hr
      rw [hi]
      intro y hy
      cases hy
  · rw [if_neg he] at hr
    refine hv.vl i _ ?_
    rw [read_new2 a2 a4]
    exact hr
theorem spoilt_bad (h : TreeAt keys P) (hn : keys.length ≤ 120) (h2 : 2 ≤ k) (hk : k < P.length + 2) :
    (walkI ((Sto.new ((P.length + 2 : Nat) : Int) 400 []).read (setV ([[], []] ++ P.map bytes) k (spoil how (atV ([[], []] ++ P.map bytes) (k : Int))))) 8 ((Rt.root (treeN keys).1 : Nat) : Int)).2 ≠ none := by
  have hw := whole_new h hn
  have hlen := h.len
  obtain ⟨x, hxm, hxk, hx⟩ := tree_node h hn (i := (k : Int)) (by omega) (by omega)
  obtain ⟨_, _, hok, _⟩ := read_new hx
  have hkl : k < ([[], []] ++ P.map bytes).length := by simp; omega
  have hsm : (Rt.items (treeN keys).1).length < 256 := by
    rw [h.items, List.length_map]
    have := numsOf_len keys
    omega
  rcases ho : (treeN keys).1 with _ | r
  · rw [ho] at hxm; cases hxm
  · have hlv := hw.lev hsm ho
    have hin := (hw.tr r ho).1.inn
    refine walk_bad h2 ?_ ?_ hin hlv ?_
    · unfold BadAt
      rw [read_new2 (by omega) (by omega), atV_set hkl, if_pos rfl]
      rcases spoil_read hok how with hs | ⟨p, hs, h3, _⟩
      · exact .inl hs
      · exact .inr ⟨p, hs, by omega, by omega⟩
    · intro i hi
      by_cases hr : i < 2 ∨ (400 : Int) ≤ i
      · have hm : (Sto.new ((P.length + 2 : Nat) : Int) 400 []).most = 400 := rfl
        unfold Sto.read
        rw [if_pos (by rw [hm]; exact hr), if_pos (by rw [hm]; exact hr)]
      · rw [read_new2 (by omega) (by omega), read_new2 (by omega) (by omega), atV_set hkl, if_neg hi]
    · have hm : x.1 ∈ (Rt.nodes (treeN keys).1).map (fun x => x.1) := List.mem_map.2 ⟨x, hxm, rfl⟩
      rw [Rt.nodes_ids, ho, hxk] at hm
      obtain ⟨j, hj, e⟩ := List.mem_map.1 hm
      obtain rfl : j = k := by omega
      exact hj
end
end Sp
structure B9 (w W : World) (t : Nat) (rt : Int) (V : List Txt) (s : Sp.Sto) : Prop where
  st : ∃ M f m d fv, StAt W M t f m d fv V s
  ok : s.Ok
  hV : V.length ≤ 400
  vs : ValsP V s
  r0 : rt ≠ 0
  bad : ∃ k, (Sp.walkI (s.read V) 8 rt).2 = some k
  hb : Below w.heap.size w W
section
variable {w W W' : World} {t : Nat} {rt : Int} {V : List Txt} {s : Sp.Sto}
theorem B9.go (h : B9 w W t rt V s) (hb : Below W.heap.size W W') : B9 w W' t rt V s := by
  obtain ⟨M, f, m, d, fv, hs⟩ := h.st
  exact ⟨⟨M, f, m, d, fv, hs.go hb⟩, h.ok, h.hV, h.vs, h.r0, h.bad, h.hb.trans (hb.mono h.hb.size)⟩
theorem B9.right (h : B9 w W t rt V s) : Calls Tryz.prog 20 #[.pointer (some ⟨t, 0, none⟩), .int .i64 rt] W fun e W' => e = .returned (.bool false) ∧ Below W.heap.size W W' := by
  obtain ⟨M, f, m, d, fv, hs⟩ := h.st
  obtain ⟨k, hk⟩ := h.bad
  refine (right_any M t f m d fv V s _ W hs h.ok h.hV h.vs).mono ?_
  rintro e W' ⟨h3, hb⟩
  exact ⟨by rw [h3, Sp.right_err h.r0 hk], hb⟩
theorem B9.pages (h : B9 w W t rt V s) : Calls Tryz.prog 23 #[.pointer (some ⟨t, 0, none⟩), .int .i64 rt] W fun e W' => (∃ A n c k, e = .returned (.tuple #[.slice A n c, .iface ErrT (.int .i64 k)])) ∧ Below W.heap.size W W' := by
  obtain ⟨M, f, m, d, fv, hs⟩ := h.st
  obtain ⟨k, hk⟩ := h.bad
  refine (pages_any M t f m d fv V s _ W hs h.ok h.hV h.vs).mono ?_
  rintro e W' ⟨A, c, h1, _, hb⟩
  exact ⟨⟨A, _, c, k, by rw [h1, hk]; rfl⟩, hb⟩
theorem B9.list (h : B9 w W t rt V s) : Calls Tryz.prog 19 #[.pointer (some ⟨t, 0, none⟩), .int .i64 rt] W fun e W' => (∃ k, e = .returned (.tuple #[.slice none 0 0, .iface ErrT (.int .i64 k)])) ∧ Below W.heap.size W W' := by
  obtain ⟨M, f, m, d, fv, hs⟩ := h.st
  obtain ⟨k, hk⟩ := h.bad
  refine (treeList_any M t f m d fv V s _ W hs h.ok h.hV h.vs.rt.small).mono ?_
  rintro e W' ⟨h3, hb⟩
  unfold ListIs at h3
  rcases hw : Sp.walkI (s.read V) 8 rt with ⟨l, er⟩
  rw [hw] at h3 hk
  obtain rfl : er = some k := hk
  exact ⟨⟨k, h3⟩, hb⟩
end
end Go.Proofs.YtlpmjeiogdlifaaGreat
namespace Go.Proofs.YtlpmjeiogdlifaaGreat
open Go.RowKit
attribute [local go_sem low] mk_extract
attribute [local go_sem] After.cell After.frozen mk_extract_end ByteArray.mk_append_mk
theorem str_oneV (V : List Txt) : ∀ u ∈ V.map tv, u.oneCell' = true := fun u hu => by
  obtain ⟨x, _, rfl⟩ := List.mem_map.1 hu
  rfl
theorem Txts.addV {w : World} {M : Nat → Prop} {g : Nat} {V : List Txt} (h : Txts w M (some ⟨g, 0, none⟩) V) : ∀ j u, (V.map tv)[j]? = some u → w.cell? ((⟨g, 0, none⟩ : Addr).add j) = some u := fun j u hu => by
  rw [Go.WideShapes.add_plain]
  rcases h.2 with e | ⟨b, off, e, _, _, hc⟩
  · rw [e] at hu; simp at hu
  · cases e
    exact hc j u hu
theorem B9.of {w W : World} {M : Nat → Prop} {t f m d n k how : Nat} {fv : Value} {keys : List Nat} {P : List Sp.Page} {V : List Txt} (hta : Sp.TreeAt keys P) (hn : keys.length ≤ 120) (hV : V = [[], []] ++ P.map Sp.bytes) (hnp : P.length + 2 = n) (h2 : 2 ≤ k) (hk : k < n)
    (hs : StAt W M t f m d fv (Sp.setV V k (Sp.spoil how (Sp.atV V (k : Int)))) (Sp.Sto.new (n : Int) 400 [])) (hb : Below w.heap.size w W) : B9 w W t ((Sp.Rt.root (Sp.treeN keys).1 : Nat) : Int) (Sp.setV V k (Sp.spoil how (Sp.atV V (k : Int)))) (Sp.Sto.new (n : Int) 400 []) := by
  subst hV; subst hnp
  have hlen := hta.len
  have hw := Sp.whole_new hta hn
  refine ⟨⟨M, f, m, d, fv, hs⟩, Sp.Sto.new_ok _ _ _, by unfold Sp.setV; simp; omega, Sp.spoilt_vals hta hn h2 hk, fun e => ?_, Option.ne_none_iff_exists'.1 (Sp.spoilt_bad hta hn h2 hk), hb⟩
  obtain ⟨x, hx, _⟩ := Sp.tree_node hta hn (i := (k : Int)) (by omega) (by omega)
  rw [hw.root0.1 (by omega)] at hx
  cases hx
theorem spoil_small {P : List Sp.Page} {V : List Txt} (hV : V = [[], []] ++ P.map Sp.bytes) (k how : Nat) : (∀ s ∈ Sp.setV V k (Sp.spoil how (Sp.atV V (k : Int))), s.length ≤ 4611686018427387904) ∧ (Sp.atV V (k : Int)).length ≤ 2000000 := by
  have h0 : ∀ s ∈ V, s.length ≤ 2000000 := fun s hs => by
    rw [hV] at hs
    rcases List.mem_append.1 hs with hs | hs
    · have : s = [] := by simpa using hs
      rw [this]; simp
    · obtain ⟨p, _, rfl⟩ := List.mem_map.1 hs
      exact Sp.bytes_le9 p
  have h1 : (Sp.atV V (k : Int)).length ≤ 2000000 := by
    unfold Sp.atV
    rw [if_neg (by omega), Int.toNat_natCast, List.getD_eq_getElem?_getD]
    rcases hg : V[k]? with _ | s
    · simp
    · exact h0 s (List.mem_of_getElem? hg)
  refine ⟨fun s hs => ?_, h1⟩
  rcases List.mem_or_eq_of_mem_set hs with hs | rfl
  · have := h0 s hs; omega
  · unfold Sp.spoil
    split
    · rw [List.length_append, List.length_singleton]; omega
    · split
      · simp
      · have := Sp.bytes_le9 Sp.ovP; omega
theorem own_spoil {w : World} {base n g cap k : Nat} {V : List Txt} {x : Txt} (h : w.ownsRow base StrT 1 (.slice (some ⟨g, 0, none⟩) n cap) n (V.map tv)) : (w.setCell ⟨g, k, none⟩ (.string ⟨x.toArray⟩)).ownsRow base StrT 1 (.slice (some ⟨g, 0, none⟩) n cap) n ((Sp.setV V k x).map tv) := by
  have := own_set h (j := k) (.string ⟨x.toArray⟩)
  unfold Sp.setV
  rw [List.map_set]
  exact this
structure Sp9 (w W : World) (B g n cap : Nat) (V' : List Txt) : Prop where
  ow : W.ownsRow B StrT 1 (.slice (some ⟨g, 0, none⟩) n cap) n (V'.map tv)
  hb : Below w.heap.size w W
theorem Sp9.of {w w6 : World} {B g n cap k : Nat} {V : List Txt} {x : Txt} (h : w6.ownsRow B StrT 1 (.slice (some ⟨g, 0, none⟩) n cap) n (V.map tv)) (hB : w.heap.size ≤ B) (hg : B ≤ g) (hb : Below w.heap.size w w6) : Sp9 w (w6.setCell ⟨g, k, none⟩ (.string ⟨x.toArray⟩)) B g n cap (Sp.setV V k x) :=
  ⟨own_spoil h, hb.trans ((Chg.set1 w6 g k _).below hb.size fun i hi e => by have : i = g := e; omega)⟩
set_option maxRecDepth 100000 in
set_option maxHeartbeats 1600000 in
theorem spoilt_walk (keys : List Nat) (A : Option Addr) (c : Nat) (a h : Int) (ha0 : 0 ≤ a) (ha1 : a ≤ 255) (hh0 : 0 ≤ h) (hh1 : h ≤ 255) (w : World) (hk : U8s w A keys) (h256 : ∀ k ∈ keys, k < 256) :
    Calls Tryz.prog 5 #[.slice A keys.length c, .int .u8 a, .int .u8 h] w fun e w' => e = .returned (.bool true) ∧ Below w.heap.size w w' := by
  have HK := Lib.hid hk
  have H256 := Lib.hid h256
  have hl := Row.len hk
  rw [List.length_map] at hl
  clear hk h256
  by_cases hn6 : keys.length < 6
  · have hn1 : (keys.length : Int) < 6 := by omega
    clear HK H256 ha0 ha1 hh0 hh1
    go_enter Tryz.func5, Tryz.ntmps5
    go_wp2_with (go_at_call 15; refine (known9_any _).mono ?_; rintro e w1 ⟨rfl, hb1⟩)
    go_ret
    exact ⟨rfl, hb1⟩
  by_cases hn80 : 80 < keys.length
  · have hn1 : 80 < (keys.length : Int) := by omega
    have hn2 : ¬ (keys.length : Int) < 6 := by omega
    clear HK H256 ha0 ha1 hh0 hh1
    go_enter Tryz.func5, Tryz.ntmps5
    go_wp2_with (go_at_call 15; refine (known9_any _).mono ?_; rintro e w1 ⟨rfl, hb1⟩)
    go_ret
    exact ⟨rfl, hb1⟩
  have hn1 : ¬ 80 < (keys.length : Int) := by omega
  have hn2 : ¬ (keys.length : Int) < 6 := by omega
  have hkl : keys.length ≤ 120 := by omega
  have HGT := Lib.hid (fun W (hb : Below w.heap.size w W) => tree_any keys A c W (Row.go HK.out hb) H256.out (by omega))
  obtain ⟨i0, hi0, hz0, hz1, hz2⟩ := info_parts info_str
  go_enter Tryz.func5, Tryz.ntmps5
  go_upto_region 6 with (first
    | (go_at_call 15; refine (known9_any _).mono ?_; rintro e w1 ⟨rfl, hb1⟩; have HB1 := Lib.hid hb1; clear hb1)
    | (go_at_call 16; refine (HGT.out _ HB1.out).mono ?_; rintro e w2 ⟨f, P, rfl, _, hd, hta, hb⟩; generalize hnp : P.length + 2 = np; have HNP := Lib.hid hnp; clear hnp; have HD := Lib.hid hd; have HTA := Lib.hid hta; have HB := Lib.hid (HB1.out.trans (hb.mono HB1.out.size)); clear hd hta hb HB1))
  clear HGT
  by_cases hnp5 : np < 5
  · have hq : (np : Int) < 5 := by omega
    go_wp2_with fail
    go_ret
    exact ⟨rfl, HB.out⟩
  have hq : ¬ (np : Int) < 5 := by omega
  have hpl := HTA.out.len
  have hnp := HNP.out
  have hnp4 : np ≤ 400 := by omega
  obtain ⟨V, hVd⟩ : ∃ V, V = [[], []] ++ P.map Sp.bytes := ⟨_, rfl⟩
  have hVl : V.length = np := by rw [hVd]; simp; omega
  have HVL := Lib.hid hVl
  rw [← hVd] at HD
  have HVD := Lib.hid hVd
  obtain ⟨g, cap, c0, htx, hcap⟩ := HD.out.opn9 (by omega) (by omega)
  rw [hVl] at c0
  have HC := Lib.hid htx.addV
  clear hVl hVd hnp hpl htx
  go_upto_region 8 with fail
  go_wp2_with (at_builtin; refine wpList_append_own _ rfl _ _ 31 rfl w2.heap.size StrT i0 _ 1 16 Tryz.underlying31 hi0 hz0 hz1 hz2 rfl (by decide) (.slice none 0 0) 0 [] rfl (own_nilV _ _ _ _) ⟨g, 0, none⟩ np cap (V.map tv) rfl ?q0 HC.out (str_oneV V) ?q2 ?q3 (Nat.le_refl _) ?_)
  case q0 => first | exact HVL.out | (rw [List.length_map, HVL.out]; omega)
  case q2 => simp only [maxLen]; omega
  case q3 => omega
  intro v6 w6 ho6 hgr6 _
  have ho6 : w6.ownsRow w2.heap.size StrT 1 v6 np (V.map tv) := by simpa using ho6
  have hb6 : Below w2.heap.size w2 w6 := grown_ownV (own_nilV w2 w2.heap.size StrT 1) (Nat.le_refl _) hgr6
  obtain ⟨A6, c6, rfl⟩ := own_sliceV ho6
  rcases own_none ho6 with ⟨_, h0, _⟩ | ⟨g6, cur, rfl, hg6, hbg, hcg⟩
  · omega
  have HO := Lib.hid ho6
  have HB6 := Lib.hid (HB.out.trans (hb6.mono HB.out.size))
  have HW2 := Lib.hid (show w.heap.size ≤ w2.heap.size from HB.out.size)
  have hg6w := hbg.lt
  clear ho6 hb6 hgr6 hcg hbg HC HB c0 HD hcap
  have hw2 : IntKind.i64.wrap ((np : Int) - 2) = (np : Int) - 2 := by rw [IntKind.wrap_i64]; omega
  have hr1 := Int.emod_nonneg a (show ((np : Int) - 2) ≠ 0 by omega)
  have hr2 := Int.emod_lt_of_pos a (show 0 < ((np : Int) - 2) by omega)
  obtain ⟨k, hk⟩ : ∃ k : Nat, 2 + a % ((np : Int) - 2) = k := ⟨(2 + a % ((np : Int) - 2)).toNat, by omega⟩
  have hwk : IntKind.i64.wrap (2 + a % ((np : Int) - 2)) = (k : Int) := by rw [hk, IntKind.wrap_i64]; omega
  have hk2 : 2 ≤ k := by omega
  have hkn : k < np := by omega
  go_upto_region 10 with fail
  clear hwk hr1 hr2 hk ha0 ha1 hw2
  obtain ⟨hc6, hf6⟩ := own_at HO.out (j := k) hkn
  have hat : (V.map tv).getD k undef = .string ⟨(Sp.atV V (k : Int)).toArray⟩ := by
    have hkV : k < V.length := by rw [HVL.out]; exact hkn
    unfold Sp.atV
    rw [if_neg (by omega), Int.toNat_natCast]
    simp [List.getD, hkV, tv]
  rw [hat] at hc6
  have hB2 := HB6.out.size
  have HG6 := Lib.hid hg6
  have HSS := Lib.hid (fun how => spoil_small (P := P) HVD.out k how)
  have hx6 := (HSS.out 0).2
  clear hat hg6
  have HK2 := Lib.hid hk2
  have HKN := Lib.hid hkn
  have HHT : Hid (∀ q : Nat, h % 3 = (q : Int) → h.toNat % 3 = q) := Lib.hid fun q hq => by omega
  have HNW := Lib.hid (fun (W : World) (M : Nat → Prop) (t f' m d : Nat) (v : Value) hs hb => B9.of (w := w) (W := W) (M := M) (t := t) (f := f') (m := m) (d := d) (fv := v) (how := h.toNat) HTA.out hkl HVD.out HNP.out hk2 hkn hs hb)
  have HSM := Lib.hid (HSS.out h.toNat).1
  clear HNP HVD HK H256
  rcases (show h % 3 = 0 ∨ h % 3 = 1 ∨ h % 3 = 2 by omega) with e | e | e
  · have he : Sp.spoil h.toNat (Sp.atV V (k : Int)) = Sp.atV V (k : Int) ++ [120] := if_pos (HHT.out 0 e)
    rw [he] at HNW HSM
    clear he HHT
    generalize Sp.atV V (k : Int) = x6 at *
    go_upto_region 16 with fail
    refine wp_gen (fun W => Sp9 w W w2.heap.size g6 np c6 (Sp.setV V k (x6 ++ [120]))) (Sp9.of HO.out HW2.out HG6.out HB6.out) ?_
    have hVL2 : (Sp.setV V k (x6 ++ [120])).length = np := by unfold Sp.setV; rw [List.length_set]; exact HVL.out
    generalize Sp.setV V k (x6 ++ [120]) = V2 at *
    intro w7 hS
    have HO7 := Lib.hid hS.ow
    have HB7 := Lib.hid hS.hb
    clear hS HO HB6 HSS HW2 HG6 HTA
    have hcap := (own_cap HO7.out).1
    have hrow := HO7.out
    rw [← hVL2] at hrow
    have HFN := Lib.hid (fileNew_any V2 g6 0 c6 w7 (Txts.of_own hrow (by omega)) (by omega) (by omega) HSM.out)
    rw [hVL2] at HFN
    go_upto_region 17 with (first
      | (go_at_call 18; refine HFN.out.mono ?_; rintro e w8 ⟨f', v, m, rfl, hfa, _, _, _, hb8⟩; have HFA := Lib.hid hfa; have HB8 := Lib.hid (HB7.out.trans (hb8.mono HB7.out.size)); clear hfa hb8)
      | (go_at_call 17; refine (stoNew_any f' m v V2 (np : Int) 400 (.slice none 0 0) [] _ HFA.out (nil_iv9 _)).mono ?_; rintro e w9 ⟨t, d, M, rfl, hst, _, hb9, _, _⟩; have HST := Lib.hid hst; have HB9 := Lib.hid (HB8.out.trans (hb9.mono HB8.out.size)); clear hst hb9))
    have S := Lib.hid (HNW.out w9 M t f' m d v HST.out HB9.out)
    clear HNW HST HB9 HB8 HB7 HFA HFN HO7 hrow
    generalize Sp.Sto.new (np : Int) 400 [] = st9 at *
    generalize Sp.Rt.root (Sp.treeN keys).1 = rt at *
    go_upto_region 18 with (go_at_call 19; refine S.out.list.mono ?_; rintro e wa ⟨⟨ka, rfl⟩, hb⟩; have Sa := Lib.hid (S.out.go hb); clear hb)
    go_upto_region 19 with (go_at_call 23; refine Sa.out.pages.mono ?_; rintro e wb ⟨⟨Ab, nb, cb, kb, rfl⟩, hb⟩; have Sb := Lib.hid (Sa.out.go hb); clear hb)
    go_wp2_with (go_at_call 20; refine Sb.out.right.mono ?_; rintro e wc ⟨rfl, hb⟩; have Sc := Lib.hid (Sb.out.go hb); clear hb)
    go_ret
    exact ⟨by simp, Sc.out.hb⟩
  · have he : Sp.spoil h.toNat (Sp.atV V (k : Int)) = [] := by
      have := HHT.out 1 e
      unfold Sp.spoil
      rw [if_neg (by omega), if_pos this]
    rw [he] at HNW HSM
    clear he HHT
    generalize Sp.atV V (k : Int) = x6 at *
    go_upto_region 16 with fail
    refine wp_gen (fun W => Sp9 w W w2.heap.size g6 np c6 (Sp.setV V k [])) (Sp9.of HO.out HW2.out HG6.out HB6.out) ?_
    have hVL2 : (Sp.setV V k []).length = np := by unfold Sp.setV; rw [List.length_set]; exact HVL.out
    generalize Sp.setV V k [] = V2 at *
    intro w7 hS
    have HO7 := Lib.hid hS.ow
    have HB7 := Lib.hid hS.hb
    clear hS HO HB6 HSS HW2 HG6 HTA
    have hcap := (own_cap HO7.out).1
    have hrow := HO7.out
    rw [← hVL2] at hrow
    have HFN := Lib.hid (fileNew_any V2 g6 0 c6 w7 (Txts.of_own hrow (by omega)) (by omega) (by omega) HSM.out)
    rw [hVL2] at HFN
    go_upto_region 17 with (first
      | (go_at_call 18; refine HFN.out.mono ?_; rintro e w8 ⟨f', v, m, rfl, hfa, _, _, _, hb8⟩; have HFA := Lib.hid hfa; have HB8 := Lib.hid (HB7.out.trans (hb8.mono HB7.out.size)); clear hfa hb8)
      | (go_at_call 17; refine (stoNew_any f' m v V2 (np : Int) 400 (.slice none 0 0) [] _ HFA.out (nil_iv9 _)).mono ?_; rintro e w9 ⟨t, d, M, rfl, hst, _, hb9, _, _⟩; have HST := Lib.hid hst; have HB9 := Lib.hid (HB8.out.trans (hb9.mono HB8.out.size)); clear hst hb9))
    have S := Lib.hid (HNW.out w9 M t f' m d v HST.out HB9.out)
    clear HNW HST HB9 HB8 HB7 HFA HFN HO7 hrow
    generalize Sp.Sto.new (np : Int) 400 [] = st9 at *
    generalize Sp.Rt.root (Sp.treeN keys).1 = rt at *
    go_upto_region 18 with (go_at_call 19; refine S.out.list.mono ?_; rintro e wa ⟨⟨ka, rfl⟩, hb⟩; have Sa := Lib.hid (S.out.go hb); clear hb)
    go_upto_region 19 with (go_at_call 23; refine Sa.out.pages.mono ?_; rintro e wb ⟨⟨Ab, nb, cb, kb, rfl⟩, hb⟩; have Sb := Lib.hid (Sa.out.go hb); clear hb)
    go_wp2_with (go_at_call 20; refine Sb.out.right.mono ?_; rintro e wc ⟨rfl, hb⟩; have Sc := Lib.hid (Sb.out.go hb); clear hb)
    go_ret
    exact ⟨by simp, Sc.out.hb⟩
  · have he : Sp.spoil h.toNat (Sp.atV V (k : Int)) = Sp.bytes Sp.ovP := by
      have := HHT.out 2 e
      unfold Sp.spoil
      rw [if_neg (by omega), if_neg (by omega)]
    rw [he] at HNW HSM
    clear he HHT
    generalize Sp.atV V (k : Int) = x6 at *
    have hpr : PageRd w6 NoM Sp.ovP refs0 := ⟨Items.nil_, Row.nil_, Row.nil_, Row.nil_, Frees.nil_, by simp [Sp.ovP, Sp.mt0]⟩
    have HDB := Lib.hid (dBytes_any Sp.ovP refs0 w6 hpr)
    clear hpr hc6 hf6
    go_upto_region 16 with (go_at_call 24; refine HDB.out.mono ?_; rintro e w6b ⟨rfl, hb5⟩; replace HB6 := Lib.hid (HB6.out.trans (hb5.mono HB6.out.size)); replace HO := Lib.hid (own_chg2 (S := NoM) HO.out (Chg.of_below hb5) (fun _ _ h => h)); have hg6z : g6 < w6b.heap.size := Nat.lt_of_lt_of_le hg6w hb5.size; obtain ⟨hc6, hf6⟩ := own_at HO.out (j := k) hkn; clear hb5)
    refine wp_gen (fun W => Sp9 w W w2.heap.size g6 np c6 (Sp.setV V k (Sp.bytes Sp.ovP))) (Sp9.of HO.out HW2.out HG6.out HB6.out) ?_
    have hVL2 : (Sp.setV V k (Sp.bytes Sp.ovP)).length = np := by unfold Sp.setV; rw [List.length_set]; exact HVL.out
    generalize Sp.setV V k (Sp.bytes Sp.ovP) = V2 at *
    intro w7 hS
    have HO7 := Lib.hid hS.ow
    have HB7 := Lib.hid hS.hb
    clear hS HO HB6 HSS HW2 HG6 HTA
    have hcap := (own_cap HO7.out).1
    have hrow := HO7.out
    rw [← hVL2] at hrow
    have HFN := Lib.hid (fileNew_any V2 g6 0 c6 w7 (Txts.of_own hrow (by omega)) (by omega) (by omega) HSM.out)
    rw [hVL2] at HFN
    go_upto_region 17 with (first
      | (go_at_call 18; refine HFN.out.mono ?_; rintro e w8 ⟨f', v, m, rfl, hfa, _, _, _, hb8⟩; have HFA := Lib.hid hfa; have HB8 := Lib.hid (HB7.out.trans (hb8.mono HB7.out.size)); clear hfa hb8)
      | (go_at_call 17; refine (stoNew_any f' m v V2 (np : Int) 400 (.slice none 0 0) [] _ HFA.out (nil_iv9 _)).mono ?_; rintro e w9 ⟨t, d, M, rfl, hst, _, hb9, _, _⟩; have HST := Lib.hid hst; have HB9 := Lib.hid (HB8.out.trans (hb9.mono HB8.out.size)); clear hst hb9))
    have S := Lib.hid (HNW.out w9 M t f' m d v HST.out HB9.out)
    clear HNW HST HB9 HB8 HB7 HFA HFN HO7 hrow
    generalize Sp.Sto.new (np : Int) 400 [] = st9 at *
    generalize Sp.Rt.root (Sp.treeN keys).1 = rt at *
    go_upto_region 18 with (go_at_call 19; refine S.out.list.mono ?_; rintro e wa ⟨⟨ka, rfl⟩, hb⟩; have Sa := Lib.hid (S.out.go hb); clear hb)
    go_upto_region 19 with (go_at_call 23; refine Sa.out.pages.mono ?_; rintro e wb ⟨⟨Ab, nb, cb, kb, rfl⟩, hb⟩; have Sb := Lib.hid (Sa.out.go hb); clear hb)
    go_wp2_with (go_at_call 20; refine Sb.out.right.mono ?_; rintro e wc ⟨rfl, hb⟩; have Sc := Lib.hid (Sb.out.go hb); clear hb)
    go_ret
    exact ⟨by simp, Sc.out.hb⟩
end Go.Proofs.YtlpmjeiogdlifaaGreat
namespace Go.Proofs.YtlpmjeiogdlifaaGreat.treeSpoilt
open Go.ChangeShapes Go.WideShapes Go.ChangeAt Go.RowKit
set_option maxRecDepth 100000 in
theorem lifted (os : Os) (started : os.Started) (H : Type) (enc : TypeId × Value → H) :
    ReturnsInHanded {} Tryz.checked os 5 .any (Rows.treeSpoiltSpec.pre6 enc Tryz.prog Tryz.f5 Rows.treeSpoiltRow.domain false) (Rows.treeSpoiltSpec.post enc Tryz.prog Tryz.f5 false true false false) := by
  refine returnsInHanded_of_change_sized (C := Tryz.checked) ownKn started (by kernel_rfl) Tryz.func5
    (ChangeSpec.witness6 (enc := enc) (C := Tryz.checked) false ⟨#[], #[.slice none 0 0, .int .u8 0, .int .u8 0], []⟩ 8 (by kernel_rfl) (by kernel_rfl) (by kernel_rfl) (by kernel_rfl)) ?_
  intro W base args ds gs before hval0 hW hcnd hsz0 _
  have hval : ∀ (j : Nat) t v, Tryz.f5.params[j]? = some t → args[j]? = some v → Value.okWide Tryz.prog W .any base t v := hval0
  have hW' := hW
  obtain ⟨p, q, hA0, hV, rfl, hfz, hnd⟩ := hW
  have hA : DataW.TrodAll enc Tryz.prog W 0 (fun _ => true) true Tryz.f5.params.toList args.toList ds p := hA0
  have hsz : (DataW.weightsEach Tryz.prog (Tryz.f5.params.toList ++ Rows.treeSpoiltSpec.plain.varTypes Tryz.prog) (ds ++ gs)).all (· ≤ reachBytes) = true := hsz0
  rw [Tryz.params5] at hA hval hsz
  obtain ⟨v0, vs0, d0, ds0, p0, q0, hargs, rfl, rfl, h0, rr0⟩ := trodAll_cons hA
  obtain ⟨v1, vs1, d1, ds1, p1, q1, rfl, rfl, rfl, h1, rr1⟩ := trodAll_cons rr0
  obtain ⟨v2, vs2, d2, ds2, p2, q2, rfl, rfl, rfl, h2, rr2⟩ := trodAll_cons rr1
  obtain ⟨rfl, rfl, rfl⟩ := trodAll_nil rr2
  obtain rfl : args = #[v0, v1, v2] := by cases args; simp_all
  obtain ⟨rfl, rfl⟩ := trodVars_none hV
  have k0 := h0
  obtain ⟨a0, r0, c0, hv0, b0, g0⟩ := open_u8s (hval 0 22 v0 rfl rfl) h0
  obtain ⟨a1, rfl, rfl, rfl, w1⟩ := open_int Tryz.underlying5 (hval 1 5 v1 rfl rfl) h1
  obtain ⟨a2, rfl, rfl, rfl, w2⟩ := open_int Tryz.underlying5 (hval 2 5 v2 rfl rfl) h2
  clear hA0 hval0
  simp only [List.append_nil] at hW'
  rw [hv0]
  refine (spoilt_walk a0 r0 c0 a1 a2 (bounds_u8 w1).1 (bounds_u8 w1).2 (bounds_u8 w2).1 (bounds_u8 w2).2 W b0 g0).mono fun e W' ⟨he, hg⟩ => ?_
  subst he
  rw [← hv0]
  exact ⟨_, rfl, post_of_below (pa := (p0 ++ ([] ++ ([] ++ [])))) (pv := []) hW' (fun _ _ _ => (trodAll_cons_mk (shut_bool Tryz.underlying4 _) trodAll_mk0)) (fun sp hsp => (trodAll_cons_mk (WideElems.Trod_stays laidKn (by kernel_rfl) (of_decide_eq_true (by kernel_rfl)) k0 (fun x hx => hg.same (hW'.lt x (by simp [hx]))) (fun x hx => hsp x (by simp [hx]))) (trodAll_cons_mk (shut_int Tryz.underlying5 w1) (trodAll_cons_mk (shut_int Tryz.underlying5 w2) trodAll_mk0)))) (fun _ _ => rfl) (by simp)
    hg (ok_one (by kernel_rfl) rfl (okWide_bool_mk Tryz.underlying4 _))⟩
theorem o_name : Tryz.pinned.checked.prog.funcNamed Rows.treeSpoiltRow.func = some 5 := by kernel_rfl
theorem o_ip : (Rows.treeSpoiltRow.inPlace == Tryz.pinned.checked.prog.inPlace 5) = true := by kernel_rfl
theorem o_uf : (Rows.treeSpoiltRow.unfollowed == Tryz.pinned.checked.prog.unfollowed 5) = true := by kernel_rfl
theorem o_rc : (Rows.treeSpoiltRow.recurses == Tryz.pinned.checked.prog.recurses 5) = true := by kernel_rfl
theorem o_nm : (Rows.treeSpoiltRow.named == Tryz.pinned.checked.prog.varsNamed 5) = true := by kernel_rfl
theorem o_closed : joinedFacts Tryz.pinned.checked.prog 5 Tryz.f5 Rows.treeSpoiltSpec Rows.treeSpoiltRow = true := by
  unfold joinedFacts
  rw [o_ip, o_uf, o_rc, o_nm]
  kernel_rfl
theorem o_inst : Tryz.f5.isInstance Tryz.pinned.checked.prog Rows.treeSpoiltRow.origin Rows.treeSpoiltRow.targs := of_decide_eq_true (by kernel_rfl)
theorem o_wrap : Tryz.f5.isWrapper Tryz.pinned.checked.prog Rows.treeSpoiltRow.wrapper Rows.treeSpoiltRow.mainSum := by
  unfold Func.isWrapper
  first | (rw [if_pos (by decide +kernel)]; kernel_rfl) | (rw [if_neg (by decide +kernel)]; exact ⟨rfl, rfl⟩)
theorem over : Rows.treeSpoiltRow.holds Tryz.pinned (OpenSpec.ofChange Rows.treeSpoiltSpec) :=
  OpenClaim.holds_of_wide 5 Tryz.f5 rfl rfl rfl rfl rfl rfl rfl ⟨rfl, rfl, rfl, rfl, rfl⟩ rfl rfl rfl rfl rfl o_name Tryz.func5 o_closed o_inst o_wrap
    (fun os started H enc _ => lifted os started H enc)
theorem proved : Rows.TreeSpoiltSaid :=
  over
#print axioms proved
end Go.Proofs.YtlpmjeiogdlifaaGreat.treeSpoilt
