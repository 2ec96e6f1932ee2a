/- Trees of the document: a branch's page, on pages. Trees of the document: their pages are right; how many they are; a whole tree. Trees of the document: a whole tree, an item put in; where a key is. Trees of the document: in which leaf a key is, from which key on others follow. Trees of the document: the first item that is wanted; the trees that are made of numbers. Trees of the document: how many pages a tree of numbers has; how deep it is. -/
import Derived.Test.YtlpmjeiogdlifaaGreatQB15
set_option linter.unusedSimpArgs false
set_option linter.unusedVariables false
namespace Go.Proofs.YtlpmjeiogdlifaaGreat
open Go.RowKit
attribute [local go_sem low] mk_extract
attribute [local go_sem] After.cell After.frozen mk_extract_end ByteArray.mk_append_mk
namespace Sp
theorem nodup_graft {A B C D : List Nat} {n : Nat} (h : (A ++ (C ++ B)).Nodup) (hd : D.Nodup) (hD : ∀ i ∈ D, i ∈ C ∨ n ≤ i) (hA : ∀ i ∈ A, i < n) (hB : ∀ i ∈ B, i < n) : (A ++ (D ++ B)).Nodup := by
  obtain ⟨h1, h2, h3⟩ := List.nodup_append.1 h
  obtain ⟨h4, h5, h6⟩ := List.nodup_append.1 h2
  refine List.nodup_append.2 ⟨h1, List.nodup_append.2 ⟨hd, h5, fun a ha b hb => ?_⟩, fun a ha b hb => ?_⟩
  · rcases hD a ha with h | h
    · exact h6 a h b hb
    · have := hB b hb; omega
  · rcases List.mem_append.1 hb with hb | hb
    · rcases hD b hb with h | h
      · exact h3 a ha b (List.mem_append.2 (.inl h))
      · have := hA a ha; omega
    · exact h3 a ha b (List.mem_append.2 (.inr hb))
theorem node_res {x : Item} {P P1 P' : List Page} {d id n : Nat} {cs : List (Txt × T d)} {c : Txt × T d} (h : T.On P (d + 1) (id, cs) n) (hc : cs[downI x.key cs]? = some c)
    (hl : cs.length ≤ 4) (r : PutRes P P1 d c.2 n (T.put x d c.2 n))
    (h4 : (graft (downI x.key cs) (T.put x d c.2 n).1 (T.put x d c.2 n).2.1 cs).length ≤ 4 → P' = P1.set (id - 2) (T.page (d + 1) (id, graft (downI x.key cs) (T.put x d c.2 n).1 (T.put x d c.2 n).2.1 cs)))
    (h5 : ∀ a0 a1 a2 a3 a4, graft (downI x.key cs) (T.put x d c.2 n).1 (T.put x d c.2 n).2.1 cs = [a0, a1, a2, a3, a4] → P' = P1.set (id - 2) (T.page (d + 1) (id, [a0, a1, a2])) ++ [T.page (d + 1) ((T.put x d c.2 n).2.2, [([], a3.2), a4])]) :
    PutRes P P' (d + 1) (id, cs) n (T.put x (d + 1) (id, cs) n) := by
  have hid : 2 ≤ id := h.holds.1.1
  have hlt : id < n := h.lt id (by simp [T.ids])
  have hlen := h.len
  have hnd := h.nodup
  have hltc : ∀ a ∈ cs, ∀ i ∈ T.ids d a.2, i < n := fun a ha i hi => h.lt i (List.mem_cons_of_mem _ (List.mem_flatMap.2 ⟨a, ha, hi⟩))
  have hnd : (id :: cs.flatMap fun a : Txt × T d => T.ids d a.2).Nodup := hnd
  obtain ⟨hni, hnf⟩ := List.nodup_cons.1 hnd
  have hsub : ∀ a ∈ cs, T.Holds P d a.2 := h.holds.2
  rw [put_succ, hc]
  dsimp only
  have hspl := split_at hc
  generalize downI x.key cs = k at *
  have hgr : graft k (T.put x d c.2 n).1 (T.put x d c.2 n).2.1 cs = cs.take k ++ (c.1, (T.put x d c.2 n).1) :: ((T.put x d c.2 n).2.1.toList ++ cs.drop (k + 1)) := by
    unfold graft
    rw [hc]
  simp only [hgr] at h4 h5 ⊢
  generalize T.put x d c.2 n = pr at *
  obtain ⟨t', more, n'⟩ := pr
  dsimp only at *
  have hle : n ≤ n' := r.le
  have hl1 : P1.length + 2 = n' := r.len
  -- the children, each on the pages
  have hpc : ∀ a, (a ∈ cs.take k ∨ a ∈ cs.drop (k + 1)) → a ∈ cs := fun a ha => by
    rw [hspl]
    rcases ha with ha | ha <;> simp [ha]
  have hflat : ((cs.take k).flatMap fun a : Txt × T d => T.ids d a.2) ++ (T.ids d c.2 ++ (cs.drop (k + 1)).flatMap fun a : Txt × T d => T.ids d a.2) = cs.flatMap fun a : Txt × T d => T.ids d a.2 := by
    conv => rhs; rw [hspl]
    rw [List.flatMap_append, List.flatMap_cons]
  have hnf2 := hnf
  rw [← hflat] at hnf2
  have hdis : ∀ a, (a ∈ cs.take k ∨ a ∈ cs.drop (k + 1)) → ∀ i ∈ T.ids d a.2, i ∉ T.ids d c.2 := fun a ha i hi hic => by
    obtain ⟨_, h2, h3⟩ := List.nodup_append.1 hnf2
    obtain ⟨_, _, h6⟩ := List.nodup_append.1 h2
    rcases ha with ha | ha
    · exact h3 i (List.mem_flatMap.2 ⟨a, ha, hi⟩) i (List.mem_append.2 (.inl hic)) rfl
    · exact h6 i hic i (List.mem_flatMap.2 ⟨a, ha, hi⟩) rfl
  have hold : ∀ a, (a ∈ cs.take k ∨ a ∈ cs.drop (k + 1)) → T.Holds P1 d a.2 := fun a ha =>
    (hsub a (hpc a ha)).keep fun i hi => r.frame i ((hsub a (hpc a ha)).ge i hi) (hltc a (hpc a ha) i hi) (hdis a ha i hi)
  have hds : ∀ a ∈ cs.take k ++ (c.1, t') :: (more.toList ++ cs.drop (k + 1)), T.Holds P1 d a.2 := fun a ha => by
    rcases List.mem_append.1 ha with ha | ha
    · exact hold a (.inl ha)
    · rcases List.mem_cons.1 ha with rfl | ha
      · exact r.holds
      · rcases List.mem_append.1 ha with ha | ha
        · exact r.more a (by simpa using ha)
        · exact hold a (.inr ha)
  have hcm : c ∈ cs := by rw [hspl]; simp
  have hidf : (cs.take k ++ (c.1, t') :: (more.toList ++ cs.drop (k + 1))).flatMap (fun a : Txt × T d => T.ids d a.2) = ((cs.take k).flatMap fun a : Txt × T d => T.ids d a.2) ++ ((T.ids d t' ++ moreIds d more) ++ (cs.drop (k + 1)).flatMap fun a : Txt × T d => T.ids d a.2) := by
    rw [List.flatMap_append, List.flatMap_cons, List.flatMap_append, List.append_assoc]
    rfl
  have hndd : ((cs.take k ++ (c.1, t') :: (more.toList ++ cs.drop (k + 1))).flatMap fun a : Txt × T d => T.ids d a.2).Nodup := by
    rw [hidf]
    refine nodup_graft (n := n) hnf2 r.nodup (fun i hi => (r.ids i hi).1) (fun i hi => ?_) (fun i hi => ?_)
    · obtain ⟨a, ha, hi⟩ := List.mem_flatMap.1 hi
      exact hltc a (hpc a (.inl ha)) i hi
    · obtain ⟨a, ha, hi⟩ := List.mem_flatMap.1 hi
      exact hltc a (hpc a (.inr ha)) i hi
  have hmem : ∀ i ∈ (cs.take k ++ (c.1, t') :: (more.toList ++ cs.drop (k + 1))).flatMap (fun a : Txt × T d => T.ids d a.2), (i ∈ cs.flatMap (fun a : Txt × T d => T.ids d a.2) ∨ n ≤ i) ∧ i < n' ∧ i ≠ id := fun i hi => by
    rw [hidf] at hi
    have hcase : (i ∈ cs.flatMap (fun a : Txt × T d => T.ids d a.2) ∨ n ≤ i) ∧ i < n' := by
      rcases List.mem_append.1 hi with hi | hi
      · refine ⟨.inl (by rw [← hflat]; exact List.mem_append.2 (.inl hi)), ?_⟩
        obtain ⟨a, ha, hi⟩ := List.mem_flatMap.1 hi
        exact Nat.lt_of_lt_of_le (hltc a (hpc a (.inl ha)) i hi) hle
      · rcases List.mem_append.1 hi with hi | hi
        · obtain ⟨h1, h2⟩ := r.ids i hi
          refine ⟨h1.imp (fun h => List.mem_flatMap.2 ⟨c, hcm, h⟩) (fun h => h), h2⟩
        · refine ⟨.inl (by rw [← hflat]; exact List.mem_append.2 (.inr (List.mem_append.2 (.inr hi)))), ?_⟩
          obtain ⟨a, ha, hi⟩ := List.mem_flatMap.1 hi
          exact Nat.lt_of_lt_of_le (hltc a (hpc a (.inr ha)) i hi) hle
    refine ⟨hcase.1, hcase.2, fun e => ?_⟩
    subst e
    rcases hcase.1 with h | h
    · exact hni h
    · omega
  have hln : (cs.take k ++ (c.1, t') :: (more.toList ++ cs.drop (k + 1))).length ≤ 5 := by
    have hk : k < cs.length := (List.getElem?_eq_some_iff.1 hc).1
    have hml : more.toList.length ≤ 1 := by cases more <;> simp
    simp only [List.length_append, List.length_cons, List.length_take, List.length_drop]
    omega
  have hfr : ∀ i, 2 ≤ i → i < n → i ∉ id :: cs.flatMap (fun a : Txt × T d => T.ids d a.2) → P1[i - 2]? = P[i - 2]? := fun i h2 hi hn =>
    r.frame i h2 hi fun hic => hn (List.mem_cons_of_mem _ (List.mem_flatMap.2 ⟨c, hcm, hic⟩))
  have hid1 : id - 2 < P1.length := by omega
  generalize cs.take k ++ (c.1, t') :: (more.toList ++ cs.drop (k + 1)) = ds at *
  by_cases hd4 : ds.length ≤ 4
  · rw [if_pos hd4]
    have hP := h4 hd4
    subst hP
    refine ⟨by rw [List.length_set]; exact hl1, hle, ⟨⟨hid, ?_⟩, fun a ha => (hds a ha).keep fun i hi => ?_⟩, fun m hm => (by cases hm), fun i h2 hi hn => ?_, fun i hi => ?_, ?_⟩
    · exact List.getElem?_set_self hid1
    · have hm := hmem i (List.mem_flatMap.2 ⟨a, ha, hi⟩)
      have := (hds a ha).ge i hi
      rw [List.getElem?_set_ne (by omega)]
    · have hi2 : i ≠ id := fun e => hn (by rw [e]; exact List.mem_cons_self)
      rw [List.getElem?_set_ne (by omega)]
      exact hfr i h2 hi hn
    · have hi : i ∈ (id :: ds.flatMap fun a : Txt × T d => T.ids d a.2) ++ [] := hi
      rw [List.append_nil] at hi
      rcases List.mem_cons.1 hi with rfl | hi
      · exact ⟨.inl List.mem_cons_self, Nat.lt_of_lt_of_le hlt hle⟩
      · obtain ⟨h1, h2, _⟩ := hmem i hi
        exact ⟨h1.imp (fun h => List.mem_cons_of_mem _ h) (fun h => h), h2⟩
    · show ((id :: ds.flatMap fun a : Txt × T d => T.ids d a.2) ++ []).Nodup
      rw [List.append_nil]
      exact List.nodup_cons.2 ⟨fun hi => (hmem id hi).2.2 rfl, hndd⟩
  · rw [if_neg hd4]
    have hd5 : ds.length = 5 := by omega
    match ds, hd5 with
    | [a0, a1, a2, a3, a4], _ =>
      have hP := h5 a0 a1 a2 a3 a4 rfl
      subst hP
      have hin : ∀ a ∈ [a0, a1, a2, a3, a4], ∀ i ∈ T.ids d a.2, (P1.set (id - 2) (T.page (d + 1) (id, [a0, a1, a2])) ++ [T.page (d + 1) (n', [([], a3.2), a4])])[i - 2]? = P1[i - 2]? := fun a ha i hi => by
        have hm := hmem i (List.mem_flatMap.2 ⟨a, ha, hi⟩)
        have := (hds a ha).ge i hi
        rw [List.getElem?_append_left (by rw [List.length_set]; omega), List.getElem?_set_ne (by omega)]
      have hndd' : (([a0, a1, a2].flatMap fun a : Txt × T d => T.ids d a.2) ++ ([(([] : Txt), a3.2), a4].flatMap fun a : Txt × T d => T.ids d a.2)).Nodup := by
        rw [show [a0, a1, a2, a3, a4] = [a0, a1, a2] ++ [a3, a4] from rfl, List.flatMap_append] at hndd
        exact hndd
      have hmem' : ∀ i, i ∈ ([a0, a1, a2].flatMap fun a : Txt × T d => T.ids d a.2) ∨ i ∈ ([(([] : Txt), a3.2), a4].flatMap fun a : Txt × T d => T.ids d a.2) → (i ∈ cs.flatMap (fun a : Txt × T d => T.ids d a.2) ∨ n ≤ i) ∧ i < n' ∧ i ≠ id := fun i hi => by
        refine hmem i ?_
        rw [show [a0, a1, a2, a3, a4] = [a0, a1, a2] ++ [a3, a4] from rfl, List.flatMap_append]
        exact List.mem_append.2 hi
      refine ⟨by simp; omega, Nat.le_succ_of_le hle, ⟨⟨hid, ?_⟩, fun a ha => (hds a (by simp at ha ⊢; rcases ha with h | h | h <;> simp [h])).keep fun i hi => hin a (by simp at ha ⊢; rcases ha with h | h | h <;> simp [h]) i hi⟩, fun m hm => ?_, fun i h2 hi hn => ?_, fun i hi => ?_, ?_⟩
      · show (P1.set (id - 2) (T.page (d + 1) (id, [a0, a1, a2])) ++ [T.page (d + 1) (n', [([], a3.2), a4])])[id - 2]? = some (T.page (d + 1) (id, [a0, a1, a2]))
        rw [List.getElem?_append_left (by rw [List.length_set]; exact hid1), List.getElem?_set_self hid1]
      · have hm' : m = (a3.1, ((n', [([], a3.2), a4]) : T (d + 1))) := (Option.some.inj (show some (a3.1, ((n', [([], a3.2), a4]) : T (d + 1))) = some m from hm)).symm
        subst hm'
        refine ⟨⟨by show 2 ≤ n'; omega, ?_⟩, fun a ha => ?_⟩
        · show (P1.set (id - 2) (T.page (d + 1) (id, [a0, a1, a2])) ++ [T.page (d + 1) (n', [([], a3.2), a4])])[n' - 2]? = _
          rw [List.getElem?_append_right (by rw [List.length_set]; omega), List.length_set, show n' - 2 - P1.length = 0 by omega]
          rfl
        · have ha : a = ([], a3.2) ∨ a = a4 := by simpa using ha
          rcases ha with rfl | rfl
          · exact (hds a3 (by simp)).keep fun i hi => hin a3 (by simp) i hi
          · exact (hds a (by simp)).keep fun i hi => hin a (by simp) i hi
      · have hi2 : i ≠ id := fun e => hn (by rw [e]; exact List.mem_cons_self)
        rw [List.getElem?_append_left (by rw [List.length_set]; omega), List.getElem?_set_ne (by omega)]
        exact hfr i h2 hi hn
      · have hi : i ∈ (id :: [a0, a1, a2].flatMap fun a : Txt × T d => T.ids d a.2) ++ ((n' :: [(([] : Txt), a3.2), a4].flatMap fun a : Txt × T d => T.ids d a.2) ++ []) := hi
        rw [List.append_nil] at hi
        have hx : i = id ∨ i = n' ∨ (i ∈ ([a0, a1, a2].flatMap fun a : Txt × T d => T.ids d a.2) ∨ i ∈ ([(([] : Txt), a3.2), a4].flatMap fun a : Txt × T d => T.ids d a.2)) := by
          rcases List.mem_append.1 hi with hi | hi
          · rcases List.mem_cons.1 hi with h | h
            · exact .inl h
            · exact .inr (.inr (.inl h))
          · rcases List.mem_cons.1 hi with h | h
            · exact .inr (.inl h)
            · exact .inr (.inr (.inr h))
        rcases hx with rfl | rfl | hx
        · exact ⟨.inl List.mem_cons_self, by show i < n' + 1; omega⟩
        · exact ⟨.inr hle, by show i < i + 1; omega⟩
        · obtain ⟨h1, h2, _⟩ := hmem' i hx
          exact ⟨h1.imp (fun h => List.mem_cons_of_mem _ h) (fun h => h), by show i < n' + 1; omega⟩
      · show ((id :: [a0, a1, a2].flatMap fun a : Txt × T d => T.ids d a.2) ++ ((n' :: [(([] : Txt), a3.2), a4].flatMap fun a : Txt × T d => T.ids d a.2) ++ [])).Nodup
        rw [List.append_nil]
        obtain ⟨u1, u2, u3⟩ := List.nodup_append.1 hndd'
        refine List.nodup_append.2 ⟨List.nodup_cons.2 ⟨fun hi => (hmem' id (.inl hi)).2.2 rfl, u1⟩, List.nodup_cons.2 ⟨fun hi => by have := (hmem' n' (.inr hi)).2.1; omega, u2⟩, fun a ha b hb => ?_⟩
        rcases List.mem_cons.1 ha with rfl | ha
        · rcases List.mem_cons.1 hb with rfl | hb
          · omega
          · exact fun e => (hmem' b (.inr hb)).2.2 e.symm
        · rcases List.mem_cons.1 hb with rfl | hb
          · have := (hmem' a (.inl ha)).2.1; omega
          · exact u3 a ha b hb
end Sp
end Go.Proofs.YtlpmjeiogdlifaaGreat
namespace Go.Proofs.YtlpmjeiogdlifaaGreat
open Go.RowKit
attribute [local go_sem low] mk_extract
attribute [local go_sem] After.cell After.frozen mk_extract_end ByteArray.mk_append_mk
namespace Sp
theorem leafPg_is {l : List Item} (h1 : 1 ≤ l.length) (h4 : l.length ≤ 4) (hr : Rising l) (hi : ∀ y ∈ l, isItem y = true) : isPage (leafPg l) = true := by
  have hne : l ≠ [] := by intro e; rw [e] at h1; simp at h1
  have hl : isLeaf l = true := by
    unfold isLeaf
    simp only [Bool.and_eq_true, decide_eq_true_eq]
    refine ⟨⟨allTo_true fun j hj => ?_, h1⟩, h4⟩
    have e : l.getD j item0 = l[j] := by simp [List.getD, hj]
    rw [leafAt_def, e, hi _ (List.getElem_mem hj), Bool.true_and]
    by_cases h0 : j = 0
    · simp [h0]
    · have e' : l.getD (j - 1) item0 = l[j - 1]'(by omega) := by simp [List.getD, show j - 1 < l.length by omega]
      rw [e', (List.pairwise_iff_getElem.1 hr) (j - 1) j (by omega) hj (by omega)]
      simp
  unfold isPage leafPg has
  simp [hl, hne]
theorem branchPg_is {d : Nat} {cs : List (Txt × T d)} (h2 : 2 ≤ cs.length) (h4 : cs.length ≤ 4) (hd : (cs.map (·.1)).head? = some []) (hs : ∀ c ∈ cs.tail, short c.1 = true) (hk : KeysRise cs)
    (hi : ∀ c ∈ cs, 2 ≤ T.id d c.2 ∧ T.id d c.2 < 400) : isPage (branchPg (cs.map (·.1)) (cs.map fun c => ((T.id d c.2 : Nat) : Int))) = true := by
  have hne : cs ≠ [] := by intro e; rw [e] at h2; simp at h2
  have hb : isBranch (branchPg (cs.map (·.1)) (cs.map fun c => ((T.id d c.2 : Nat) : Int))) = true := by
    rw [isBranch_def]
    simp only [branchPg, Bool.and_eq_true, decide_eq_true_eq, List.length_map]
    refine ⟨⟨⟨⟨h2, h4⟩, trivial⟩, ?_⟩, allTo_true fun j hj => ?_⟩
    · have e0 : (cs.map (·.1)).getD 0 [] = [] := by
        rw [List.head?_eq_getElem?] at hd
        rw [List.getD_eq_getElem?_getD, hd]
        rfl
      exact decide_eq_true e0
    · have ek : (cs.map (·.1)).getD j [] = cs[j].1 := by simp [List.getD, hj]
      have ei : (cs.map fun c => ((T.id d c.2 : Nat) : Int)).getD j 0 = ((T.id d cs[j].2 : Nat) : Int) := by simp [List.getD, hj]
      obtain ⟨a1, a2⟩ := hi cs[j] (List.getElem_mem hj)
      rw [branchAt_def, ek, ei]
      have hid : isID ((T.id d cs[j].2 : Nat) : Int) = true := by
        unfold isID
        simp only [Bool.and_eq_true, decide_eq_true_eq]
        omega
      rw [hid, Bool.true_and]
      by_cases h0 : j = 0
      · simp [h0]
      · have ek' : (cs.map (·.1)).getD (j - 1) [] = (cs[j - 1]'(by omega)).1 := by simp [List.getD, show j - 1 < cs.length by omega]
        rw [ek', (List.pairwise_iff_getElem.1 hk) (j - 1) j (by omega) hj (by omega), hs cs[j] ?_]
        · simp
        · rw [← List.drop_one, List.mem_iff_getElem]
          exact ⟨j - 1, by rw [List.length_drop]; omega, by rw [List.getElem_drop]; congr 1; omega⟩
  unfold isPage has
  simp only [branchPg] at hb ⊢
  simp [hb, hne]
theorem T.Ok.page_is {d : Nat} {t : T d} (h : T.Ok d true t) (hi : ∀ i ∈ T.ids d t, 2 ≤ i ∧ i < 400) : isPage (T.page d t) = true := by
  cases d with
  | zero => exact leafPg_is h.2.1 h.1 h.2.2.1 h.2.2.2
  | succ d =>
    obtain ⟨h2, h4, hd, hp, hs, ho⟩ := h
    exact branchPg_is h2 h4 hd hs (parted_keys hp fun c hc => (ho c hc).ne) fun c hc => hi _ (List.mem_cons_of_mem _ (List.mem_flatMap.2 ⟨c, hc, T.id_mem⟩))
theorem put_cnt (x : Item) : ∀ (d : Nat) (t : T d) (n : Nat), (T.ids d (T.put x d t n).1).length + (moreIds d (T.put x d t n).2.1).length + n = (T.ids d t).length + (T.put x d t n).2.2
  | 0, (id, l), n => by
    rw [put_zero]
    split
    · show [id].length + ([] : List Nat).length + n = [id].length + n
      simp
    · show [id].length + ([n] ++ [] : List Nat).length + n = [id].length + (n + 1)
      simp
      omega
  | d + 1, (id, cs), n => by
    rw [put_succ]
    cases hc : cs[downI x.key cs]? with
    | none => simp [moreIds]
    | some c =>
      dsimp only
      have ih := put_cnt x d c.2 n
      have hspl := split_at hc
      have hgr : graft (downI x.key cs) (T.put x d c.2 n).1 (T.put x d c.2 n).2.1 cs = cs.take (downI x.key cs) ++ (c.1, (T.put x d c.2 n).1) :: ((T.put x d c.2 n).2.1.toList ++ cs.drop (downI x.key cs + 1)) := by
        unfold graft
        rw [hc]
      rw [hgr]
      generalize downI x.key cs = k at *
      generalize T.put x d c.2 n = pr at *
      obtain ⟨t', more, n'⟩ := pr
      dsimp only at ih ⊢
      have hl : ((cs.take k ++ (c.1, t') :: (more.toList ++ cs.drop (k + 1))).flatMap fun a : Txt × T d => T.ids d a.2).length + n = (cs.flatMap fun a : Txt × T d => T.ids d a.2).length + n' := by
        have e : (cs.flatMap fun a : Txt × T d => T.ids d a.2).length = ((cs.take k ++ c :: cs.drop (k + 1)).flatMap fun a : Txt × T d => T.ids d a.2).length := by rw [← hspl]
        rw [e]
        simp only [List.flatMap_append, List.flatMap_cons, List.length_append]
        unfold moreIds at ih
        omega
      generalize cs.take k ++ (c.1, t') :: (more.toList ++ cs.drop (k + 1)) = ds at *
      by_cases h4 : ds.length ≤ 4
      · rw [if_pos h4]
        show (id :: ds.flatMap fun a : Txt × T d => T.ids d a.2).length + 0 + n = (id :: cs.flatMap fun a : Txt × T d => T.ids d a.2).length + n'
        simp only [List.length_cons]
        omega
      · rw [if_neg h4]
        cases hb : ds.drop 3 with
        | nil =>
          have := congrArg List.length hb
          simp at this
          omega
        | cons b bs =>
          show (id :: (ds.take 3).flatMap fun a : Txt × T d => T.ids d a.2).length + ((n' :: ((([] : Txt), b.2) :: bs).flatMap fun a : Txt × T d => T.ids d a.2) ++ []).length + n = (id :: cs.flatMap fun a : Txt × T d => T.ids d a.2).length + (n' + 1)
          have e2 : (ds.flatMap fun a : Txt × T d => T.ids d a.2).length = ((ds.take 3).flatMap fun a : Txt × T d => T.ids d a.2).length + ((b :: bs).flatMap fun a : Txt × T d => T.ids d a.2).length := by
            conv => lhs; rw [← List.take_append_drop 3 ds, hb]
            rw [List.flatMap_append, List.length_append]
          simp only [List.flatMap_cons, List.length_cons, List.length_append, List.append_nil] at *
          omega
theorem T.Ok.cnt : ∀ {d : Nat} {t : T d}, T.Ok d false t → (T.ids d t).length + 1 ≤ (T.items d t).length
  | 0, t, h => by
    have h2 : 2 ≤ t.2.length := h.2.1
    show 1 + 1 ≤ t.2.length
    exact h2
  | d + 1, (id, cs), h => by
    obtain ⟨h2, _, _, _, _, ho⟩ := h
    have h2 : 2 ≤ cs.length := h2
    have ho : ∀ c ∈ cs, T.Ok d false c.2 := ho
    have hsum : ∀ l : List (Txt × T d), (∀ c ∈ l, T.Ok d false c.2) → (l.flatMap fun a : Txt × T d => T.ids d a.2).length + l.length ≤ (l.flatMap fun a : Txt × T d => T.items d a.2).length := by
      intro l hl
      induction l with
      | nil => simp
      | cons a l ih =>
        have h1 := (hl a (by simp)).cnt
        have h2 := ih fun c hc => hl c (by simp [hc])
        simp only [List.flatMap_cons, List.length_append, List.length_cons]
        omega
    have := hsum cs ho
    show (id :: cs.flatMap fun a : Txt × T d => T.ids d a.2).length + 1 ≤ (cs.flatMap fun a : Txt × T d => T.items d a.2).length
    simp only [List.length_cons]
    omega
theorem T.Ok.deep : ∀ {d : Nat} {t : T d}, T.Ok d false t → 2 ^ (d + 1) ≤ (T.items d t).length
  | 0, t, h => h.2.1
  | d + 1, (id, cs), h => by
    obtain ⟨h2, _, _, _, _, ho⟩ := h
    have h2 : 2 ≤ cs.length := h2
    have ho : ∀ c ∈ cs, T.Ok d false c.2 := ho
    match cs, h2 with
    | a :: b :: l, _ =>
      have h1 := (ho a (by simp)).deep
      have h3 := (ho b (by simp)).deep
      show 2 ^ (d + 1 + 1) ≤ ((a :: b :: l).flatMap fun a : Txt × T d => T.items d a.2).length
      simp only [List.flatMap_cons, List.length_append]
      rw [Nat.pow_succ]
      omega
end Sp
end Go.Proofs.YtlpmjeiogdlifaaGreat
namespace Go.Proofs.YtlpmjeiogdlifaaGreat
open Go.RowKit
attribute [local go_sem low] mk_extract
attribute [local go_sem] After.cell After.frozen mk_extract_end ByteArray.mk_append_mk
namespace Sp
structure Rt where
  d : Nat
  t : T d
def Rt.items (o : Option Rt) : List Item := match o with | none => [] | some r => T.items r.d r.t
def Rt.root (o : Option Rt) : Nat := match o with | none => 0 | some r => T.id r.d r.t
def putR (x : Item) (o : Option Rt) (n : Nat) : Option Rt × Nat :=
  match o with
  | none => (some ⟨0, (n, [x])⟩, n + 1)
  | some r => match (T.put x r.d r.t n).2.1 with
    | none => (some ⟨r.d, (T.put x r.d r.t n).1⟩, (T.put x r.d r.t n).2.2)
    | some m => (some ⟨r.d + 1, ((T.put x r.d r.t n).2.2, [([], (T.put x r.d r.t n).1), m])⟩, (T.put x r.d r.t n).2.2 + 1)
def Rt.At (P : List Page) (o : Option Rt) (n : Nat) : Prop := match o with
  | none => P = [] ∧ n = 2
  | some r => T.On P r.d r.t n ∧ T.Ok r.d true r.t ∧ (T.ids r.d r.t).length + 2 = n
theorem At_none {x : Item} (hx : isItem x = true) : Rt.At [leafPg [x]] (putR x none 2).1 (putR x none 2).2 := by
  refine ⟨⟨rfl, ⟨Nat.le_refl _, rfl⟩, fun i hi => ?_, ?_⟩, ⟨by simp, by simp, by simp [Rising], fun y hy => ?_⟩, rfl⟩
  · have : i = 2 := List.mem_singleton.1 hi
    show i < 3
    omega
  · show [2].Nodup
    simp
  · rw [List.mem_singleton.1 hy]; exact hx
theorem At_same {x : Item} (hx : isItem x = true) {P P' : List Page} {r : Rt} {n : Nat} (h : Rt.At P (some r) n) (hr : PutRes P P' r.d r.t n (T.put x r.d r.t n)) (hm : (T.put x r.d r.t n).2.1 = none) :
    Rt.At P' (putR x (some r) n).1 (putR x (some r) n).2 ∧ Rt.items (putR x (some r) n).1 = insIt x (Rt.items (some r)) ∧ Rt.root (putR x (some r) n).1 = Rt.root (some r) := by
  obtain ⟨h1, h2, h3⟩ := h
  obtain ⟨q1, q2, q3, q4⟩ := put_spec hx r.d true r.t n h2
  have hc := put_cnt x r.d r.t n
  unfold putR
  dsimp only
  rw [hm] at q2 hc ⊢
  dsimp only
  have hids := hr.ids
  have hnd := hr.nodup
  rw [hm] at hids hnd
  have e0 : moreIds r.d (none : Option (Txt × T r.d)) = [] := rfl
  rw [e0, List.append_nil] at hids hnd
  rw [e0] at hc
  refine ⟨⟨⟨hr.len, hr.holds, fun i hi => (hids i hi).2, hnd⟩, q4, ?_⟩, ?_, q1⟩
  · show (T.ids r.d (T.put x r.d r.t n).1).length + 2 = (T.put x r.d r.t n).2.2
    simp at hc
    omega
  · show T.items r.d (T.put x r.d r.t n).1 = insIt x (T.items r.d r.t)
    simpa using q2
theorem At_new {x : Item} (hx : isItem x = true) {P P' : List Page} {r : Rt} {n : Nat} {m : Txt × T r.d} (h : Rt.At P (some r) n) (hr : PutRes P P' r.d r.t n (T.put x r.d r.t n)) (hm : (T.put x r.d r.t n).2.1 = some m) :
    Rt.At (P' ++ [branchPg [[], m.1] [((T.id r.d (T.put x r.d r.t n).1 : Nat) : Int), ((T.id r.d m.2 : Nat) : Int)]]) (putR x (some r) n).1 (putR x (some r) n).2 ∧ Rt.items (putR x (some r) n).1 = insIt x (Rt.items (some r)) ∧ Rt.root (putR x (some r) n).1 = (T.put x r.d r.t n).2.2 := by
  obtain ⟨h1, h2, h3⟩ := h
  obtain ⟨q1, q2, q3, q4⟩ := put_spec hx r.d true r.t n h2
  have hc := put_cnt x r.d r.t n
  have hids := hr.ids
  have hnd := hr.nodup
  have hho := hr.holds
  have hmo := hr.more m hm
  have hlen := hr.len
  have hle := hr.le
  have q3 := q3 m hm
  have hn2 : 2 ≤ n := by have := h1.len; omega
  unfold putR
  dsimp only
  rw [hm] at q2 hc hids hnd ⊢
  dsimp only
  generalize T.put x r.d r.t n = pr at *
  obtain ⟨t', more, n'⟩ := pr
  dsimp only at *
  have e0 : moreIds r.d (some m) = T.ids r.d m.2 := by unfold moreIds; simp
  rw [e0] at hids hnd hc
  have hkeep : ∀ {t : T r.d}, T.Holds P' r.d t → (∀ i ∈ T.ids r.d t, i < n') → T.Holds (P' ++ [branchPg [[], m.1] [((T.id r.d t' : Nat) : Int), ((T.id r.d m.2 : Nat) : Int)]]) r.d t := fun ht hi => ht.keep fun i hi' => by
    have := hi i hi'
    have := ht.ge i hi'
    rw [List.getElem?_append_left (by omega)]
  have hl1 : ∀ i ∈ T.ids r.d t', i < n' := fun i hi => (hids i (List.mem_append.2 (.inl hi))).2
  have hl2 : ∀ i ∈ T.ids r.d m.2, i < n' := fun i hi => (hids i (List.mem_append.2 (.inr hi))).2
  have hfl : ([(([] : Txt), t'), m].flatMap fun a : Txt × T r.d => T.ids r.d a.2) = T.ids r.d t' ++ T.ids r.d m.2 := by
    simp
  refine ⟨⟨⟨by rw [List.length_append]; show P'.length + 1 + 2 = n' + 1; omega, ⟨⟨by show 2 ≤ n'; omega, ?_⟩, fun a ha => ?_⟩, fun i hi => ?_, ?_⟩, ⟨by simp, by simp, rfl, ⟨?_, fun a ha => ?_⟩, fun a ha => ?_, fun a ha => ?_⟩, ?_⟩, ?_, rfl⟩
  · show (P' ++ [branchPg [[], m.1] [((T.id r.d t' : Nat) : Int), ((T.id r.d m.2 : Nat) : Int)]])[n' - 2]? = _
    rw [List.getElem?_append_right (by omega), show n' - 2 - P'.length = 0 by omega]
    rfl
  · have ha : a = ([], t') ∨ a = m := by simpa using ha
    rcases ha with rfl | rfl
    · exact hkeep hho hl1
    · exact hkeep hmo hl2
  · have hi : i ∈ n' :: ([(([] : Txt), t'), m].flatMap fun a : Txt × T r.d => T.ids r.d a.2) := hi
    rw [hfl] at hi
    rcases List.mem_cons.1 hi with rfl | hi
    · show i < i + 1; omega
    · have := (hids i hi).2
      show i < n' + 1
      omega
  · show (n' :: ([(([] : Txt), t'), m].flatMap fun a : Txt × T r.d => T.ids r.d a.2)).Nodup
    rw [hfl]
    exact List.nodup_cons.2 ⟨fun hi => by have := (hids n' hi).2; omega, hnd⟩
  · exact List.pairwise_cons.2 ⟨fun b hb y hy => by rw [List.mem_singleton.1 hb]; exact q3.1 y hy, by simp⟩
  · have ha : a = ([], t') ∨ a = m := by simpa using ha
    rcases ha with rfl | rfl
    · exact fun y _ => lt_nilF _
    · exact q3.2.1
  · have ha : a = m := by simpa using ha
    rw [ha]; exact q3.2.2.1
  · have ha : a = ([], t') ∨ a = m := by simpa using ha
    rcases ha with rfl | rfl
    · exact q3.2.2.2.2
    · exact q3.2.2.2.1
  · show (n' :: ([(([] : Txt), t'), m].flatMap fun a : Txt × T r.d => T.ids r.d a.2)).length + 2 = n' + 1
    rw [hfl, List.length_cons, List.length_append]
    omega
  · show [(([] : Txt), t'), m].flatMap (fun a : Txt × T r.d => T.items r.d a.2) = insIt x (T.items r.d r.t)
    rw [← q2]
    simp
end Sp
end Go.Proofs.YtlpmjeiogdlifaaGreat
namespace Go.Proofs.YtlpmjeiogdlifaaGreat
open Go.RowKit
attribute [local go_sem low] mk_extract
attribute [local go_sem] After.cell After.frozen mk_extract_end ByteArray.mk_append_mk
namespace Sp
def leafOf : (d : Nat) → T d → Txt → Txt → List Item × Txt
  | 0, t, _, b => (t.2, b)
  | d + 1, t, key, b => match t.2[downI key t.2]? with
    | none => ([], b)
    | some c => leafOf d c.2 key (match t.2[downI key t.2 + 1]? with | some c' => c'.1 | none => b)
theorem downI_uniq {α : Type} {key : Txt} : ∀ {cs : List (Txt × α)} {j : Nat} {c : Txt × α}, KeysRise cs → cs[j]? = some c → (j = 0 ∨ lt key c.1 = false) → (∀ p ∈ cs.drop (j + 1), lt key p.1 = true) → downI key cs = j
  | [], _, _, _, h, _, _ => by simp at h
  | [a], j, c, _, h, _, _ => by
    have := (List.getElem?_eq_some_iff.1 h).1
    simp at this
    simp [downI, this]
  | a :: b :: cs, 0, c, _, _, _, hp => by
    have := hp b (by simp)
    simp [downI, this]
  | a :: b :: cs, j + 1, c, hk, h, h0, hp => by
    obtain ⟨_, hk2⟩ := List.pairwise_cons.1 hk
    rw [List.getElem?_cons_succ] at h
    have hc : lt key c.1 = false := h0.resolve_left (by omega)
    have hb : lt key b.1 = false := by
      cases j with
      | zero =>
        have : b = c := by simpa using h
        rw [this]; exact hc
      | succ j =>
        have hcm : c ∈ cs := by
          rw [List.getElem?_cons_succ] at h
          exact List.mem_of_getElem? h
        have hbc := (List.pairwise_cons.1 hk2).1 c hcm
        rcases hq : lt key b.1 with _ | _
        · rfl
        · exact absurd (lt_trans hq hbc) (by rw [hc]; simp)
    have ih := downI_uniq (key := key) hk2 h (.inr hc) (fun p hp' => hp p (by rw [List.drop_succ_cons]; exact hp'))
    unfold downI
    rw [if_neg (by rw [hb]; simp), ih]
def LeafAt (d : Nat) (t : T d) (key b : Txt) : Prop :=
  ∃ A B, T.items d t = A ++ ((leafOf d t key b).1 ++ B) ∧ (∀ y ∈ A, lt y.key key = true) ∧ (leafOf d t key b).1 ≠ [] ∧
    (((leafOf d t key b).2 = b ∧ B = []) ∨ (lt key (leafOf d t key b).2 = true ∧ (∀ y ∈ (leafOf d t key b).1, lt y.key (leafOf d t key b).2 = true) ∧ (∀ y ∈ B, lt y.key (leafOf d t key b).2 = false) ∧ B ≠ [] ∧
      ∀ b', ∃ B', B = (leafOf d t (leafOf d t key b).2 b').1 ++ B'))
end Sp
end Go.Proofs.YtlpmjeiogdlifaaGreat
namespace Go.Proofs.YtlpmjeiogdlifaaGreat
open Go.RowKit
attribute [local go_sem low] mk_extract
attribute [local go_sem] After.cell After.frozen mk_extract_end ByteArray.mk_append_mk
namespace Sp
def Wants (w : Item → Bool) (key : Txt) : Prop := (∀ y : Item, lt y.key key = true → w y = false) ∧ ∀ y : Item, lt key y.key = true → w y = true
def keyN (n : Nat) : Txt := [UInt8.ofNat (97 + n / 26), UInt8.ofNat (97 + n % 26)]
def itN (n : Nat) : Item := ⟨keyN n, 1, [118], 0, 0, [], 0, root0⟩
theorem keyN_lt : ∀ a, a < 256 → ∀ b, b < 256 → lt (keyN a) (keyN b) = decide (a < b) := by decide +kernel
theorem itN_is : ∀ a, a < 256 → isItem (itN a) = true := by decide +kernel
def insN (n : Nat) : List Nat → List Nat
  | [] => [n]
  | m :: l => if m < n then m :: insN n l else if m = n then m :: l else n :: m :: l
theorem mem_insN {n k : Nat} : ∀ {l : List Nat}, k ∈ insN n l ↔ k = n ∨ k ∈ l
  | [] => by simp [insN]
  | m :: l => by
    unfold insN
    split
    · rw [List.mem_cons, mem_insN, List.mem_cons]
      constructor
      · rintro (h | h | h) <;> simp [h]
      · rintro (h | h | h) <;> simp [h]
    · split
      · rename_i h
        subst h
        simp
      · simp
theorem insN_sorted {n : Nat} : ∀ {l : List Nat}, l.Pairwise (· < ·) → (insN n l).Pairwise (· < ·)
  | [], _ => by simp [insN]
  | m :: l, h => by
    obtain ⟨h1, h2⟩ := List.pairwise_cons.1 h
    unfold insN
    split
    · rename_i hm
      refine List.pairwise_cons.2 ⟨fun k hk => ?_, insN_sorted h2⟩
      rcases mem_insN.1 hk with rfl | hk
      · exact hm
      · exact h1 k hk
    · split
      · exact h
      · rename_i h3 h4
        refine List.pairwise_cons.2 ⟨fun k hk => ?_, h⟩
        rcases List.mem_cons.1 hk with rfl | hk
        · omega
        · have := h1 k hk; omega
theorem insN_len {n : Nat} : ∀ l : List Nat, (insN n l).length ≤ l.length + 1
  | [] => by simp [insN]
  | m :: l => by
    have := insN_len (n := n) l
    unfold insN
    split
    · simp; omega
    · split <;> simp
theorem insIt_N {n : Nat} (hn : n < 256) : ∀ {l : List Nat}, (∀ k ∈ l, k < 256) → insIt (itN n) (l.map itN) = (insN n l).map itN
  | [], _ => rfl
  | m :: l, h => by
    have hm := h m (by simp)
    have e1 : lt (itN m).key (itN n).key = decide (m < n) := keyN_lt m hm n hn
    have ih := insIt_N hn (l := l) fun k hk => h k (by simp [hk])
    have e2 : (itN m).key = (itN n).key ↔ m = n := by
      constructor
      · intro e
        have a1 := keyN_lt m hm n hn
        have a2 := keyN_lt n hn m hm
        rw [show keyN m = keyN n from e, lt_irr] at a1
        rw [show keyN m = keyN n from e, lt_irr] at a2
        have := of_decide_eq_false a1.symm
        have := of_decide_eq_false a2.symm
        omega
      · rintro rfl; rfl
    rw [List.map_cons]
    unfold insIt insN
    by_cases h1 : m < n
    · rw [if_pos (by rw [e1]; exact decide_eq_true h1), if_pos h1, ih]
      rfl
    · rw [if_neg (by rw [e1]; simpa using h1), if_neg h1]
      by_cases h2 : m = n
      · rw [if_pos (e2.2 h2), if_pos h2, h2]
        rfl
      · rw [if_neg (fun e => h2 (e2.1 e)), if_neg h2]
        rfl
def numsOf (keys : List Nat) : List Nat := keys.foldl (fun l n => insN n l) []
theorem numsOf_snoc (keys : List Nat) (n : Nat) : numsOf (keys ++ [n]) = insN n (numsOf keys) := by
  unfold numsOf
  rw [List.foldl_append]
  rfl
end Sp
end Go.Proofs.YtlpmjeiogdlifaaGreat
namespace Go.Proofs.YtlpmjeiogdlifaaGreat
open Go.RowKit
attribute [local go_sem low] mk_extract
attribute [local go_sem] After.cell After.frozen mk_extract_end ByteArray.mk_append_mk
namespace Sp
theorem T.Ok.cnt_top {d : Nat} {t : T d} (h : T.Ok d true t) : (T.ids d t).length ≤ (T.items d t).length := by
  cases d with
  | zero =>
    show 1 ≤ t.2.length
    exact h.2.1
  | succ d =>
    have h' : T.Ok (d + 1) false t := h
    have := h'.cnt
    omega
theorem T.Ok.deep_top {d : Nat} {t : T d} (h : T.Ok d true t) : 2 ^ d ≤ (T.items d t).length := by
  cases d with
  | zero =>
    show 1 ≤ t.2.length
    exact h.2.1
  | succ d =>
    have h' : T.Ok (d + 1) false t := h
    have := h'.deep
    rw [Nat.pow_succ] at this
    omega
theorem T.Ok.lev {d : Nat} {t : T d} (h : T.Ok d true t) (hn : (T.items d t).length < 256) : d < 8 := by
  have h1 := h.deep_top
  rcases Nat.lt_or_ge d 8 with h2 | h2
  · exact h2
  · have := Nat.pow_le_pow_right (show 0 < 2 by decide) h2
    omega
theorem Rt.At.cnt {P : List Page} {o : Option Rt} {n : Nat} (h : Rt.At P o n) : n ≤ (Rt.items o).length + 2 := by
  cases o with
  | none =>
    obtain ⟨_, rfl⟩ := h
    simp
  | some r =>
    obtain ⟨_, h2, h3⟩ := h
    have := h2.cnt_top
    show n ≤ (T.items r.d r.t).length + 2
    omega
theorem numsOf_lt {keys : List Nat} (h : ∀ k ∈ keys, k < 256) : ∀ k ∈ numsOf keys, k < 256 := by
  have : ∀ (l : List Nat), (∀ k ∈ l, k < 256) → ∀ k ∈ keys.foldl (fun l n => insN n l) l, k < 256 := by
    induction keys with
    | nil => exact fun l hl => hl
    | cons a keys ih =>
      intro l hl
      refine ih (fun k hk => h k (by simp [hk])) _ fun k hk => ?_
      rcases mem_insN.1 hk with rfl | hk
      · exact h k (by simp)
      · exact hl k hk
  exact this [] (by simp)
theorem numsOf_mem {keys : List Nat} {n : Nat} : n ∈ numsOf keys ↔ n ∈ keys := by
  have : ∀ (l : List Nat), n ∈ keys.foldl (fun l n => insN n l) l ↔ n ∈ l ∨ n ∈ keys := by
    induction keys with
    | nil => simp
    | cons a keys ih =>
      intro l
      rw [List.foldl_cons, ih, mem_insN, List.mem_cons]
      constructor
      · rintro ((h | h) | h) <;> simp [h]
      · rintro (h | h | h) <;> simp [h]
  have := this []
  simpa [numsOf] using this
theorem numsOf_sorted (keys : List Nat) : (numsOf keys).Pairwise (· < ·) := by
  have : ∀ (l : List Nat), l.Pairwise (· < ·) → (keys.foldl (fun l n => insN n l) l).Pairwise (· < ·) := by
    induction keys with
    | nil => exact fun l hl => hl
    | cons a keys ih => exact fun l hl => ih _ (insN_sorted hl)
  exact this [] List.Pairwise.nil
theorem numsOf_len (keys : List Nat) : (numsOf keys).length ≤ keys.length := by
  have : ∀ (l : List Nat), (keys.foldl (fun l n => insN n l) l).length ≤ l.length + keys.length := by
    induction keys with
    | nil => simp
    | cons a keys ih =>
      intro l
      have h1 := ih (insN a l)
      have h2 := insN_len (n := a) l
      rw [List.foldl_cons, List.length_cons]
      omega
  simpa [numsOf] using this []
end Sp
end Go.Proofs.YtlpmjeiogdlifaaGreat
