/- Trees of the document: in which leaf a key is, from which key on others follow. The document's stores: a page's place; half; which child. The document's stores: a page set in place of one. The document's stores: down: which child. The document's stores: a page that is laid behind all others: what is held. -/
import Derived.Test.YtmcpkhknjdiocaaGreatDoorQB03
import Derived.Test.YtmcpkhknjdiocaaGreatDoorQB04
import Derived.Test.YtmcpkhknjdiocaaGreatDoorQB13
import Derived.Test.YtmcpkhknjdiocaaGreatDoorQB21
import Derived.Test.YtmcpkhknjdiocaaGreatDoorQB22
import Derived.Deep.AppendLies
set_option linter.unusedSimpArgs false
set_option linter.unusedVariables false
namespace Go.Proofs.YtmcpkhknjdiocaaGreatDoor
open Go.RowKit
attribute [local go_sem low] mk_extract
attribute [local go_sem] After.cell After.frozen mk_extract_end ByteArray.mk_append_mk
namespace Sp
def leafOf : (d : Nat) → T d → Txt → Txt → List Item × Txt
  | 0, t, _, b => (t.2, b)
  | d + 1, t, key, b => match t.2[downI key t.2]? with
    | none => ([], b)
    | some c => leafOf d c.2 key (match t.2[downI key t.2 + 1]? with | some c' => c'.1 | none => b)
theorem leafOf_succ (d id : Nat) (cs : List (Txt × T d)) (key b : Txt) : leafOf (d + 1) (id, cs) key b = match cs[downI key cs]? with
    | none => ([], b)
    | some c => leafOf d c.2 key (match cs[downI key cs + 1]? with | some c' => c'.1 | none => b) := rfl
theorem leafOf_fst : ∀ (d : Nat) (t : T d) (key b b' : Txt), (leafOf d t key b).1 = (leafOf d t key b').1
  | 0, _, _, _, _ => rfl
  | d + 1, (id, cs), key, b, b' => by
    rw [leafOf_succ, leafOf_succ]
    cases cs[downI key cs]? with
    | none => rfl
    | some c => exact leafOf_fst d c.2 key _ _
theorem downI_uniq {α : Type} {key : Txt} : ∀ {cs : List (Txt × α)} {j : Nat} {c : Txt × α}, KeysRise cs → cs[j]? = some c → (j = 0 ∨ lt key c.1 = false) → (∀ p ∈ cs.drop (j + 1), lt key p.1 = true) → downI key cs = j
  | [], _, _, _, h, _, _ => by simp at h
  | [a], j, c, _, h, _, _ => by
    have := (List.getElem?_eq_some_iff.1 h).1
    simp at this
    simp [downI, this]
  | a :: b :: cs, 0, c, _, _, _, hp => by
    have := hp b (by simp)
    simp [downI, this]
  | a :: b :: cs, j + 1, c, hk, h, h0, hp => by
    obtain ⟨_, hk2⟩ := List.pairwise_cons.1 hk
    rw [List.getElem?_cons_succ] at h
    have hc : lt key c.1 = false := h0.resolve_left (by omega)
    have hb : lt key b.1 = false := by
      cases j with
      | zero =>
        have : b = c := by simpa using h
        rw [this]; exact hc
      | succ j =>
        have hcm : c ∈ cs := by
          rw [List.getElem?_cons_succ] at h
          exact List.mem_of_getElem? h
        have hbc := (List.pairwise_cons.1 hk2).1 c hcm
        rcases hq : lt key b.1 with _ | _
        · rfl
        · exact absurd (lt_trans hq hbc) (by rw [hc]; simp)
    have ih := downI_uniq (key := key) hk2 h (.inr hc) (fun p hp' => hp p (by rw [List.drop_succ_cons]; exact hp'))
    unfold downI
    rw [if_neg (by rw [hb]; simp), ih]
/-- What lies around a leaf. -/
def LeafAt (d : Nat) (t : T d) (key b : Txt) : Prop :=
  ∃ A B, T.items d t = A ++ ((leafOf d t key b).1 ++ B) ∧ (∀ y ∈ A, lt y.key key = true) ∧ (leafOf d t key b).1 ≠ [] ∧
    (((leafOf d t key b).2 = b ∧ B = []) ∨ (lt key (leafOf d t key b).2 = true ∧ (∀ y ∈ (leafOf d t key b).1, lt y.key (leafOf d t key b).2 = true) ∧ (∀ y ∈ B, lt y.key (leafOf d t key b).2 = false) ∧ B ≠ [] ∧
      ∀ b', ∃ B', B = (leafOf d t (leafOf d t key b).2 b').1 ++ B'))
theorem leaf_law : ∀ (d : Nat) (top : Bool) (t : T d) (key b : Txt), T.Ok d top t → LeafAt d t key b
  | 0, top, t, key, b, h => by
    refine ⟨[], [], ?_, by simp, ?_, .inl ⟨rfl, rfl⟩⟩
    · show t.2 = [] ++ (t.2 ++ [])
      simp
    · exact h.ne
  | d + 1, top, (id, cs), key, b, h => by
    obtain ⟨l2, l4, hd, hp, hsh, hok⟩ := h
    have l2 : 2 ≤ cs.length := l2
    have hd : (cs.map (·.1)).head? = some [] := hd
    have hp : Parted (T.items d) cs := hp
    have hok : ∀ c ∈ cs, T.Ok d false c.2 := hok
    have hke := parted_keys hp fun c hc => (hok c hc).ne
    have hne : cs ≠ [] := by intro e; rw [e] at l2; simp at l2
    have hk := downI_lt key hne
    have hc0 := List.getElem?_eq_getElem hk
    have hpost := downI_post key hke
    have hat := downI_at key hc0
    have hspl := split_at hc0
    have hcm : cs[downI key cs] ∈ cs := List.getElem_mem hk
    have hkc : lt key cs[downI key cs].1 = false := by
      rcases hat with h0 | h0
      · have : cs[downI key cs].1 = [] := by
          rw [List.head?_map, List.head?_eq_getElem?, (congrArg (cs[·]?) h0).symm.trans hc0] at hd
          simpa using hd
        rw [this]
        exact lt_nilF _
      · exact h0
    have hL : leafOf (d + 1) (id, cs) key b = leafOf d cs[downI key cs].2 key (match cs[downI key cs + 1]? with | some c' => c'.1 | none => b) := by
      rw [leafOf_succ, hc0]
    have hnext : ∀ key', lt key' cs[downI key cs].1 = false → (∀ p ∈ cs.drop (downI key cs + 1), lt key' p.1 = true) → ∀ b', (leafOf (d + 1) (id, cs) key' b').1 = (leafOf d cs[downI key cs].2 key' b').1 := fun key' h1 h2 b' => by
      have := downI_uniq (key := key') hke hc0 (.inr h1) h2
      rw [leafOf_succ, this, hc0]
      exact leafOf_fst d _ _ _ _
    unfold LeafAt
    rw [hL]
    obtain ⟨A, B, e1, e2, e3, e4⟩ := leaf_law d false cs[downI key cs].2 key (match cs[downI key cs + 1]? with | some c' => c'.1 | none => b) (hok _ hcm)
    generalize hc : cs[downI key cs] = c at *
    generalize downI key cs = k at *
    have hp2 : Parted (T.items d) (cs.take k ++ c :: cs.drop (k + 1)) := by rw [← hspl]; exact hp
    obtain ⟨pw, plo⟩ := hp2
    obtain ⟨p1, p2, p3⟩ := List.pairwise_append.1 pw
    obtain ⟨p4, p5⟩ := List.pairwise_cons.1 p2
    have hflat : T.items (d + 1) (id, cs) = (cs.take k).flatMap (fun a => T.items d a.2) ++ (T.items d c.2 ++ (cs.drop (k + 1)).flatMap fun a => T.items d a.2) := by
      show cs.flatMap (fun a => T.items d a.2) = _
      conv => lhs; rw [hspl]
      rw [List.flatMap_append, List.flatMap_cons]
    have hA : ∀ y ∈ (cs.take k).flatMap (fun a => T.items d a.2) ++ A, lt y.key key = true := fun y hy => by
      rcases List.mem_append.1 hy with hy | hy
      · obtain ⟨a, ha, hy⟩ := List.mem_flatMap.1 hy
        exact lt_le (p3 a ha c (by simp) y hy) hkc
      · exact e2 y hy
    rcases e4 with ⟨e4, rfl⟩ | ⟨f1, f2, f3, f4, f5⟩
    · cases hps : cs.drop (k + 1) with
      | nil =>
        have hnone : cs[k + 1]? = none := by
          have := congrArg List.length hps
          rw [List.length_drop] at this
          exact List.getElem?_eq_none (by simp at this; omega)
        simp only [hnone] at e1 e3 e4 ⊢
        refine ⟨_, [], ?_, hA, e3, .inl ⟨e4, rfl⟩⟩
        rw [hflat, hps, e1]
        simp
      | cons c' ps =>
        have hsome : cs[k + 1]? = some c' := by
          have := congrArg (·[0]?) hps
          simpa using this
        simp only [hsome] at e1 e3 e4 ⊢
        rw [hps] at p4 p5 hpost plo hnext
        have hc'm : c' ∈ cs := List.mem_of_getElem? hsome
        rw [e4]
        have hlo : ∀ y ∈ (c' :: ps).flatMap (fun a => T.items d a.2), lt y.key c'.1 = false := fun y hy => by
          obtain ⟨a, ha, hy⟩ := List.mem_flatMap.1 hy
          have h1 := plo a (by simp at ha ⊢; rcases ha with h | h <;> simp [h]) y hy
          rcases List.mem_cons.1 ha with rfl | ha'
          · exact h1
          · obtain ⟨z, hz⟩ := List.exists_mem_of_ne_nil _ (hok c' hc'm).ne
            have h2 := le_lt (plo c' (by simp) z hz) ((List.pairwise_cons.1 p5).1 a ha' z hz)
            rcases hq : lt y.key c'.1 with _ | _
            · rfl
            · exact absurd (lt_trans hq h2) (by rw [h1]; simp)
        refine ⟨_, (c' :: ps).flatMap (fun a => T.items d a.2), ?_, hA, e3, .inr ⟨hpost c' (by simp), fun y hy => ?_, hlo, ?_, fun b' => ?_⟩⟩
        · rw [hflat, hps, e1]
          simp
        · exact p4 c' (by simp) y (by rw [e1]; simp [hy])
        · intro e
          rw [List.flatMap_eq_nil_iff] at e
          exact (hok c' hc'm).ne (e c' (by simp))
        · have hun : downI c'.1 cs = k + 1 := downI_uniq (key := c'.1) hke hsome (.inr (lt_irr _)) (fun p hp' => by
            have : cs.drop (k + 1 + 1) = ps := by
              rw [← List.drop_drop, hps]
              rfl
            rw [this] at hp'
            obtain ⟨z, hz⟩ := List.exists_mem_of_ne_nil _ (hok c' hc'm).ne
            exact le_lt (plo c' (by simp) z hz) ((List.pairwise_cons.1 p5).1 p hp' z hz))
          have hl' : (leafOf (d + 1) (id, cs) c'.1 b').1 = (leafOf d c'.2 c'.1 b').1 := by
            rw [leafOf_succ, hun, hsome]
            exact leafOf_fst d _ _ _ _
          obtain ⟨A2, B2, g1, g2, _, _⟩ := leaf_law d false c'.2 c'.1 b' (hok c' hc'm)
          have hA2 : A2 = [] := by
            cases A2 with
            | nil => rfl
            | cons y ys =>
              have h1 := g2 y (by simp)
              have h2 := plo c' (by simp) y (by rw [g1]; simp)
              rw [h2] at h1
              simp at h1
          refine ⟨B2 ++ ps.flatMap (fun a => T.items d a.2), ?_⟩
          rw [hl', List.flatMap_cons, g1, hA2]
          simp
    · obtain ⟨z, hz⟩ := List.exists_mem_of_ne_nil _ f4
      have hzc : z ∈ T.items d c.2 := by rw [e1]; simp [hz]
      generalize hbl : (leafOf d c.2 key (match cs[k + 1]? with | some c' => c'.1 | none => b)).2 = key' at *
      have hnx : ∀ p ∈ cs.drop (k + 1), lt key' p.1 = true := fun p hp' => le_lt (f3 z hz) (p4 p hp' z hzc)
      have hkc' : lt key' c.1 = false := by
        rcases hq : lt key' c.1 with _ | _
        · rfl
        · exact absurd (lt_trans f1 hq) (by rw [hkc]; simp)
      refine ⟨_, B ++ (cs.drop (k + 1)).flatMap (fun a => T.items d a.2), ?_, hA, e3, .inr ⟨f1, f2, fun y hy => ?_, ?_, fun b' => ?_⟩⟩
      · rw [hflat, e1]
        simp
      · rcases List.mem_append.1 hy with hy | hy
        · exact f3 y hy
        · obtain ⟨a, ha, hy⟩ := List.mem_flatMap.1 hy
          have h1 := plo a (by simp [ha]) y hy
          rcases hq : lt y.key key' with _ | _
          · rfl
          · exact absurd (lt_trans hq (hnx a ha)) (by rw [h1]; simp)
      · intro e
        exact f4 (List.append_eq_nil_iff.1 e).1
      · obtain ⟨B', hB'⟩ := f5 b'
        refine ⟨B' ++ (cs.drop (k + 1)).flatMap (fun a => T.items d a.2), ?_⟩
        rw [hnext key' hkc' hnx b']
        conv => lhs; rw [hB']
        simp
end Sp
end Go.Proofs.YtmcpkhknjdiocaaGreatDoor
namespace Go.Proofs.YtmcpkhknjdiocaaGreatDoor
open Go.RowKit
attribute [local go_sem low] mk_extract
attribute [local go_sem] After.cell After.frozen mk_extract_end ByteArray.mk_append_mk
set_option maxRecDepth 100000 in
set_option maxHeartbeats 1600000 in
theorem place_no (s : Nat) (fp vi vp : Value) (P : List Sp.Page) (id : Int) (w : World) (h : StoreAt w s fp vi vp P) (hn : P.length ≤ 400) :
    Calls Tryz.prog 149 #[.pointer (some ⟨s, 0, none⟩), .int .i64 id] w fun e w' => e = .returned (.int .i64 (if 2 ≤ id ∧ id < ((P.length + 2 : Nat) : Int) then id - 2 else -1)) ∧ w = w' := by
  obtain ⟨A, c, rfl⟩ := own_form h.oi
  have c5 : w.cell? ⟨s, 5, none⟩ = some (.slice A P.length c) := h.bs.cell 5
  have HO := Lib.hid h.oi
  have HV := Lib.hid (fun (x : Int) (hx : (if 2 ≤ id ∧ id < ((P.length + 2 : Nat) : Int) then id - 2 else -1) = x) => hx)
  generalize hv : (if 2 ≤ id ∧ id < ((P.length + 2 : Nat) : Int) then id - 2 else -1) = v at *
  have HVV := Lib.hid hv
  clear h hv HV
  go_enter Tryz.func149, Tryz.ntmps149
  go_wp2_with fail
  go_loopw [5] (fun i wr => ∃ k : Nat, k ≤ P.length ∧ i = .int .i64 (k : Int) ∧ wr = w ∧ Hid (∀ j : Nat, j < k → ((j + 2 : Nat) : Int) ≠ id)) (fun i _ => P.length - (intOf i).toNat)
  case atStart => exact ⟨0, by omega, rfl, rfl, Lib.hid (fun j hj => absurd hj (by omega))⟩
  case round =>
    obtain ⟨k, hk, rfl, rfl, hno⟩ := hrel
    by_cases hlt : k < P.length
    · obtain ⟨g, rfl⟩ : ∃ g, A = some ⟨g, 0, none⟩ := by
        rcases HO.out.2 with ⟨_, h0⟩ | ⟨g, cap, cur, h0, _⟩
        · omega
        · exact ⟨g, by simpa using (Value.slice.inj h0).1⟩
      have hc := (own_at HO.out hlt).1
      have e : (idsV P.length).getD k undef = .int .i64 ((k : Int) + 2) := by
        rw [List.getD_eq_getElem?_getD, idsV_at hlt]
        rfl
      rw [e] at hc
      by_cases he : (k : Int) + 2 = id
      · have heb : ((k : Int) + 2 == id) = true := beq_iff_eq.2 he
        have HE := Lib.hid he
        clear he e
        go_wp2_with fail
        go_ret
        refine ⟨ret_int ?_, rfl⟩
        rw [← HVV.out, if_pos ⟨by have := HE.out; omega, by have := HE.out; omega⟩]
        have := HE.out
        omega
      · have heb : ((k : Int) + 2 == id) = false := beq_eq_false_iff_ne.2 he
        have HE := Lib.hid he
        clear he e
        go_wp2_with fail
        go_roundw
        case rel =>
          refine ⟨k + 1, by omega, by go_num, trivial, Lib.hid fun j hj => ?_⟩
          rcases Nat.lt_succ_iff_lt_or_eq.1 hj with h' | rfl
          · exact hno.out j h'
          · have := HE.out; omega
        case measure => simp [intOf]; omega
    · obtain rfl : k = P.length := by omega
      clear hlt
      go_wp2_with fail
      go_ret
      refine ⟨ret_int ?_, rfl⟩
      rw [← HVV.out, if_neg (fun h => hno.out (id - 2).toNat (by omega) (by omega))]
set_option maxRecDepth 100000 in
set_option maxHeartbeats 400000 in
theorem half_any (n : Int) (h0 : 0 ≤ n) (h1 : n ≤ 1000) (w : World) : Calls Tryz.prog 127 #[.int .i64 n] w fun e w' => e = .returned (.int .i64 ((n + 1) / 2)) ∧ w = w' := by
  go_enter Tryz.func127, Tryz.ntmps127
  go_wp2
  go_ret
  refine ⟨ret_int ?_, rfl⟩
  first | rfl | (simp [IntKind.wrap_i64, Int.tdiv_eq_ediv_of_nonneg (show 0 ≤ n + 1 by omega)]; omega) | omega
namespace Sp
/-- The last key but the first that isn't above, of so many. -/
def dn (ks : List Txt) (key : Txt) : Nat → Nat
  | 0 => 0
  | i + 1 => if i ≠ 0 ∧ lt key (ks.getD i []) = false then i else dn ks key i
theorem dn_at (ks : List Txt) (key : Txt) : ∀ i, (dn ks key i = 0 ∨ lt key (ks.getD (dn ks key i) []) = false) ∧ (dn ks key i = 0 ∨ dn ks key i < i) ∧ ∀ m, dn ks key i < m → m < i → lt key (ks.getD m []) = true
  | 0 => ⟨.inl rfl, .inl rfl, fun m _ h => absurd h (by omega)⟩
  | i + 1 => by
    obtain ⟨h1, h2, h3⟩ := dn_at ks key i
    unfold dn
    by_cases h : i ≠ 0 ∧ lt key (ks.getD i []) = false
    · rw [if_pos h]
      exact ⟨.inr h.2, .inr (by omega), fun m h4 h5 => absurd h4 (by omega)⟩
    · rw [if_neg h]
      refine ⟨h1, by omega, fun m h4 h5 => ?_⟩
      rcases Nat.lt_succ_iff_lt_or_eq.1 h5 with h6 | rfl
      · exact h3 m h4 h6
      · have hm : m ≠ 0 := by omega
        rcases hq : lt key (ks.getD m []) with _ | _
        · exact absurd ⟨hm, hq⟩ h
        · rfl
theorem dn_downI {α : Type} {key : Txt} {cs : List (Txt × α)} (hk : KeysRise cs) (hne : cs ≠ []) : dn (cs.map (·.1)) key cs.length = downI key cs := by
  obtain ⟨h1, h2, h3⟩ := dn_at (cs.map (·.1)) key cs.length
  have hpos : 0 < cs.length := List.length_pos_iff.2 hne
  have hlt : dn (cs.map (·.1)) key cs.length < cs.length := by omega
  generalize dn (cs.map (·.1)) key cs.length = j at *
  have e : ∀ m (hm : m < cs.length), (cs.map (·.1)).getD m [] = cs[m].1 := fun m hm => by simp [List.getD, hm]
  refine (downI_uniq hk (List.getElem?_eq_getElem hlt) ?_ fun p hp => ?_).symm
  · rw [e j hlt] at h1
    exact h1
  · obtain ⟨i, hi, rfl⟩ := List.getElem_of_mem hp
    rw [List.length_drop] at hi
    rw [List.getElem_drop]
    have := h3 (j + 1 + i) (by omega) (by omega)
    rw [e (j + 1 + i) (by omega)] at this
    exact this
end Sp
end Go.Proofs.YtmcpkhknjdiocaaGreatDoor
namespace Go.Proofs.YtmcpkhknjdiocaaGreatDoor
open Go.RowKit
attribute [local go_sem low] mk_extract
attribute [local go_sem] After.cell After.frozen mk_extract_end ByteArray.mk_append_mk
theorem info_page : (Tryz.prog.info? 119).map (fun i => (i.zero, i.size, i.bytes)) = some (some (.agg #[.int .i64 0, .slice none 0 0, .slice none 0 0, .slice none 0 0, .string ⟨#[]⟩, .slice none 0 0, .slice none 0 0, .int .i64 0, .int .u64 0, .int .i64 0, .int .i64 0, .int .i64 0, .int .i64 0, .int .i64 0]), 14, 200) := by kernel_rfl
theorem pageV_one (p : Sp.Page) (r : Refs) : ∀ u ∈ pageV p r, u.oneCell' = true := by
  intro u hu
  simp only [pageV, mtV, List.mem_append, List.mem_cons, List.not_mem_nil, or_false] at hu
  rcases hu with rfl | rfl | rfl | rfl | rfl | rfl | rfl | rfl | rfl | rfl | rfl | rfl | rfl | rfl <;> rfl
theorem pageV_all (p : Sp.Page) (r : Refs) : (pageV p r).toArray.all (·.oneCell') = true := by
  rw [Array.all_eq_true_iff_forall_mem]
  intro u hu
  exact pageV_one p r u (by simpa using hu)
theorem PgCells.one {w : World} {M : Nat → Prop} : ∀ {P : List Sp.Page} {xs : List Value}, PgCells w M P xs → ∀ u ∈ xs, u.oneCell' = true
  | [], xs, h, u, hu => by
    have h : xs = [] := h
    rw [h] at hu; simp at hu
  | p :: P, xs, ⟨r, ys, e, _, h⟩, u, hu => by
    rw [e] at hu
    rcases List.mem_append.1 hu with hu | hu
    · exact pageV_one p r u hu
    · exact h.one u hu
theorem PgCells.set {w : World} {M : Nat → Prop} {q : Sp.Page} {s : Refs} (hq : PageRd w M q s) : ∀ {P : List Sp.Page} {xs : List Value} {k : Nat}, PgCells w M P xs → k < P.length → PgCells w M (P.set k q) (xs.take (k * 14) ++ pageV q s ++ xs.drop (k * 14 + 14))
  | [], _, _, _, h => by simp at h
  | p :: P, xs, 0, ⟨r, ys, e, _, h⟩, _ => by
    have hl : (pageV p r).length = 14 := by simp [pageV, mtV]
    refine ⟨s, ys, ?_, hq, h⟩
    rw [e, Nat.zero_mul, List.take_zero, List.nil_append, Nat.zero_add, ← hl, List.drop_left]
  | p :: P, xs, k + 1, ⟨r, ys, e, hr, h⟩, hk => by
    have hl : (pageV p r).length = 14 := by simp [pageV, mtV]
    refine ⟨r, ys.take (k * 14) ++ pageV q s ++ ys.drop (k * 14 + 14), ?_, hr, h.set hq (by simpa using hk)⟩
    rw [e, show (k + 1) * 14 = (pageV p r).length + k * 14 by omega, List.take_append, show (pageV p r).length + k * 14 + 14 = (pageV p r).length + (k * 14 + 14) by omega, List.drop_append]
    rw [List.take_of_length_le (by omega), List.drop_eq_nil_of_le (by omega), Nat.add_sub_cancel_left, Nat.add_sub_cancel_left]
    simp
/-- The block of an owned row. -/
theorem own_blk {w : World} {base n : Nat} {e : TypeId} {size g cap : Nat} {xs : List Value} (h : w.ownsRow base e size (.slice (some ⟨g, 0, none⟩) n cap) n xs) :
    ∃ cur, Blk w g e cur ∧ n * size ≤ cur.size ∧ cur.toList.take (n * size) = xs ∧ ∀ (w' : World) (cur' : Array Value), Blk w' g e cur' → cur'.size = cur.size → w'.ownsRow base e size (.slice (some ⟨g, 0, none⟩) n cap) n (cur'.toList.take (n * size)) := by
  obtain ⟨h1, h2⟩ := h
  rcases h2 with ⟨h', _⟩ | ⟨g', cap', cur, hv, hb, hB, hn, hm, hs, ht⟩
  · cases h'
  · simp only [Value.slice.injEq, Option.some.injEq, Addr.mk.injEq] at hv
    obtain ⟨⟨rfl, _⟩, _, rfl⟩ := hv
    have hle : n * size ≤ cur.size := by
      rw [hs]; exact Nat.mul_le_mul_right _ hn
    refine ⟨cur, hB, hle, ht, fun w' cur' hB' hs' => ⟨?_, .inr ⟨g, cap, cur', rfl, hb, hB', hn, hm, hs'.trans hs, rfl⟩⟩⟩
    rw [List.length_take, Array.length_toList, hs']
    omega
theorem own_nil (w : World) (base : Nat) (e : TypeId) (size : Nat) : w.ownsRow base e size (.slice none 0 0) 0 [] := ⟨by simp, .inl ⟨rfl, rfl⟩⟩
theorem own_some {w : World} {base n : Nat} {e : TypeId} {size : Nat} {v : Value} {xs : List Value} (h : w.ownsRow base e size v n xs) (hn : 0 < n) : ∃ g cap, v = .slice (some ⟨g, 0, none⟩) n cap ∧ g < w.heap.size ∧ ∀ j u, xs[j]? = some u → w.cell? ⟨g, j, none⟩ = some u := by
  obtain ⟨h1, h2⟩ := h
  rcases h2 with ⟨h', h0⟩ | ⟨g, cap, cur, hv, hb, hB, hnc, hm, hs, ht⟩
  · rw [h'] at *
    omega
  · have hB : Blk w g e cur := hB
    refine ⟨g, cap, hv, hB.lt, fun j u hu => (hB.cell j).trans ?_⟩
    rw [← ht, List.getElem?_take] at hu
    split at hu
    · rw [← hu, Array.getElem?_toList]
    · cases hu
theorem grown_row {w2 w3 : World} {e : TypeId} {size n : Nat} {v' : Value} {xs : List Value} (hn : 0 < n) (hown' : w3.ownsRow w2.heap.size e size v' (0 + n) ([] ++ xs)) (hgr' : w2.grownBy w3 (Value.slice none 0 0).ownBlock) :
    ∃ g' cap' cur, v' = .slice (some ⟨g', 0, none⟩) n cap' ∧ w2.heap.size ≤ g' ∧ Hid (Blk w3 g' e cur) ∧ Hid (n * size ≤ cur.size) ∧ Hid (cur.toList.take (n * size) = xs) ∧
      Hid (∀ (w' : World) (cur' : Array Value), Blk w' g' e cur' → cur'.size = cur.size → w'.ownsRow w2.heap.size e size (.slice (some ⟨g', 0, none⟩) n cap') n (cur'.toList.take (n * size))) ∧ Hid (Below w2.heap.size w2 w3) := by
  replace hown' : w3.ownsRow w2.heap.size e size v' n xs := by simpa using hown'
  obtain ⟨g', cap', rfl, hg', hcg'⟩ := own_some hown' hn
  obtain ⟨cur, hcur, hle, htk, hset⟩ := own_blk hown'
  have hge : w2.heap.size ≤ g' := by
    obtain ⟨_, h2⟩ := hown'
    rcases h2 with ⟨h', _⟩ | ⟨g2, _, _, hv, hb, _⟩
    · cases h'
    · simp only [Value.slice.injEq, Option.some.injEq, Addr.mk.injEq] at hv
      omega
  exact ⟨g', cap', cur, rfl, hge, Lib.hid hcur, Lib.hid hle, Lib.hid htk, Lib.hid hset, Lib.hid (Chg.of_grown (S := NoM) hgr' (fun k hk => by simp [Value.ownBlock] at hk)).to_below⟩
theorem wpList_gen {P : Program} {ops rest : _} {a : Act} {w : World} {Q : Exit → Act → World → Prop} (R : World → Prop) (hR : R w) (h : ∀ W, R W → wpList P ops Q rest a W) : wpList P ops Q rest a w := h w hR
/-- A store whose pages lie in a new row that it doesn't know yet. -/
structure SetW (w w4 : World) (s : Nat) (v' : Value) (fp vi vp : Value) (P : List Sp.Page) : Prop where
  bs : Blk w4 s StoreT #[fp, .int .i64 ((P.length + 2 : Nat) : Int), .int .i64 400, .slice none 0 0, .slice none 0 0, vi, vp]
  oi : w4.ownsRow 0 3 1 vi P.length (idsV P.length)
  op : ∃ xs, w4.ownsRow 0 PageT 14 v' P.length xs ∧ PgCells w4 (OneM s) P xs
  nb : ∀ k, v'.ownBlock = some k → k ≠ s
  ck : Chg (OneM s) w w4
theorem SetW.done {w w4 : World} {s : Nat} {v' fp vi vp : Value} {P : List Sp.Page} (h : SetW w w4 s v' fp vi vp P) : StoreAt (w4.setCell ⟨s, 6, none⟩ v') s fp vi v' P ∧ Chg (OneM s) w (w4.setCell ⟨s, 6, none⟩ v') := by
  have hk := Chg.set1 w4 s 6 v'
  obtain ⟨xs, h1, h2⟩ := h.op
  refine ⟨⟨h.bs.set_ 6 v', own_chg2 h.oi hk fun k hk h' => ?_, xs, own_chg2 h1 hk fun k hk h' => h.nb k hk h', h2.chg hk⟩, h.ck.trans hk⟩
  exact own_not h.oi (t := StoreT) (by decide) k hk _ (h'.symm ▸ h.bs)
theorem chg_setRow1' (w : World) (k : Nat) (cs : Array Value) : Chg (OneM k) w (w.setRow k cs) :=
  ⟨rfl, rfl, rfl, by simp, fun i _ hs => setRow_other w k i cs (fun e => hs e)⟩
theorem setw_of {w w2 w3 : World} {s g' cap' : Nat} {fp vi vp : Value} {P : List Sp.Page} {xs : List Value} {cur : Array Value} {k : Nat} {p : Sp.Page} {r : Refs} (S : StoreAt w2 s fp vi vp P) (hb3 : Below w2.heap.size w2 w3) (hcur : Blk w3 g' PageT cur) (hle : P.length * 14 ≤ cur.size) (htk : cur.toList.take (P.length * 14) = xs)
    (hset : ∀ (w' : World) (cur' : Array Value), Blk w' g' PageT cur' → cur'.size = cur.size → w'.ownsRow w2.heap.size PageT 14 (.slice (some ⟨g', 0, none⟩) P.length cap') P.length (cur'.toList.take (P.length * 14)))
    (HX : PgCells w2 (OneM s) P xs) (HP : PageRd w2 (OneM s) p r) (HK : Chg (OneM s) w w2) (hg : w2.heap.size ≤ g') (hk : k < P.length) (X : Array Value) (hX : X.toList = cur.toList.take (k * 14) ++ pageV p r ++ cur.toList.drop (k * 14 + 14)) :
    SetW w (w3.setRow g' X) s (.slice (some ⟨g', 0, none⟩) P.length cap') fp vi vp (P.set k p) := by
  have hsg : s ≠ g' := by have := S.bs.lt; omega
  have hb4 : Below w2.heap.size w2 (w3.setRow g' X) := below_setRow hb3 hg X
  have hl : (pageV p r).length = 14 := by simp [pageV, mtV]
  have hcl : cur.toList.length = cur.size := Array.length_toList
  have hxs : X.size = cur.size := by
    rw [← Array.length_toList, hX]
    simp only [List.length_append, List.length_take, List.length_drop, Array.length_toList, hl]
    omega
  have hX2 : X.toList.take (P.length * 14) = xs.take (k * 14) ++ pageV p r ++ xs.drop (k * 14 + 14) := by
    rw [hX, ← htk]
    generalize P.length = n at *
    generalize cur.toList = L at *
    generalize pageV p r = q at *
    obtain ⟨d, hd⟩ : ∃ d, n * 14 = k * 14 + 14 + d := ⟨n * 14 - (k * 14 + 14), by omega⟩
    rw [List.append_assoc, List.append_assoc, List.take_append, List.take_append, List.take_take, List.length_take, hl, List.take_drop, List.take_take, hd]
    rw [show min (k * 14 + 14 + d) (k * 14) = k * 14 by omega, show min (k * 14) (k * 14 + 14 + d) = k * 14 by omega, show min (k * 14) L.length = k * 14 by omega]
    rw [show k * 14 + 14 + d - k * 14 - 14 = d by omega, show k * 14 + 14 + d - k * 14 = 14 + d by omega, List.take_of_length_le (l := q) (by omega)]
  have h1 := S.go hb4
  have hro := hset (w3.setRow g' X) X hcur.row hxs
  rw [hX2] at hro
  refine ⟨?_, ?_, ⟨_, ?_, (HX.chg (Chg.of_below hb4)).set (HP.chg (Chg.of_below hb4)) hk⟩, ?_, HK.trans (Chg.of_below hb4)⟩
  · rw [List.length_set]; exact h1.bs
  · rw [List.length_set]; exact h1.oi
  · rw [List.length_set]; exact ⟨hro.1, by
      rcases hro.2 with h | ⟨g, cap, cur, h1, h2, h3⟩
      · exact .inl h
      · exact .inr ⟨g, cap, cur, h1, Nat.zero_le _, h3⟩⟩
  · intro j hj
    have : g' = j := by simpa [Value.ownBlock] using hj
    omega
set_option maxRecDepth 100000 in
set_option maxHeartbeats 1600000 in
theorem set_any (s : Nat) (fp vi vp : Value) (P : List Sp.Page) (k : Nat) (p : Sp.Page) (r : Refs) (w : World) (h : StoreAt w s fp vi vp P) (h3 : k < P.length) (hn : P.length ≤ 400) (hp : PageRd w (OneM s) p r) (hip : Sp.isPage p = true) :
    Calls Tryz.prog 126 #[.pointer (some ⟨s, 0, none⟩), .int .i64 ((k : Int) + 2), .agg (pageV p r).toArray] w fun e w' => e = .returned (.int .i64 0) ∧ ∃ vp', StoreAt w' s fp vi vp' (P.set k p) ∧ Chg (OneM s) w w' := by
  have hal : Below w.heap.size w (w.alloc (.cells (pageV p r).toArray PageT)) := (Below.refl _ _).alloc (Nat.le_refl _) _
  have S := Lib.hid (h.go hal)
  have HP := Lib.hid (hp.chg (Chg.of_below hal))
  have HB := Lib.hid (Blk.new w PageT (pageV p r).toArray)
  have HI := Lib.hid hip
  have HK := Lib.hid (show Chg (OneM s) w (w.alloc (.cells (pageV p r).toArray PageT)) from Chg.of_below hal)
  have hsw := h.bs.lt
  obtain ⟨i0, hi0, hz0, hz1, hz2⟩ := info_parts info_page
  obtain ⟨xs, hop, hcs⟩ := h.op
  obtain ⟨g, cap, rfl, hgw, hcg⟩ := own_some hop (by omega)
  have hxl := hcs.len
  clear h hp hip
  have hpl : (if 2 ≤ (k : Int) + 2 ∧ (k : Int) + 2 < ((P.length + 2 : Nat) : Int) then (k : Int) + 2 - 2 else -1) = (k : Int) := by
    rw [if_pos ⟨by omega, by omega⟩]
    omega
  have HX := Lib.hid (hcs.chg (Chg.of_below hal))
  have HO := Lib.hid (own_chg2 (S := NoM) hop (Chg.of_below hal) (fun _ _ h => h))
  have HCG := Lib.hid (fun j u (hu : xs[j]? = some u) => (hal.cell (p := ⟨g, j, none⟩) hgw).trans (hcg j u hu))
  have hgw2 : g < (w.alloc (.cells (pageV p r).toArray PageT)).heap.size := by simp; omega
  clear hop hcs hcg hal
  simp only [pageV] at HB
  have HPE := Lib.hid (show (pageV p r) = [.int .i64 p.kind, .slice r.I p.items.length r.i, .slice r.K p.keys.length r.k, .slice r.D p.kids.length r.d, .string ⟨p.text.toArray⟩, .slice r.V p.vals.length r.v, .slice r.F p.free.length r.f, .int .i64 p.next,
   .int .u64 p.mt.txn, .int .i64 p.mt.main.page, .int .i64 p.mt.main.count, .int .i64 p.mt.main.flags, .int .i64 p.mt.free, .int .i64 p.mt.last] from rfl)
  simp only [pageV, mtV, List.cons_append, List.nil_append] at *
  go_enter Tryz.func126, Tryz.ntmps126
  go_upto_region 4 with (first
    | (go_at_call 149; refine (place_no s fp vi (.slice (some ⟨g, 0, none⟩) P.length cap) P ((k : Int) + 2) _ S.out hn).mono ?_; rintro e w2 ⟨rfl, rfl⟩; rw [hpl])
    | (go_at_call 79; refine (dIs_any (M := OneM s) p r _ HP.out).mono ?_; rintro e w2 ⟨rfl, hb2⟩; rw [HI.out]; replace S := Lib.hid (S.out.go hb2); replace HX := Lib.hid (HX.out.chg (Chg.of_below hb2)); replace HCG := Lib.hid (fun j u (hu : xs[j]? = some u) => (hb2.cell (p := ⟨g, j, none⟩) hgw2).trans (HCG.out j u hu)); replace HP := Lib.hid (HP.out.chg (Chg.of_below hb2)); replace HB := Lib.hid (HB.out.below hb2 HB.out.lt); replace HK := Lib.hid (HK.out.trans (Chg.of_below hb2)); clear hb2)
    | (refine wpList_row PageT _ rfl w.heap.size rfl rfl PageT _ (0, 0) _ HB.out Tryz.underlying119 rfl rfl ?_))
  have c6 : w2.cell? ⟨s, 6, none⟩ = some (.slice (some ⟨g, 0, none⟩) P.length cap) := S.out.bs.cell 6
  have HN1 := Lib.hid (fun (j : Nat) (u : Value) (hu : xs[j]? = some u) => show w2.cell? ((⟨g, 0, none⟩ : Addr).add j) = some u by rw [Go.WideShapes.add_plain, Nat.zero_add]; exact HCG.out j u hu)
  have HN2 := Lib.hid HX.out.one
  have HN3 := Lib.hid (show 0 + P.length ≤ maxLen by simp only [maxLen]; omega)
  have HN4 := Lib.hid (show (0 + P.length) * 200 ≤ 140737488355328 by omega)
  go_wp2_with (first
    | (at_builtin; refine wpList_append_own _ rfl _ _ 134 rfl w2.heap.size PageT i0 _ 14 200 Tryz.underlying134 hi0 hz0 hz1 hz2 rfl (by decide) _ 0 [] rfl (own_nil _ _ _ _) ⟨g, 0, none⟩ P.length cap xs rfl hxl HN1.out HN2.out HN3.out HN4.out (Nat.le_refl _) ?_; rintro v' w3 hown' hgr' hnil
       obtain ⟨g', cap', cur, rfl, hge, hcur, hle, htk, hset, hb3⟩ := grown_row (by omega) hown' hgr'
       have hsg : s ≠ g' := by have := HB.out.lt; omega
       have hwg : w.heap.size ≠ g' := by have := HB.out.lt; omega
       replace HB := Lib.hid (HB.out.below hb3.out HB.out.lt)
       clear hown' hgr' hnil)
    | (refine wpList_row PageT _ rfl w.heap.size rfl rfl PageT _ (0, 0) _ HB.out Tryz.underlying119 rfl rfl ?_)
    | (refine wpList_store_at rfl PageT _ _ rfl g' (k * 14) #[.int .i64 p.kind, .slice r.I p.items.length r.i, .slice r.K p.keys.length r.k, .slice r.D p.kids.length r.d, .string ⟨p.text.toArray⟩, .slice r.V p.vals.length r.v, .slice r.F p.free.length r.f, .int .i64 p.next,
   .int .u64 p.mt.txn, .int .i64 p.mt.main.page, .int .i64 p.mt.main.count, .int .i64 p.mt.main.flags, .int .i64 p.mt.free, .int .i64 p.mt.last] rfl rfl PageT cur hcur.out rfl (by have := hle.out; simp only [List.size_toArray, List.length_cons, List.length_nil]; omega) (pageV_all p r) ?_; refine wpList_gen (fun W => SetW w W s (.slice (some ⟨g', 0, none⟩) P.length cap') fp vi (.slice (some ⟨g, 0, none⟩) P.length cap) (P.set k p)) (setw_of (w2 := w2) S.out hb3.out hcur.out hle.out htk.out hset.out HX.out HP.out HK.out hge h3 _ (by simp [pageV, mtV])) ?_; rintro w4 T4; have d6 := T4.bs.cell 6; have f6 := T4.bs.frozen 6; replace T4 := Lib.hid T4; clear hb3 hcur hle htk hset HB))
  go_ret
  exact ⟨rfl, _, T4.out.done.1, T4.out.done.2⟩
end Go.Proofs.YtmcpkhknjdiocaaGreatDoor
namespace Go.Proofs.YtmcpkhknjdiocaaGreatDoor
open Go.RowKit
attribute [local go_sem low] mk_extract
attribute [local go_sem] After.cell After.frozen mk_extract_end ByteArray.mk_append_mk
theorem lt_le (x key : Txt) : (Op.bytesLess x key = true ∨ (x == key) = true) ↔ Sp.lt key x = false := by
  show (Sp.lt x key = true ∨ (x == key) = true) ↔ Sp.lt key x = false
  rw [beq_iff_eq]
  constructor
  · rintro (h | rfl)
    · rcases hq : Sp.lt key x with _ | _
      · rfl
      · exact absurd (Sp.lt_trans h hq) (by rw [Sp.lt_irr]; exact Bool.false_ne_true)
    · exact Sp.lt_irr _
  · intro h
    by_cases hx : x = key
    · exact .inr hx
    · exact .inl (by
        rcases Sp.lt_tri x key with h' | h' | h'
        · exact h'
        · exact absurd h' hx
        · rw [h'] at h; cases h)
set_option maxRecDepth 100000 in
set_option maxHeartbeats 1600000 in
theorem down_any (p : Sp.Page) (r : Refs) (key : Txt) {M : Nat → Prop} (w : World) (hk : Txts w M r.K p.keys) (h1 : 1 ≤ p.keys.length) (hn : p.keys.length ≤ 1000) :
    Calls Tryz.prog 125 #[.agg (pageV p r).toArray, .string ⟨key.toArray⟩] w fun e w' => e = .returned (.int .i64 (Sp.dn p.keys key p.keys.length : Nat)) ∧ Below w.heap.size w w' := by
  have hal : Below w.heap.size w (w.alloc (.cells (pageV p r).toArray PageT)) := (Below.refl _ _).alloc (Nat.le_refl _) _
  obtain ⟨b, off, hA, hb, hc⟩ := hk.at_ (k := 0) (by omega)
  have HA := Lib.hid hA
  have HK := Lib.hid (fun j hj => (hal.cell (p := ⟨b, off + j, none⟩) hb).trans (hc j hj))
  have HB := Lib.hid hal
  have c2 : (w.alloc (.cells (pageV p r).toArray PageT)).cell? ⟨w.heap.size, 2, none⟩ = some (.slice (some ⟨b, off, none⟩) p.keys.length r.k) := by
    rw [← hA]; exact (Blk.new w PageT (pageV p r).toArray).cell 2
  clear hk hc hA hal
  go_enter Tryz.func125, Tryz.ntmps125
  go_wp2_with fail
  go_loopw [5, 6] (fun kv i wr => ∃ j : Nat, 1 ≤ j ∧ j ≤ p.keys.length ∧ kv = .int .i64 (Sp.dn p.keys key j : Nat) ∧ i = .int .i64 (j : Int) ∧ wr = w.alloc (.cells (pageV p r).toArray PageT)) (fun _ i _ => p.keys.length - (intOf i).toNat)
  case atStart => exact ⟨1, by omega, h1, rfl, rfl, rfl⟩
  case round =>
    obtain ⟨j, hj1, hj, rfl, rfl, rfl⟩ := hrel
    by_cases hlt : j < p.keys.length
    · have hcj := HK.out j hlt
      have HD : Hid (Sp.dn p.keys key (j + 1) = if j ≠ 0 ∧ Sp.lt key (p.keys.getD j []) = false then j else Sp.dn p.keys key j) := Lib.hid rfl
      generalize p.keys.getD j [] = x at *
      generalize Sp.dn p.keys key j = d at *
      have HQ : Hid ((Op.bytesLess x key = true ∨ (x == key) = true) ↔ Sp.lt key x = false) := Lib.hid (lt_le x key)
      go_wp2_with fail
      · rename_i hc
        have hc2 := HQ.out.1 hc
        refine ⟨⟨j + 1, by omega, by omega, ?_, by go_num, trivial⟩, by simp [intOf]; omega⟩
        rw [HD.out, if_pos ⟨by omega, hc2⟩]
      · rename_i hc
        have hc2 : ¬ Sp.lt key x = false := fun h => by
          have := HQ.out.2 h
          rw [hc.1, hc.2] at this
          simp at this
        refine ⟨⟨j + 1, by omega, by omega, ?_, by go_num, trivial⟩, by simp [intOf]; omega⟩
        rw [HD.out, if_neg (fun h => hc2 h.2)]
    · obtain rfl : j = p.keys.length := by omega
      clear hlt
      go_wp2_with fail
      go_ret
      exact ⟨rfl, HB.out⟩
end Go.Proofs.YtmcpkhknjdiocaaGreatDoor
namespace Go.Proofs.YtmcpkhknjdiocaaGreatDoor
open Go.RowKit
attribute [local go_sem low] mk_extract
attribute [local go_sem] After.cell After.frozen mk_extract_end ByteArray.mk_append_mk
/-- A page on its way into a store: how things lie. -/
structure DrS (w W : World) (s b ni : Nat) (fp lv vi vp : Value) (P : List Sp.Page) (p : Sp.Page) (r : Refs) : Prop where
  bs : Blk W s StoreT #[fp, lv, .int .i64 400, .slice none 0 0, .slice none 0 0, vi, vp]
  oi : W.ownsRow 0 3 1 vi ni (idsV ni)
  op : ∃ xs, W.ownsRow 0 PageT 14 vp P.length xs ∧ PgCells W (OneM s) P xs
  bp : Blk W b PageT (pageV p r).toArray
  pr : PageRd W (OneM s) p r
  ck : Chg (OneM s) w W
  hb : w.heap.size ≤ b
theorem own_base {w : World} {base base' : Nat} {e : TypeId} {size n : Nat} {v : Value} {xs : List Value} (h : w.ownsRow base e size v n xs) (hb : base' ≤ base) : w.ownsRow base' e size v n xs := by
  obtain ⟨h1, h2⟩ := h
  rcases h2 with h2 | ⟨g, cap, cur, hv, hg, r⟩
  · exact ⟨h1, .inl h2⟩
  · exact ⟨h1, .inr ⟨g, cap, cur, hv, by omega, r⟩⟩
theorem DrS.ids {w W W' : World} {s b ni : Nat} {fp lv vi vp : Value} {P : List Sp.Page} {p : Sp.Page} {r : Refs} (h : DrS w W s b ni fp lv vi vp P p r) (hb : Below W.heap.size W W') {v : Value} (hv : W'.ownsRow W.heap.size 3 1 v (ni + 1) (idsV (ni + 1))) :
    DrS w (W'.setCell ⟨s, 5, none⟩ v) s b (ni + 1) fp lv v vp P p r := by
  have hs := h.bs.lt
  have hk := Chg.set1 W' s 5 v
  obtain ⟨xs, h1, h2⟩ := h.op
  refine ⟨(h.bs.below hb hs).set_ 5 v, own_base (own_chg2 hv hk fun k hk h' => ?_) (Nat.zero_le _), ⟨xs, ?_, ?_⟩, ?_, ?_, (h.ck.trans (Chg.of_below hb)).trans hk, h.hb⟩
  · have h' : k = s := h'
    exact own_not hv (t := StoreT) (by decide) k hk _ (h'.symm ▸ (h.bs.below hb hs))
  · refine own_chg2 (own_chg2 (S := NoM) h1 (Chg.of_below hb) (fun _ _ h => h)) hk fun k hk h' => ?_
    have h' : k = s := h'
    exact own_not h1 (t := StoreT) (by decide) k hk _ (h'.symm ▸ h.bs)
  · exact (h2.chg (Chg.of_below hb)).chg hk
  · refine (h.bp.below hb h.bp.lt).chg hk fun e => ?_
    have e : b = s := e
    exact Blk.not_ h.bs (t' := PageT) (by decide) _ (e ▸ h.bp)
  · exact (h.pr.chg (Chg.of_below hb)).chg hk
theorem DrS.page {w W W' : World} {s b ni : Nat} {fp lv vi vp : Value} {P : List Sp.Page} {p : Sp.Page} {r : Refs} (h : DrS w W s b ni fp lv vi vp P p r) (hb : Below W.heap.size W W') {v : Value} {xs : List Value} (hx : PgCells W (OneM s) P xs) (hv : W'.ownsRow W.heap.size PageT 14 v (P.length + 1) (xs ++ pageV p r)) :
    DrS w (W'.setCell ⟨s, 6, none⟩ v) s b ni fp lv vi v (P ++ [p]) p r := by
  have hs := h.bs.lt
  have hk := Chg.set1 W' s 6 v
  refine ⟨(h.bs.below hb hs).set_ 6 v, ?_, ⟨_, own_base (own_chg2 (by rw [List.length_append]; exact hv) hk fun k hk h' => ?_) (Nat.zero_le _), ?_⟩, ?_, ?_, (h.ck.trans (Chg.of_below hb)).trans hk, h.hb⟩
  · refine own_chg2 (own_chg2 (S := NoM) h.oi (Chg.of_below hb) (fun _ _ h => h)) hk fun k hk h' => ?_
    have h' : k = s := h'
    exact own_not h.oi (t := StoreT) (by decide) k hk _ (h'.symm ▸ h.bs)
  · have h' : k = s := h'
    exact own_not hv (t := StoreT) (by decide) k hk _ (h'.symm ▸ (h.bs.below hb hs))
  · have hq : PgCells (W'.setCell ⟨s, 6, none⟩ v) (OneM s) [p] (pageV p r) := ⟨r, [], by simp, (h.pr.chg (Chg.of_below hb)).chg hk, rfl⟩
    exact hq.app ((hx.chg (Chg.of_below hb)).chg hk)
  · refine (h.bp.below hb h.bp.lt).chg hk fun e => ?_
    have e : b = s := e
    exact Blk.not_ h.bs (t' := PageT) (by decide) _ (e ▸ h.bp)
  · exact (h.pr.chg (Chg.of_below hb)).chg hk
theorem own_cap {w : World} {base n : Nat} {e : TypeId} {size g cap : Nat} {xs : List Value} (h : w.ownsRow base e size (.slice (some ⟨g, 0, none⟩) n cap) n xs) : n ≤ cap ∧ cap ≤ maxLen := by
  obtain ⟨h1, h2⟩ := h
  rcases h2 with ⟨h', _⟩ | ⟨g', cap', cur, hv, hb, hB, hn, hm, hs, ht⟩
  · cases h'
  · simp only [Value.slice.injEq, Option.some.injEq, Addr.mk.injEq] at hv
    obtain ⟨_, _, rfl⟩ := hv
    exact ⟨hn, hm⟩
theorem grown_below {W w' : World} (hgr : W.grownBy w' (Value.slice none 0 0).ownBlock) : Below W.heap.size W w' := (Chg.of_grown (S := NoM) hgr (fun k hk => by simp [Value.ownBlock] at hk)).to_below
theorem grown_own {W w' : World} {base n : Nat} {e : TypeId} {size : Nat} {v : Value} {xs : List Value} (own : W.ownsRow base e size v n xs) (hb : base ≤ W.heap.size) (hgr : W.grownBy w' v.ownBlock) : Below base W w' :=
  (Chg.of_grown (S := fun k => v.ownBlock = some k) hgr (fun k hk => .inl hk)).below hb (fun k hk e => by
    rcases own.2 with ⟨rfl, _⟩ | ⟨g, cap, cur, rfl, hbg, _⟩
    · simp [Value.ownBlock] at e
    · have : g = k := by simpa [Value.ownBlock] using e
      omega)
theorem DrS.opn {w W : World} {s b ni : Nat} {fp lv vi vp : Value} {P : List Sp.Page} {p p' : Sp.Page} {r : Refs} (h : DrS w W s b ni fp lv vi vp (P ++ [p']) p r) : ∃ xs, W.ownsRow 0 PageT 14 vp (P.length + 1) xs ∧ PgCells W (OneM s) (P ++ [p']) xs := by
  have := h.op
  rwa [List.length_append] at this
theorem cell_one_keep {w0 W2 : World} {t : TypeId} {u : Value} (h : Below (w0.alloc (.cells #[u] t)).heap.size (w0.alloc (.cells #[u] t)) W2) : ∀ j u', [u][j]? = some u' → W2.cell? ((⟨w0.heap.size, 0, none⟩ : Addr).add j) = some u' := by
  intro j u' hu
  have hlt : w0.heap.size < (w0.alloc (.cells #[u] t)).heap.size := by simp
  obtain ⟨rfl, rfl⟩ : j = 0 ∧ u = u' := by
    cases j with
    | zero => exact ⟨rfl, by simpa using hu⟩
    | succ j => simp at hu
  rw [Go.WideShapes.add_plain]
  exact (h.cell (p := ⟨w0.heap.size, 0 + 0, none⟩) hlt).trans ((Blk.new w0 t #[u]).cell 0)
theorem cell_one_keepD {w0 W2 : World} {t : TypeId} {u : Value} (h : Below (w0.alloc (.cells #[u] t)).drew.heap.size (w0.alloc (.cells #[u] t)).drew W2) : ∀ j u', [u][j]? = some u' → W2.cell? ((⟨w0.heap.size, 0, none⟩ : Addr).add j) = some u' :=
  cell_one_keep ⟨h.os, h.tape, h.output, h.size, h.block⟩
theorem cells_new (w0 : World) (t : TypeId) (l : List Value) : ∀ j u, l[j]? = some u → (w0.alloc (.cells l.toArray t)).cell? ((⟨w0.heap.size, 0, none⟩ : Addr).add j) = some u := by
  intro j u hu
  rw [Go.WideShapes.add_plain, Nat.zero_add]
  exact ((Blk.new w0 t l.toArray).cell j).trans (by simpa using hu)
theorem cells_new_keep {w0 W2 : World} {t : TypeId} {l : List Value} (h : Below (w0.alloc (.cells l.toArray t)).heap.size (w0.alloc (.cells l.toArray t)) W2) : ∀ j u, l[j]? = some u → W2.cell? ((⟨w0.heap.size, 0, none⟩ : Addr).add j) = some u := by
  intro j u hu
  have hlt : w0.heap.size < (w0.alloc (.cells l.toArray t)).heap.size := by simp
  have h1 := cells_new w0 t l j u hu
  rw [Go.WideShapes.add_plain] at h1 ⊢
  exact (h.cell (p := ⟨w0.heap.size, 0 + j, none⟩) hlt).trans h1
theorem cells_new_keepD {w0 W2 : World} {t : TypeId} {l : List Value} (h : Below (w0.alloc (.cells l.toArray t)).drew.heap.size (w0.alloc (.cells l.toArray t)).drew W2) : ∀ j u, l[j]? = some u → W2.cell? ((⟨w0.heap.size, 0, none⟩ : Addr).add j) = some u :=
  cells_new_keep ⟨h.os, h.tape, h.output, h.size, h.block⟩
theorem cells_newD (w0 : World) (t : TypeId) (l : List Value) : ∀ j u, l[j]? = some u → (w0.alloc (.cells l.toArray t)).drew.cell? ((⟨w0.heap.size, 0, none⟩ : Addr).add j) = some u := cells_new w0 t l
theorem pageV_form (p : Sp.Page) (r : Refs) : ∃ q0 q1 q2 q3 q4 q5 q6 q7 q8 q9 q10 q11 q12 q13, pageV p r = [q0, q1, q2, q3, q4, q5, q6, q7, q8, q9, q10, q11, q12, q13] := ⟨_, _, _, _, _, _, _, _, _, _, _, _, _, _, rfl⟩
theorem cells_keep {w W : World} {g off : Nat} {xs : List Value} (h : Below w.heap.size w W) (hg : g < w.heap.size) (hc : ∀ j u, xs[j]? = some u → w.cell? ⟨g, off + j, none⟩ = some u) : ∀ j u, xs[j]? = some u → W.cell? ((⟨g, off, none⟩ : Addr).add j) = some u := fun j u hu => by
  rw [Go.WideShapes.add_plain]
  exact (h.cell (p := ⟨g, off + j, none⟩) hg).trans (hc j u hu)
end Go.Proofs.YtmcpkhknjdiocaaGreatDoor
