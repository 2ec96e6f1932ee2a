/- Long values beside one another: the plain law; a store of long values beside rows that grow. -/
import Derived.Test.YtkcfmjlcijhieaaGreatQPOBack01
set_option linter.unusedSimpArgs false
set_option linter.unusedVariables false
namespace Go.Proofs.YtkcfmjlcijhieaaGreat
open Go.RowKit
attribute [local go_sem low] mk_extract
attribute [local go_sem] After.cell After.frozen mk_extract_end ByteArray.mk_append_mk
namespace Sp
def nO (l : List Nat) (i : Nat) : Nat := 13 + l.getD i 0 % 900
def tO (l : List Nat) (i : Nat) : Txt := List.replicate (nO l i) (UInt8.ofNat (97 + i))
theorem tO_len (l : List Nat) (i : Nat) : (tO l i).length = nO l i := List.length_replicate
theorem tO_long (l : List Nat) (i : Nat) : longB (tO l i).length = true := by
  rw [tO_len]
  refine longB_iff.2 ?_
  unfold nO
  omega
def cO (l : List Nat) (i : Nat) : Nat := cntO (tO l i).length
theorem cO_le (l : List Nat) (i : Nat) : 1 ≤ cO l i ∧ cO l i ≤ 10 := ⟨(cntO_le (tO_long l i)).1, (cntO_le (tO_long l i)).2.1⟩
def pO (l : List Nat) : Nat → Nat
  | 0 => 0
  | i + 1 => pO l i + cO l i
theorem pO_le (l : List Nat) : ∀ i, pO l i ≤ 10 * i
  | 0 => Nat.le_refl _
  | i + 1 => by
    have := pO_le l i
    have := (cO_le l i).2
    show pO l i + cO l i ≤ _
    omega
theorem pO_mono (l : List Nat) {i j : Nat} (h : i ≤ j) : pO l i ≤ pO l j := by
  induction h with
  | refl => exact Nat.le_refl _
  | step _ ih => exact Nat.le_trans ih (Nat.le_add_right _ _)
/-- So many long values are written. -/
structure Wrt (l : List Nat) (i : Nat) (s : Sto) : Prop where
  full : Full (pO l i) s
  look : ∀ j, j < i → ∀ m : Nat, m < cO l j → lookD s.d (2 + (pO l j : Int) + m) = some (ovPg (piece (tO l j) m))
  bare : ∀ x ∈ s.d, ∃ t, x.2 = ovPg t
theorem Wrt.zero (l : List Nat) : Wrt l 0 e0 := ⟨e0_full, fun j h => absurd h (Nat.not_lt_zero _), fun x h => by cases h⟩
theorem Wrt.step {l : List Nat} {i : Nat} {s : Sto} (h : Wrt l i s) (hi : i < 8) : ∃ s1, s.write (tO l i) = ((2 + (pO l i : Int), none), s1) ∧ Wrt l (i + 1) s1 := by
  have h1 := pO_le l i
  have h2 := (cO_le l i).2
  obtain ⟨s1, hw, hf, hl⟩ := h.full.write (tO_long l i) (by show pO l i + cO l i ≤ 120; omega)
  refine ⟨s1, hw, hf, fun j hj m hm => ?_, fun x hx => ?_⟩
  · rw [hl]
    by_cases hji : j = i
    · subst hji
      rw [if_pos ⟨by omega, by show _ < 2 + (pO l j : Int) + cO l j; omega⟩]
      congr 3
      omega
    · have : j < i := by omega
      have h3 := pO_mono l (show j + 1 ≤ i by omega)
      have h4 : pO l (j + 1) = pO l j + cO l j := rfl
      rw [if_neg (by omega)]
      exact h.look j this m hm
  · have h5 : lookD s1.d x.1 = some x.2 := lookD_of_mem hf.ok.nodup hx
    rw [hl] at h5
    split at h5
    · simp only [Option.some.injEq] at h5
      exact ⟨_, h5.symm⟩
    · exact h.bare (x.1, x.2) (lookD_mem h5)
theorem Wrt.rd {l : List Nat} {i j : Nat} {s : Sto} (h : Wrt l i s) (hj : j < i) (hi : i ≤ 8) (V : List Txt) : s.readO V (2 + (pO l j : Int)) (nO l j) = (tO l j, none) := by
  have h1 := pO_le l j
  have h2 := (cO_le l j).2
  have h3 := h.full.most
  have := readO_is (s := s) (V := V) (run := 2 + (pO l j : Int)) (tO_long l j) (by omega) (by show 2 + (pO l j : Int) + cO l j ≤ _; omega) (fun m hm => h.look j hj m hm)
  rw [tO_len] at this
  exact this
/-- One of them is dropped. -/
theorem Wrt.drop {l : List Nat} {i j : Nat} {s : Sto} (h : Wrt l i s) (hj : j < i) (hi : i ≤ 8) : (dropTo s (2 + (pO l j : Int)) (cO l j)).Ok ∧ (dropTo s (2 + (pO l j : Int)) (cO l j)).avail.length = cO l j ∧ (dropTo s (2 + (pO l j : Int)) (cO l j)).d.length + cO l j = pO l i ∧
    (dropTo s (2 + (pO l j : Int)) (cO l j)).readO eV (2 + (pO l j : Int)) (nO l j) = ([], some 12) := by
  have hd := dropTo_is (run := 2 + (pO l j : Int)) h.full.ok h.full.avail (k := cO l j) (fun m hm => by rw [h.look j hj m hm]; rfl)
  have h1 := cO_le l j
  have hp := pO_le l j
  refine ⟨hd.ok, hd.avail.1, by rw [hd.len, h.full.len], ?_⟩
  have hlg : longB (nO l j) = true := by have := tO_long l j; rw [tO_len] at this; exact this
  have hc : cntO (nO l j) = cO l j := by unfold cO; rw [tO_len]
  unfold Sto.readO
  rw [if_neg (by rw [hlg]; simp), hc]
  refine readTo_bad (k := 1) ?_ h1.1
  have hr : (dropTo s (2 + (pO l j : Int)) (cO l j)).read eV (2 + (pO l j : Int) + ((0 : Nat) : Int)) = (pg0, some 12) := by
    unfold Sto.read
    have hm := hd.most
    have hm2 := h.full.most
    rw [if_neg (by omega), hd.look, if_pos (by omega)]
    have : atV eV (2 + (pO l j : Int) + ((0 : Nat) : Int)) = [] := by
      generalize pO l j = p
      unfold atV
      rw [if_neg (by omega), List.getD_eq_getElem?_getD, List.getElem?_eq_none (by simp only [eV, List.length_cons, List.length_nil]; omega)]
      rfl
    show readF (atV eV _) = _
    rw [this]
    decide +kernel
  show (match readTo (dropTo s (2 + (pO l j : Int)) (cO l j)) eV (2 + (pO l j : Int)) (nO l j) 0 with
    | (_, some e) => ([], some e)
    | (t, none) => match (dropTo s (2 + (pO l j : Int)) (cO l j)).read eV (2 + (pO l j : Int) + ((0 : Nat) : Int)) with
      | (_, some e) => ([], some e)
      | (p, none) => if p.kind = 3 ∧ (p.text.length : Int) = min ((nO l j : Int) - 100 * (0 : Nat)) 100 then (t ++ p.text, none) else ([], some 12)) = _
  rw [hr]
  rfl
end Sp
/-- Blocks of cells keep their kinds and sizes. -/
def Same (w w' : World) : Prop := ∀ (k : Nat) (cur : Array Value) (ty : TypeId), w.heap[k]? = some (.cells cur ty (0, 0)) → ∃ cur', w'.heap[k]? = some (.cells cur' ty (0, 0)) ∧ cur'.size = cur.size
theorem run_append_same {P : Program} (w : World) (base : Nat) (t ty e : TypeId) (i : TypeInfo) (z : Value) (size bytes : Nat) (ht : P.underlying t = some (.slice e)) (hi : P.info? e = some i) (hz : i.zero = some z)
    (hsize : i.size = size) (hby : i.bytes = bytes) (hzs : z.cells.size = size) (hsz : 0 < size)
    (v : Value) (n : Nat) (xs : List Value) (hown : w.ownsRow base e size v n xs)
    (a : Addr) (m c : Nat) (news : List Value) (hl : news.length = m * size) (hnews : ∀ j u, news[j]? = some u → w.cell? (a.add j) = some u) (h1 : ∀ u ∈ news, u.oneCell' = true)
    (h63 : n + m ≤ maxLen) (hbytes : (n + m) * bytes ≤ 140737488355328) (hbase : base ≤ w.heap.size) :
    ∃ v' w', (Builtin.append_ #[t, t] ty #[v, .slice (some a) m c]).run P w = .ok v' w' ∧ w'.ownsRow base e size v' (n + m) (xs ++ news) ∧ w.grownBy w' v.ownBlock ∧ Same w w' := by
  obtain ⟨v', w', hr, h2, h3, _⟩ := run_append_own (P := P) w base t ty e i z size bytes ht hi hz hsize hby hzs hsz v n xs hown a m c news hl hnews h1 h63 hbytes hbase
  refine ⟨v', w', hr, h2, h3, fun k cu ty' hk => ?_⟩
  have hks := (Array.getElem?_eq_some_iff.1 hk).1
  by_cases hkb : some k = v.ownBlock
  · subst hsize
    subst hby
    rcases hown.2 with ⟨rfl, _⟩ | ⟨g, cap, cur, rfl, hbg, hg, hnc, hcm, hcs, htake⟩
    · cases hkb
    · have hgk : k = g := by simpa [Value.ownBlock] using hkb
      subst hgk
      have hsmall : n + m ≤ 9223372036854775807 := by simp only [maxLen] at h63; omega
      by_cases hroom : n + m ≤ cap
      · have hfit : n * i.size + news.length ≤ cur.size := by rw [hl, hcs, ← Nat.add_mul]; exact Nat.mul_le_mul_right _ hroom
        have hr2 := run_append_room (P := P) w t ty e i ht hi k n cap cur hg a m c news hl hnews h1 hroom hfit
        rw [hr] at hr2
        simp only [Result.ok.injEq] at hr2
        rw [hk] at hg
        simp only [Option.some.injEq, Obj.cells.injEq] at hg
        obtain ⟨rfl, rfl, _⟩ := hg
        rw [hr2.2]
        refine ⟨_, setRow_heap w k cu _ ty' (0, 0) hk, ?_⟩
        simp only [List.size_toArray, List.length_append, List.length_take, List.length_drop, Array.length_toList]
        omega
      · have holds : ∀ j u, xs[j]? = some u → w.cell? ((⟨k, 0, none⟩ : Addr).add j) = some u := hown.cells (g := k) rfl
        have hr2 := run_append_grow (P := P) w t ty e i z ht hi hz ⟨k, 0, none⟩ n cap xs hown.1 holds a m c news hl hnews (by omega) (by omega) (growslice_fits (by omega) hbytes)
        rw [hr] at hr2
        simp only [Result.ok.injEq] at hr2
        rw [hr2.2]
        exact ⟨cu, (((Below.refl w.heap.size w).drew.alloc (Nat.le_refl _) _).block k hks).trans hk, rfl⟩
  · exact ⟨cu, (h3.block k hks hkb).trans hk, rfl⟩
theorem wpList_append_same {P : Program} {w : World} {ops : Array Oper} {rest : List Oper} {o : Oper} {a : Act} {Q : Exit → Act → World → Prop} (hgd : o.guard = none) (s x : Operand) (t : TypeId)
    (ho : o.op = .call { callee := .builtin .append, args := #[s, x], argTypes := #[t, t] })
    (base : Nat) (e : TypeId) (i : TypeInfo) (z : Value) (size bytes : Nat) (ht : P.underlying t = some (.slice e)) (hi : P.info? e = some i) (hz : i.zero = some z)
    (hsize : i.size = size) (hby : i.bytes = bytes) (hzs : z.cells.size = size) (hsz : 0 < size)
    (v : Value) (n : Nat) (xs : List Value) (hs : a.eval s = v) (hown : w.ownsRow base e size v n xs)
    (ad : Addr) (m c : Nat) (news : List Value) (hx : a.eval x = .slice (some ad) m c) (hl : news.length = m * size) (hnews : ∀ j u, news[j]? = some u → w.cell? (ad.add j) = some u) (h1 : ∀ u ∈ news, u.oneCell' = true)
    (h63 : n + m ≤ maxLen) (hbytes : (n + m) * bytes ≤ 140737488355328) (hbase : base ≤ w.heap.size)
    (h : ∀ v' w', w'.ownsRow base e size v' (n + m) (xs ++ news) → w.grownBy w' v.ownBlock → Same w w' → wpList P ops Q rest (a.put o.dst v') w') :
    wpList P ops Q (o :: rest) a w := by
  refine wpList_plain hgd fun K hK => ?_
  obtain ⟨v', w', hr, h2, h3, h4⟩ := run_append_same (P := P) w base t o.type e i z size bytes ht hi hz hsize hby hzs hsz v n xs hown ad m c news hl hnews h1 h63 hbytes hbase
  unfold Oper.wp execOp
  simp only [ho, resolve, invoke, builtin, Sem.run_bind, Sem.run_pure, Result.andThen_ok, List.map_toArray, List.map_cons, List.map_nil, hs, hx, hr]
  exact hK _ _ (h v' w' h2 h3 h4)
theorem bare_rd {w w' : World} {M M' : Nat → Prop} {T : Txt} {r : Refs} (_ : PageRd w M (Sp.ovPg T) r) : PageRd w' M' (Sp.ovPg T) r :=
  ⟨Items.nil_, Row.nil_, Row.nil_, Row.nil_, Frees.nil_, by simp [Sp.ovPg, Sp.mt0]⟩
theorem DPg.bare {w w' : World} {M : Nat → Prop} : ∀ {l : List (Int × Sp.Page)} {D : List (Int × Value)}, DPg w M l D → (∀ x ∈ l, ∃ t, x.2 = Sp.ovPg t) → DPg w' M l D
  | [], _, h, _ => h
  | (_, _) :: l, _, ⟨r, E, e, h1, h2, h⟩, hb => by
    obtain ⟨T, hT⟩ := hb _ (List.mem_cons_self ..)
    dsimp only at hT
    subst hT
    exact ⟨r, E, e, bare_rd h1, h2, DPg.bare h fun x hx => hb x (List.mem_cons_of_mem _ hx)⟩
theorem RowAt.same {w w' : World} {u : Value} (h : RowAt w u []) (hs : Same w w') : RowAt w' u [] := by
  refine ⟨⟨rfl, ?_⟩, h.ok⟩
  rcases h.own.2 with h1 | ⟨g, cap, cur, e, hb, hg, hnc, hcm, hcs, _⟩
  · exact .inl h1
  · obtain ⟨cur', hg', hz⟩ := hs g cur IntT hg
    exact .inr ⟨g, cap, cur', e, hb, hg', hnc, hcm, hz.trans hcs, by simp⟩
/-- A store whose pages hold texts alone stays, whatever grows behind it. -/
theorem StAt.beside {w w' : World} {M : Nat → Prop} {t f m d B : Nat} {fv : Value} {V : List Txt} {s : Sp.Sto} (h : StAt w M t f m d fv V s) (ha : s.avail = []) (hf : s.freed = []) (hb : ∀ x ∈ s.d, ∃ t, x.2 = Sp.ovPg t)
    (hk : Chg (fun k => B ≤ k) w w') (hs : Same w w') (ht : t < B) (hfl : f < B) (hml : m < B) (hdl : d < B) (hv : ∀ k, fv.ownBlock = some k → k < B) : StAt w' M t f m d fv V s := by
  obtain ⟨uf, ua, h1, h2, h3⟩ := h.bt
  obtain ⟨D, h4, h5⟩ := h.dm
  refine ⟨⟨uf, ua, h1.chg hk (Nat.not_le.2 ht), ?_, ?_⟩, h.fa.chg hk (Nat.not_le.2 hfl) (Nat.not_le.2 hml) (fun k e => Nat.not_le.2 (hv k e)), ⟨D, h4.chg hk (Nat.not_le.2 hdl), h5.bare hb⟩, h.hm, h.hM, fun k hk' => Nat.lt_of_lt_of_le (h.lt k hk') hk.size⟩
  · rw [hf] at h2 ⊢
    exact h2.same hs
  · rw [ha] at h3 ⊢
    exact h3.same hs
end Go.Proofs.YtkcfmjlcijhieaaGreat
