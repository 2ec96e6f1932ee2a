/- Rows of numbers: some that are side by side are taken out. The package's store in memory: what is turned of it. The package's store: numbers side by side are taken. Pages that may be are small; what a store reads, in plain Lean. -/
import Derived.Test.YtkcfmjlcijhieaaGreatQB10
import Derived.Test.YtkcfmjlcijhieaaGreatQB20
import Derived.Shelf.SlicesE.DeleteFunc
import Derived.Lib.SlKeysI
set_option linter.unusedSimpArgs false
set_option linter.unusedVariables false
namespace Go.Proofs.YtkcfmjlcijhieaaGreat
open Go.RowKit
attribute [local go_sem low] mk_extract
attribute [local go_sem] After.cell After.frozen mk_extract_end ByteArray.mk_append_mk
open Go.Sort
def renDel : Go.Shelf.Ren := ⟨fun | 6 => 167 | 10 => 141 | n => n, fun | 22 => 26 | 23 => 3 | 3 => 3 | 4 => 4 | 25 => 134 | 0 => 0 | n => n, fun | n => n⟩
theorem layDel : SlLaysH.n10 Tryz.prog renDel := {
  mixed := by kernel_rfl
  f6 := ⟨Tryz.f167.name, by decide, Tryz.func167.trans (congrArg some (by kernel_rfl))⟩
  f10 := ⟨Tryz.f141.name, by decide, Tryz.func141.trans (congrArg some (by kernel_rfl))⟩
  t0 := Tryz.underlying0
  a0 := Tryz.isAgg0
  z0 := Tryz.sizeOf0
  v0 := Tryz.zeroValue0
  t3 := Tryz.underlying3
  a3 := Tryz.isAgg3
  z3 := Tryz.sizeOf3
  v3 := Tryz.zeroValue3
  t4 := Tryz.underlying4
  a4 := Tryz.isAgg4
  z4 := Tryz.sizeOf4
  v4 := Tryz.zeroValue4
  t22 := Tryz.underlying26
  a22 := Tryz.isAgg26
  z22 := Tryz.sizeOf26
  v22 := Tryz.zeroValue26
  a23 := Tryz.isAgg3
  z23 := Tryz.sizeOf3
  t25 := Tryz.underlying134
  a25 := Tryz.isAgg134
  z25 := Tryz.sizeOf134
  v25 := Tryz.zeroValue134 }
/-- What the closure tells of a number. -/
def Sp.dropP (a n x : Int) : Bool := decide (0 < n) && decide (a ≤ x) && decide ((x - a) % 18446744073709551616 < n)
theorem drop_fn (a n x : Int) (hn : n < 18446744073709551616) (B C : Nat) (W : World) (hb : W.cell? ⟨B, 0, none⟩ = some (.int .i64 n)) (hc : W.cell? ⟨C, 0, none⟩ = some (.int .i64 a)) :
    FnGives Tryz.prog 142 #[.pointer (some ⟨B, 0, none⟩), .pointer (some ⟨C, 0, none⟩)] #[.int .i64 x] (.bool (Sp.dropP a n x)) W := by
  show Calls Tryz.prog 142 #[.int .i64 x, .pointer (some ⟨B, 0, none⟩), .pointer (some ⟨C, 0, none⟩)] W _
  have HP := Lib.hid (show Sp.dropP a n x = (decide (0 < n) && decide (a ≤ x) && decide ((x - a) % 18446744073709551616 < n)) from rfl)
  generalize Sp.dropP a n x = P at *
  have HN := Lib.hid hn
  clear hn
  by_cases h0 : 0 < n
  · by_cases h1 : a ≤ x
    · go_enter Tryz.func142, Tryz.ntmps142
      go_wp2
      go_ret
      have hw : IntKind.u64.wrap (IntKind.u64.wrap x - IntKind.u64.wrap a) = (x - a) % 18446744073709551616 := by
        simp only [IntKind.wrap_u64]
        omega
      have hn' : IntKind.u64.wrap n = n := by
        have := HN.out
        simp only [IntKind.wrap_u64]
        omega
      exact ⟨by rw [HP.out, hw, hn']; simp [h0, h1], 0, rfl⟩
    · go_enter Tryz.func142, Tryz.ntmps142
      go_wp2
      go_ret
      exact ⟨by rw [HP.out]; simp; intro _ h; omega, 0, rfl⟩
  · go_enter Tryz.func142, Tryz.ntmps142
    go_wp2
    go_ret
    exact ⟨by rw [HP.out]; simp; intro h; omega, 0, rfl⟩
theorem drop_at (a n : Int) (hn : n < 18446744073709551616) (B C : Nat) (w : World) (hB : B < w.heap.size) (hC : C < w.heap.size) (hb : w.cell? ⟨B, 0, none⟩ = some (.int .i64 n)) (hc : w.cell? ⟨C, 0, none⟩ = some (.int .i64 a)) :
    PredAt Tryz.prog 142 #[.pointer (some ⟨B, 0, none⟩), .pointer (some ⟨C, 0, none⟩)] (Value.int .i64) (Sp.dropP a n) w :=
  fun W x hbl => drop_fn a n x hn B C W ((hbl.cell (p := ⟨B, 0, none⟩) hB).trans hb) ((hbl.cell (p := ⟨C, 0, none⟩) hC).trans hc)
theorem drop_over (a n : Int) (hn : n < 18446744073709551616) (B C blk off size : Nat) (w : World) (hB : B < w.heap.size) (hC : C < w.heap.size) (hb : w.cell? ⟨B, 0, none⟩ = some (.int .i64 n)) (hc : w.cell? ⟨C, 0, none⟩ = some (.int .i64 a)) (h1 : B ≠ blk) (h2 : C ≠ blk) :
    PredOver Tryz.prog 142 #[.pointer (some ⟨B, 0, none⟩), .pointer (some ⟨C, 0, none⟩)] (Value.int .i64) (Sp.dropP a n) blk off size w :=
  fun k os dk x _ => drop_fn a n x hn B C _ (by
    unfold sortWorld
    rw [cell?_grow _ _ _ (by show B < (putRow _ _ _ _ _).heap.size; rw [size_putRow]; exact hB), cell?_putRow_other _ _ blk off _ _ (Or.inl h1)]
    exact hb) (by
    unfold sortWorld
    rw [cell?_grow _ _ _ (by show C < (putRow _ _ _ _ _).heap.size; rw [size_putRow]; exact hC), cell?_putRow_other _ _ blk off _ _ (Or.inl h2)]
    exact hc)
theorem Sp.dropI_is {a n : Int} {L : List Int} (h : Sp.Rise L) (ha : 2 ≤ a ∧ a < 400) : L.filter (fun x => !Sp.dropP a n x) = Sp.dropI L a n := by
  unfold Sp.dropI
  refine List.filter_congr fun x hx => ?_
  have := h.2 x hx
  unfold Sp.dropP
  rw [Bool.not_eq_eq_eq_not, Bool.not_not]
  rw [← Bool.decide_and, ← Bool.decide_and]
  refine decide_eq_decide.2 ?_
  constructor
  · rintro ⟨⟨h1, h2⟩, h3⟩
    refine ⟨h1, h2, ?_⟩
    omega
  · rintro ⟨h1, h2, h3⟩
    refine ⟨⟨h1, h2⟩, ?_⟩
    omega
theorem grow_nil (w : World) : grow w #[] = w := by simp [grow]
/-- What is left of an own row when some are taken out. -/
theorem deleted (L : List Int) (p : Int → Bool) (hL : L ≠ []) {w : World} {base : Nat} {u : Value} (ho : w.ownsRow base IntT 1 u L.length (L.map iv)) (hl : L.length ≤ 400) (g : Nat) (lb : Array Value) (eg : ∀ args w, (callFunc g args).run Tryz.prog w = .ok (.enter g args) w)
    (h1 : PredAt Tryz.prog g lb (Value.int .i64) p w) (h2 : ∀ k, base ≤ k → PredOver Tryz.prog g lb (Value.int .i64) p k 0 L.length w) :
    Calls Tryz.prog 141 #[u, .func (.func g) #[] lb] w fun e w' => ∃ u', e = .returned u' ∧ w'.ownsRow base IntT 1 u' (L.filter fun x => !p x).length ((L.filter fun x => !p x).map iv) ∧ Below base w w' := by
  have hL0 : 0 < L.length := List.length_pos_iff.2 hL
  rcases ho.2 with ⟨_, h0⟩ | ⟨k, cap, cur, rfl, hk, hh, hnc, hcm, hcs, ht⟩
  · omega
  · rw [Nat.mul_one] at hcs ht
    have hH : Holds (Value.int .i64) w k 0 L.toArray := holds_of_block_i hh ht
    refine (AnyE.slices_DeleteFunc layDel (Value.int .i64) (fun _ => rfl) p g lb eg 0 Tryz.zeroValue3 k 0 cap L.toArray w h1 (h2 k hk) hH (by simp; omega) (by simpa using hnc)).mono ?_
    rintro e w' ⟨he, q, hw⟩
    have hf : (L.filter fun x => !p x).length ≤ L.length := List.length_filter_le _ _
    obtain ⟨ds, hds⟩ : ∃ ds, ds = (L.filter fun x => !p x) ++ List.replicate (L.length - (L.filter fun x => !p x).length) (0 : Int) := ⟨_, rfl⟩
    have hdl : ds.length = L.length := by rw [hds, List.length_append, List.length_replicate]; omega
    have hw2 : w' = grow (putRow (Value.int .i64) (Sort.ahead w q) k 0 ds.toArray) #[] := by
      rw [grow_nil, hw, hds]
      simp
    refine ⟨_, he, ⟨by rw [List.length_map, Nat.mul_one], .inr ⟨k, cap, putCells (Value.int .i64) 0 ds.toArray cur, rfl, hk, ?_, by omega, hcm, by simp [putCells, hcs], ?_⟩⟩, ?_⟩
    · rw [hw2]
      exact heap_sorted_i _ hh
    · rw [Nat.mul_one]
      have h5 := take_putCells_i cur ds (by omega)
      have h6 := congrArg (List.take (L.filter fun x => !p x).length) h5
      rw [List.take_take, Nat.min_eq_left (by omega)] at h6
      refine h6.trans ?_
      rw [← List.map_take, hds, List.take_left]
      rfl
    · rw [hw2]
      exact (Below.refl base w).grown (grownBy_sorted_i _) (by have := (Array.getElem?_eq_some_iff.1 hh).1; omega) (fun j hj => by cases hj; exact hk)
set_option maxRecDepth 100000 in
set_option maxHeartbeats 1600000 in
theorem idsDrop_any (u : Value) (L : List Int) (a n : Int) (w : World) (h : IV w u L) (hr : Sp.Rise L) (hL : L ≠ []) (ha : 2 ≤ a ∧ a < 400) (hn : n ≤ 400) :
    Calls Tryz.prog 108 #[u, .int .i64 a, .int .i64 n] w fun e w' => ∃ u', e = .returned u' ∧ w'.ownsRow w.heap.size IntT 1 u' (Sp.dropI L a n).length ((Sp.dropI L a n).map iv) ∧ Below w.heap.size w w' := by
  have HW := Lib.hid (show (fun W : World => W = (w.alloc (.cells #[.int .i64 a] IntT)).alloc (.cells #[.int .i64 n] IntT)) ((w.alloc (.cells #[.int .i64 a] IntT)).alloc (.cells #[.int .i64 n] IntT)) from rfl)
  obtain ⟨W, hW⟩ : ∃ W, W = (w.alloc (.cells #[.int .i64 a] IntT)).alloc (.cells #[.int .i64 n] IntT) := ⟨_, rfl⟩
  have hb1 : Below w.heap.size w W := by rw [hW]; exact ((Below.refl _ _).alloc (Nat.le_refl _) _).alloc (by simp) _
  have hsz : W.heap.size = w.heap.size + 2 := by rw [hW]; simp
  have hba : Blk W w.heap.size IntT #[.int .i64 a] := by rw [hW]; exact (Blk.new w IntT _).alloc _
  have hbn : Blk W (w.heap.size + 1) IntT #[.int .i64 n] := by
    rw [hW]
    have := Blk.new (w.alloc (.cells #[.int .i64 a] IntT)) IntT #[.int .i64 n]
    rwa [World.size_alloc] at this
  have HC := Lib.hid (cloneI_any (h.go hb1))
  have HB := Lib.hid hb1
  have HA := Lib.hid hba
  have HN := Lib.hid hbn
  have HZ := Lib.hid hsz
  have HR := Lib.hid hr
  have HE := Lib.hid (Sp.dropI_is (n := n) hr ha)
  have hl := hr.len
  have eg : ∀ args w, (callFunc 142 args).run Tryz.prog w = .ok (.enter 142 args) w := enters_of Tryz.func142 (by kernel_rfl) rfl
  clear h hr hb1 hba hbn hsz HW
  have hW2 := hW.symm
  have HW2 := Lib.hid hW2
  clear hW hW2
  go_enter Tryz.func108, Tryz.ntmps108
  go_upto_region 1 with fail
  rw [HW2.out]
  go_wp2_with (first
    | (go_at_call 74; refine HC.out.mono ?_; rintro e w2 ⟨u', rfl, ho, hb2⟩; have HO := Lib.hid ho; have HB2 := Lib.hid hb2; clear ho hb2)
    | (go_at_call 141; refine (deleted L (Sp.dropP a n) hL HO.out hl 142 #[.pointer (some ⟨w.heap.size + 1, 0, none⟩), .pointer (some ⟨w.heap.size, 0, none⟩)] eg (drop_at a n (by omega) _ _ w2 (by have := HZ.out; have := HB2.out.size; omega) (by have := HZ.out; have := HB2.out.size; omega) ((HN.out.below HB2.out HN.out.lt).cell 0) ((HA.out.below HB2.out HA.out.lt).cell 0)) (fun k hk => drop_over a n (by omega) _ _ k 0 L.length w2 (by have := HZ.out; have := HB2.out.size; omega) (by have := HZ.out; have := HB2.out.size; omega) ((HN.out.below HB2.out HN.out.lt).cell 0) ((HA.out.below HB2.out HA.out.lt).cell 0) (by have := HZ.out; omega) (by have := HZ.out; omega))).mono ?_; rintro e w3 ⟨u3, rfl, ho, hb3⟩; have HO3 := Lib.hid ho; have HB3 := Lib.hid hb3; clear ho hb3))
  go_ret
  have hge : w.heap.size ≤ W.heap.size := by have := HZ.out; omega
  refine ⟨u3, rfl, ?_, HB.out.trans ((HB2.out.trans HB3.out).mono hge)⟩
  rw [← HE.out]
  exact own_base HO3.out hge
end Go.Proofs.YtkcfmjlcijhieaaGreat
namespace Go.Proofs.YtkcfmjlcijhieaaGreat
open Go.RowKit
attribute [local go_sem low] mk_extract
attribute [local go_sem] After.cell After.frozen mk_extract_end ByteArray.mk_append_mk
def erO : Option Int → Value
  | none => .nilIface
  | some k => .iface 55 (.int .i64 k)
theorem own_ty {w : World} {base : Nat} {e : TypeId} {n : Nat} {v : Value} {xs : List Value} (h : w.ownsRow base e 1 v n xs) {k : Nat} (hk : v.ownBlock = some k) : ∃ cs, Blk w k e cs := by
  rcases h.2 with ⟨rfl, _⟩ | ⟨g, cap, cur, rfl, _, hh, _⟩
  · simp [Value.ownBlock] at hk
  · have : g = k := by simpa [Value.ownBlock] using hk
    exact ⟨cur, this ▸ hh⟩
theorem own_slice {w : World} {base : Nat} {e : TypeId} {n : Nat} {v : Value} {xs : List Value} (h : w.ownsRow base e 1 v n xs) : ∃ A c, v = .slice A n c := by
  rcases h.2 with ⟨rfl, h0⟩ | ⟨g, cap, cur, rfl, _⟩
  · exact ⟨none, 0, by rw [h0]⟩
  · exact ⟨_, _, rfl⟩
section
variable {w w' : World} {M : Nat → Prop} {t f m d : Nat} {fv : Value} {V : List Txt} {s : Sp.Sto}
theorem RowAt.far {u : Value} {L : List Int} (h : RowAt w u L) {ty : TypeId} (hne : ty ≠ IntT) {cs : Array Value} (hb : Blk w t ty cs) (hk : Chg (OneM t) w w') : RowAt w' u L :=
  h.chg hk fun k hk' e => by
    have e : k = t := e
    subst e
    obtain ⟨cs', h'⟩ := own_ty h.own hk'
    exact hb.not_ hne _ h'
theorem RowAt.farM {u : Value} {L : List Int} (h : RowAt w u L) {D : List (Int × Value)} (hb : MapV w d D) (hk : Chg (OneM d) w w') : RowAt w' u L :=
  h.chg hk fun k hk' e => by
    have e : k = d := e
    subst e
    obtain ⟨cs', h'⟩ := own_ty h.own hk'
    exact hb.not_blk h'
/-- The store's own block is turned. -/
theorem StAt.turnT (h : StAt w M t f m d fv V s) (hk : Chg (OneM t) w w') {s' : Sp.Sto} {uf ua : Value} (hb : Blk w' t StoT #[.pointer (some ⟨f, 0, none⟩), .map (some d), uf, ua, .int .i64 s'.last, .int .i64 s'.most])
    (h2 : RowAt w' uf s'.freed) (h3 : RowAt w' ua s'.avail) (hd : s'.d = s.d) : StAt w' M t f m d fv V s' := by
  obtain ⟨_, _, h1, _, _⟩ := h.bt
  obtain ⟨D, h4, h5⟩ := h.dm
  refine ⟨⟨uf, ua, hb, h2, h3⟩, h.fa.chg hk (fun e => ?_) (fun e => ?_) (fun k hk' e => ?_), ⟨D, h4.chg hk (fun e => ?_), ?_⟩, h.hm, h.hM, fun k hk' => Nat.lt_of_lt_of_le (h.lt k hk') hk.size⟩
  · have e : f = t := e
    subst e
    obtain ⟨sv, hf⟩ := h.fa.bf
    exact h1.not_ (by decide) _ hf
  · have e : m = t := e
    subst e
    exact h.fa.map.not_blk h1
  · have e : k = t := e
    subst e
    obtain ⟨cs', h'⟩ := own_ty h.fa.own hk'
    exact h1.not_ (by decide) _ h'
  · have e : d = t := e
    subst e
    exact h4.not_blk h1
  · rw [hd]
    exact h5.chg (hk.mono fun k _ e => by
      have e : k = t := e
      exact e ▸ h.hM.1)
/-- The map of its pages is turned. -/
theorem StAt.turnD (h : StAt w M t f m d fv V s) (hk : Chg (OneM d) w w') {s' : Sp.Sto} {D' : List (Int × Value)} (h4' : MapV w' d D') (h5' : DPg w' M s'.d D')
    (e1 : s'.freed = s.freed) (e2 : s'.avail = s.avail) (e3 : s'.last = s.last) (e4 : s'.most = s.most) : StAt w' M t f m d fv V s' := by
  obtain ⟨uf, ua, h1, h2, h3⟩ := h.bt
  obtain ⟨D, h4, h5⟩ := h.dm
  refine ⟨⟨uf, ua, ?_, ?_, ?_⟩, h.fa.chg hk (fun e => ?_) (fun e => h.hm (Eq.symm e)) (fun k hk' e => ?_), ⟨D', h4', h5'⟩, h.hm, h.hM, fun k hk' => Nat.lt_of_lt_of_le (h.lt k hk') hk.size⟩
  · rw [e3, e4]
    exact h1.chg hk fun e => by
      have e : t = d := e
      subst e
      exact h4.not_blk h1
  · rw [e1]; exact h2.farM h4 hk
  · rw [e2]; exact h3.farM h4 hk
  · have e : f = d := e
    subst e
    obtain ⟨sv, hf⟩ := h.fa.bf
    exact h4.not_blk hf
  · have e : k = d := e
    subst e
    obtain ⟨cs', h'⟩ := own_ty h.fa.own hk'
    exact h4.not_blk h'
theorem StAt.avail_ (h : StAt w M t f m d fv V s) {u : Value} {L : List Int} (ho : RowAt w u L) : StAt (w.setCell ⟨t, 3, none⟩ u) M t f m d fv V { s with avail := L } := by
  obtain ⟨uf, ua, h1, h2, h3⟩ := h.bt
  have hk : Chg (OneM t) w (w.setCell ⟨t, 3, none⟩ u) := Chg.set1 w t 3 u
  exact h.turnT hk (h1.set_ 3 u) (h2.far (by decide) h1 hk) (ho.far (by decide) h1 hk) rfl
theorem StAt.freed_ (h : StAt w M t f m d fv V s) {u : Value} {L : List Int} (ho : RowAt w u L) : StAt (w.setCell ⟨t, 2, none⟩ u) M t f m d fv V { s with freed := L } := by
  obtain ⟨uf, ua, h1, h2, h3⟩ := h.bt
  have hk : Chg (OneM t) w (w.setCell ⟨t, 2, none⟩ u) := Chg.set1 w t 2 u
  exact h.turnT hk (h1.set_ 2 u) (ho.far (by decide) h1 hk) (h3.far (by decide) h1 hk) rfl
theorem StAt.last_ (h : StAt w M t f m d fv V s) (n : Int) : StAt (w.setCell ⟨t, 4, none⟩ (.int .i64 n)) M t f m d fv V { s with last := n } := by
  obtain ⟨uf, ua, h1, h2, h3⟩ := h.bt
  have hk : Chg (OneM t) w (w.setCell ⟨t, 4, none⟩ (.int .i64 n)) := Chg.set1 w t 4 _
  exact h.turnT hk (h1.set_ 4 _) (h2.far (by decide) h1 hk) (h3.far (by decide) h1 hk) rfl
end
end Go.Proofs.YtkcfmjlcijhieaaGreat
namespace Go.Proofs.YtkcfmjlcijhieaaGreat
open Go.RowKit
attribute [local go_sem low] mk_extract
attribute [local go_sem] After.cell After.frozen mk_extract_end ByteArray.mk_append_mk
open Go.Conc
theorem mkChanN (w : World) : (Instr.makeChan 174 (.int .i64 1)).run Tryz.prog w = .ok (.chan (some w.heap.size)) (w.alloc (.chan 1 #[] false 0 0 false)) := by kernel_rfl
set_option maxRecDepth 100000 in
set_option maxHeartbeats 1600000 in
theorem numbers_any (M : Nat → Prop) (t f m d : Nat) (fv : Value) (V : List Txt) (s : Sp.Sto) (n : Int) (w : World) (h : StAt w M t f m d fv V s) (hok : s.Ok) (h1 : 1 ≤ n) (hn : n ≤ 120) :
    Calls Tryz.prog 72 #[.pointer (some ⟨t, 0, none⟩), .int .i64 n] w fun e w' => e = .returned (.tuple #[.int .i64 (s.numbers n).1.1, erO (s.numbers n).1.2]) ∧ StAt w' M t f m d fv V (s.numbers n).2 ∧ Chg (OneM t) w w' := by
  have hmk := mkChanN
  obtain ⟨uf, ua, hb, hf, ha⟩ := h.bt
  obtain ⟨D, hD, hP⟩ := h.dm
  have hlen := fun ty => MapV.len_ (mt := PgMapT) Tryz.underlying123 hD ty
  rw [show D.length = s.d.length from hP.len] at hlen
  have c1 : w.cell? ⟨t, 1, none⟩ = some (.map (some d)) := hb.cell 1
  have hcnt := hok.cnt
  have hlast := hok.last
  have hmost := hok.most
  have H := Lib.hid h
  have HS := Lib.hid (show s.numbers n = (if 120 < (s.d.length : Int) + n then ((0, some 17), s) else match Sp.runI s.avail n with
    | some id => ((id, none), { s with avail := Sp.dropI s.avail id n })
    | none => if s.most < s.last + n then ((0, some 14), s) else ((s.last, none), { s with last := s.last + n }) : (Int × Option Int) × Sp.Sto) from rfl)
  generalize s.numbers n = r at *
  clear hP hD h
  by_cases hc : 120 < (s.d.length : Int) + n
  · have HS2 := Lib.hid (HS.out.trans (if_pos hc))
    clear HS
    go_enter Tryz.func72, Tryz.ntmps72
    go_wp2
    refine bodyPost_ret (v := .tuple #[.int .i64 0, erO (some 17)]) (by simp [results, Tryz.results72, go_sem, erO]) rfl ⟨by rw [HS2.out], by rw [HS2.out]; exact H.out, Chg.refl _ _⟩
  · have HS2 := Lib.hid (HS.out.trans (if_neg hc))
    have HA := Lib.hid ha
    have HF := Lib.hid hf
    have HT := Lib.hid hb
    have HRI := Lib.hid hok.avail
    have htw := hb.lt
    clear HS ha hf hb hok hcnt
    go_enter Tryz.func72, Tryz.ntmps72
    go_upto_region 4 with fail
    clear hmk hlen c1
    have hcb : Below w.heap.size w (w.alloc (.chan 1 #[] false 0 0 false)) := (Below.refl _ _).alloc (Nat.le_refl _) _
    have hch : ∃ s q, (w.alloc (.chan 1 #[] false 0 0 false)).heap[w.heap.size]? = some (.chan 1 (([] : List Int).map iv).toArray false s q false) := ⟨0, 0, heap_alloc_new w _⟩
    have HB := Lib.hid hcb
    have HCH := Lib.hid hch
    clear hcb hch
    generalize w.alloc (.chan 1 #[] false 0 0 false) = W1 at *
    have c3 : W1.cell? ⟨t, 3, none⟩ = some ua := (HT.out.below HB.out htw).cell 3
    go_upto_region 5 with (go_at_call 107; refine (idsRun_any ua s.avail n W1 (HA.out.iv.go HB.out) HA.out.ok (by omega)).mono ?_; rintro e w2 ⟨rfl, hb2⟩; have HB2 := Lib.hid (HB.out.trans (hb2.mono HB.out.size)); have HBC := Lib.hid hb2; clear hb2)
    have hcw : w.heap.size < W1.heap.size := by
      obtain ⟨s0, q0, hc⟩ := HCH.out
      exact (Array.getElem?_eq_some_iff.1 hc).1
    have hch2 : ∃ s q, w2.heap[w.heap.size]? = some (.chan 1 (([] : List Int).map iv).toArray false s q false) := by
      obtain ⟨s0, q0, hc⟩ := HCH.out
      exact ⟨s0, q0, (HBC.out.block _ hcw).trans hc⟩
    have HCH2 := Lib.hid hch2
    have hcw2 : w.heap.size < w2.heap.size := Nat.lt_of_lt_of_le hcw HBC.out.size
    clear HCH hch2 HBC HB c3 hcw
    rcases hq : Sp.runI s.avail n with _ | id
    · have HS3 := Lib.hid (show r = (if s.most < s.last + n then ((0, some 14), s) else ((s.last, none), { s with last := s.last + n })) from by
        have := HS2.out
        rw [hq] at this
        exact this)
      clear HS2 hq
      simp only [Option.getD_none, Option.isSome_none]
      go_upto_region 8 with fail
      obtain ⟨sq, qq, hc⟩ := HCH2.out
      refine InReg.region ?_
      show InReg _ _ _ [0, 1, 2] _ _
      refine InReg.default (w' := w2) (c := w.heap.size) (z := .int .i64 0) rfl rfl (by simp [go_sem, execOp, rcase, Act.eval]) hc ?_
      refine InReg.val (w' := w2) (v := goInt (-1)) rfl rfl (by simp [go_sem, execOp, Act.eval, Act.put]) ?_
      refine InReg.val (w' := w2) (v := .bool false) rfl rfl (by simp [go_sem, execOp, Act.eval, Act.put, goInt]) ?_
      refine InReg.nil ?_
      clear hc HCH2 hcw2
      have c4 : w2.cell? ⟨t, 4, none⟩ = some (.int .i64 s.last) := (HT.out.below HB2.out htw).cell 4
      have c5 : w2.cell? ⟨t, 5, none⟩ = some (.int .i64 s.most) := (HT.out.below HB2.out htw).cell 5
      have f4 := (HT.out.below HB2.out htw).frozen 4
      go_upto_region 12 with fail
      have hst := ((H.out.go HB2.out).last_ (s.last + n)).go ((Below.refl _ _).drew)
      have hck : Chg (OneM t) w (w2.setCell ⟨t, 4, none⟩ (.int .i64 (s.last + n))).drew := ((Chg.of_below HB2.out).trans (Chg.set1 w2 t 4 _)).trans (Chg.of_below (Below.refl _ _).drew)
      have HST := Lib.hid hst
      have HCK := Lib.hid hck
      clear hst hck
      have hwr : IntKind.i64.wrap (s.last + n) = s.last + n := by simp only [IntKind.wrap_i64]; omega
      by_cases hm : s.most < s.last + n
      · have HS4 := Lib.hid (HS3.out.trans (if_pos hm))
        go_region
        all_goals go_wp2_with fail
        all_goals exact bodyPost_ret (v := .tuple #[.int .i64 0, erO (some 14)]) (by simp [results, Tryz.results72, go_sem, erO]) rfl ⟨by rw [HS4.out], by rw [HS4.out]; exact H.out.go (below_drewN HB2.out 1), Chg.of_below (below_drewN HB2.out 1)⟩
      · have HS4 := Lib.hid (HS3.out.trans (if_neg hm))
        go_region
        all_goals go_wp2_with fail
        all_goals exact bodyPost_ret (v := .tuple #[.int .i64 s.last, erO none]) (by simp [results, Tryz.results72, go_sem, erO]) rfl ⟨by rw [HS4.out], by rw [HS4.out]; exact HST.out, HCK.out⟩
    · have HS3 := Lib.hid (show r = ((id, none), { s with avail := Sp.dropI s.avail id n }) from by
        have := HS2.out
        rw [hq] at this
        exact this)
      have hmem := Sp.runI_mem hq 0 (by omega)
      have hrg := HRI.out.2 _ hmem
      have HNE := Lib.hid (show s.avail ≠ [] from fun e => by rw [e] at hmem; cases hmem)
      rw [Int.natCast_zero, Int.add_zero] at hrg
      clear HS2 hmem hq hlast hmost
      simp only [Option.getD_some, Option.isSome_some]
      go_upto_region 6 with fail
      obtain ⟨sq, qq, hc⟩ := HCH2.out
      refine InReg.region ?_
      show InReg _ _ _ [0, 1, 2] _ _
      refine InReg.val (w' := w2) (v := .chan (some w.heap.size)) rfl rfl (by simp [go_sem, execOp, Act.eval]) ?_
      refine InReg.val (w' := w2) (v := .int .i64 id) rfl rfl (by simp [go_sem, execOp, Act.eval, Act.put]) ?_
      refine InReg.send (w' := w2) (c := w.heap.size) (v := .int .i64 id) (z := .tuple #[]) rfl rfl (by simp [go_sem, execOp, scase, Act.eval, Act.put]) hc (by simp) ?_
      refine InReg.nil ?_
      have hb3 : Below w.heap.size w (w2.setChan w.heap.size 1 ((([] : List Int).map iv).toArray.push (.int .i64 id)) false (sq + 1) qq false) := below_setChan HB2.out (Nat.le_refl _) _ _ _ _ _ _
      have hch3 : ∃ s q, (w2.setChan w.heap.size 1 ((([] : List Int).map iv).toArray.push (.int .i64 id)) false (sq + 1) qq false).heap[w.heap.size]? = some (.chan 1 (([id] : List Int).map iv).toArray false s q false) := ⟨sq + 1, qq, heap_setChan _ _ _ _ _ _ _ _ hcw2⟩
      have hcw3 : w.heap.size < (w2.setChan w.heap.size 1 ((([] : List Int).map iv).toArray.push (.int .i64 id)) false (sq + 1) qq false).heap.size := by rw [size_setChan]; exact hcw2
      have HB3 := Lib.hid hb3
      have HCH3 := Lib.hid hch3
      clear hb3 hch3 hc HCH2 HB2 hcw2
      generalize w2.setChan w.heap.size 1 ((([] : List Int).map iv).toArray.push (.int .i64 id)) false (sq + 1) qq false = W3 at *
      go_upto_region 8 with fail
      obtain ⟨s2, q2, hc⟩ := HCH3.out
      refine InReg.region ?_
      show InReg _ _ _ [0, 1, 2] _ _
      refine InReg.recv (w' := W3) (c := w.heap.size) (z := .int .i64 0) rfl rfl (by simp [go_sem, execOp, rcase, Act.eval]) hc (by simp) ?_
      have hb4 : Below w.heap.size w (W3.setChan w.heap.size 1 ((([id] : List Int).map iv).toArray.extract 1 (([id] : List Int).map iv).toArray.size) false s2 (q2 + 1) false) := below_setChan HB3.out (Nat.le_refl _) _ _ _ _ _ _
      have HB4 := Lib.hid hb4
      clear hb4 hc HCH3 HB3 hcw3
      generalize W3.setChan w.heap.size 1 ((([id] : List Int).map iv).toArray.extract 1 (([id] : List Int).map iv).toArray.size) false s2 (q2 + 1) false = W4 at *
      refine InReg.val (w' := W4) (v := goInt 0) rfl rfl (by simp [go_sem, execOp, Act.eval, Act.put]) ?_
      refine InReg.val (w' := W4) (v := .bool true) rfl rfl (by simp [go_sem, execOp, Act.eval, Act.put, goInt]) ?_
      refine InReg.nil ?_
      rw [show ((([id] : List Int).map iv).toArray.getD 0 undef) = .int .i64 id from rfl]
      have HX := Lib.hid (H.out.go HB4.out)
      have c3 : W4.cell? ⟨t, 3, none⟩ = some ua := (HT.out.below HB4.out htw).cell 3
      go_wp2_with (go_at_call 108; refine (idsDrop_any ua s.avail id n W4 (HA.out.iv.go HB4.out) HA.out.ok HNE.out hrg (by omega)).mono ?_; rintro e w5 ⟨uo, rfl, ho, hb5⟩; obtain ⟨Ao, co, rfl⟩ := own_slice ho; have HO := Lib.hid ho; have HB5 := Lib.hid hb5; clear ho hb5; have c35 : w5.cell? ⟨t, 3, none⟩ = some ua := (HT.out.below (HB4.out.trans (HB5.out.mono HB4.out.size)) htw).cell 3; have f35 := (HT.out.below (HB4.out.trans (HB5.out.mono HB4.out.size)) htw).frozen 3)
      have hb6 := HB4.out.trans (HB5.out.mono HB4.out.size)
      have hst := (H.out.go hb6).avail_ (L := Sp.dropI s.avail id n) ⟨own_base HO.out (Nat.zero_le _), HA.out.ok.drop⟩
      have hck : Chg (OneM t) w (w5.setCell ⟨t, 3, none⟩ (.slice Ao (Sp.dropI s.avail id n).length co)) := (Chg.of_below hb6).trans (Chg.set1 w5 t 3 _)
      refine bodyPost_ret (v := .tuple #[.int .i64 id, erO none]) (by simp [results, Tryz.results72, go_sem, erO]) rfl ⟨by rw [HS3.out], by rw [HS3.out]; exact hst, hck⟩
end Go.Proofs.YtkcfmjlcijhieaaGreat
namespace Go.Proofs.YtkcfmjlcijhieaaGreat
open Go.RowKit
attribute [local go_sem low] mk_extract
attribute [local go_sem] After.cell After.frozen mk_extract_end ByteArray.mk_append_mk
namespace Sp
theorem isItem_vals {x : Item} (h : isItem x = true) : x.vals.length ≤ 1000 := by
  rw [isItem_def, Bool.and_eq_true, Bool.and_eq_true] at h
  obtain ⟨⟨_, h1⟩, h2⟩ := h
  have h1 : x = own x := of_decide_eq_true h1
  by_cases h3 : x.kind = 3
  · unfold kindOk at h2
    rw [if_neg (by omega), if_neg (by omega), if_pos h3, Bool.or_eq_true, Bool.and_eq_true, Bool.and_eq_true] at h2
    rcases h2 with ⟨_, h2⟩ | ⟨h2, _⟩
    · unfold isVals at h2
      rw [Bool.and_eq_true, Bool.and_eq_true] at h2
      have := of_decide_eq_true h2.2
      omega
    · rw [of_decide_eq_true h2]; simp
  · have e : (own x).vals = [] := by
      unfold own
      split
      · rfl
      · split
        · rfl
        · first
            | rfl
            | (split <;> rfl)
            | (split
               · contradiction
               · split <;> rfl)
    rw [h1, e]; simp
theorem isLeaf_small {l : List Item} (h : isLeaf l = true) : l.length ≤ 1000 ∧ ∀ x ∈ l, x.vals.length ≤ 1000 := by
  unfold isLeaf at h
  rw [Bool.and_eq_true, Bool.and_eq_true] at h
  obtain ⟨⟨h1, _⟩, h3⟩ := h
  refine ⟨by have := of_decide_eq_true h3; omega, fun x hx => ?_⟩
  obtain ⟨i, hi, rfl⟩ := List.getElem_of_mem hx
  have := allTo_iff.1 h1 i hi
  rw [leafAt_def, Bool.and_eq_true] at this
  have h4 := isItem_vals this.1
  rwa [List.getD_eq_getElem?_getD, List.getElem?_eq_getElem hi] at h4
theorem free_small {p : Page} (h : isFree p = true) : p.free.length ≤ 1000 ∧ ∀ x ∈ p.free, x.ids.length ≤ 1000 := by
  unfold isFree at h
  rw [Bool.and_eq_true, Bool.and_eq_true] at h
  obtain ⟨⟨h1, h2⟩, _⟩ := h
  have h2 := of_decide_eq_true h2
  have h3 : ∀ x ∈ p.free, 1 ≤ x.ids.length := fun x hx => by
    obtain ⟨i, hi, rfl⟩ := List.getElem_of_mem hx
    have := allTo_iff.1 h1 i hi
    rw [freeAt_def, Bool.and_eq_true, Bool.and_eq_true] at this
    have h4 := of_decide_eq_true this.1.1
    rw [List.getD_eq_getElem?_getD, List.getElem?_eq_getElem hi] at h4
    exact List.length_pos_iff.2 h4
  have h4 : ∀ l : List Free, (∀ x ∈ l, 1 ≤ x.ids.length) → l.length ≤ total l ∧ ∀ x ∈ l, x.ids.length ≤ total l := by
    intro l
    induction l with
    | nil => intro _; exact ⟨by simp, fun x h => by cases h⟩
    | cons y l ih =>
      intro hl
      obtain ⟨i1, i2⟩ := ih fun x hx => hl x (List.mem_cons_of_mem _ hx)
      have hy := hl y (by simp)
      have e : total (y :: l) = y.ids.length + total l := by simp [total]
      refine ⟨by rw [e, List.length_cons]; omega, fun x hx => ?_⟩
      rcases List.mem_cons.1 hx with rfl | hx
      · omega
      · have := i2 x hx; omega
  obtain ⟨i1, i2⟩ := h4 p.free h3
  exact ⟨by omega, fun x hx => by have := i2 x hx; omega⟩
theorem isPage_small {p : Page} (h : isPage p = true) : p.Small := by
  unfold isPage at h
  split at h
  · rw [Bool.and_eq_true, decide_eq_true_eq] at h
    obtain ⟨h1, h2⟩ := h
    obtain ⟨i1, i2⟩ := isLeaf_small h2
    simp [has] at h1
    obtain ⟨_, ⟨e1, e2⟩, _, e4, e5, _⟩ := h1
    exact ⟨i1, by simp [e1], by simp [e2], by simp [e4], by simp [e5], i2, by simp [e5]⟩
  split at h
  · rw [Bool.and_eq_true, decide_eq_true_eq] at h
    obtain ⟨h1, h2⟩ := h
    unfold isBranch at h2
    simp only [Bool.and_eq_true, decide_eq_true_eq] at h2
    simp [has] at h1
    obtain ⟨e0, _, _, e4, e5, _⟩ := h1
    exact ⟨by simp [e0], by omega, by omega, by simp [e4], by simp [e5], by simp [e0], by simp [e5]⟩
  split at h
  · rw [Bool.and_eq_true, decide_eq_true_eq] at h
    have h1 := h.1
    simp [has] at h1
    obtain ⟨e0, ⟨e1, e2⟩, _, e4, e5, _⟩ := h1
    exact ⟨by simp [e0], by simp [e1], by simp [e2], by simp [e4], by simp [e5], by simp [e0], by simp [e5]⟩
  split at h
  · rw [Bool.and_eq_true, decide_eq_true_eq] at h
    obtain ⟨h1, h2⟩ := h
    unfold isVals at h2
    simp only [Bool.and_eq_true, decide_eq_true_eq] at h2
    simp [has] at h1
    obtain ⟨e0, ⟨e1, e2⟩, _, _, e5, _⟩ := h1
    exact ⟨by simp [e0], by simp [e1], by simp [e2], by omega, by simp [e5], by simp [e0], by simp [e5]⟩
  split at h
  · rw [Bool.and_eq_true, decide_eq_true_eq] at h
    obtain ⟨h1, h2⟩ := h
    obtain ⟨i1, i2⟩ := free_small h2
    simp [has] at h1
    obtain ⟨e0, ⟨e1, e2⟩, _, e4, _⟩ := h1
    exact ⟨by simp [e0], by simp [e1], by simp [e2], by simp [e4], i1, by simp [e0], i2⟩
  split at h
  · rw [Bool.and_eq_true, decide_eq_true_eq] at h
    have h1 := h.1
    simp [has] at h1
    obtain ⟨e0, ⟨e1, e2⟩, _, e4, e5, _⟩ := h1
    exact ⟨by simp [e0], by simp [e1], by simp [e2], by simp [e4], by simp [e5], by simp [e0], by simp [e5]⟩
  · cases h
theorem pg0_small : pg0.Small := ⟨by simp [pg0], by simp [pg0], by simp [pg0], by simp [pg0], by simp [pg0], by simp [pg0], by simp [pg0]⟩
end Sp
end Go.Proofs.YtkcfmjlcijhieaaGreat
