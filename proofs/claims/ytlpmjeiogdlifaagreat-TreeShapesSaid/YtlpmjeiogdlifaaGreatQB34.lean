/- The document's put, at every depth; Put into a whole tree. The document's rows of numbers: one more number. The document's file: a new one. -/
import Derived.Test.YtlpmjeiogdlifaaGreatQB32
import Derived.Test.YtlpmjeiogdlifaaGreatQB33
set_option linter.unusedSimpArgs false
set_option linter.unusedVariables false
namespace Go.Proofs.YtlpmjeiogdlifaaGreat
open Go.RowKit
attribute [local go_sem low] mk_extract
attribute [local go_sem] After.cell After.frozen mk_extract_end ByteArray.mk_append_mk
theorem put_all (x : Sp.Item) (V : Option Addr) (c : Nat) (hx : Sp.isItem x = true) : ∀ d, KidOk x V c d
  | 0 => fun b t s n fp P w h hV hok hon hn => by
    obtain ⟨id, l0⟩ := t
    have hid : 2 ≤ id := hon.holds.1
    obtain ⟨i, rfl⟩ : ∃ i, id = i + 2 := ⟨id - 2, by omega⟩
    exact put_at_leaf s fp P i n l0 x V c b w h hV hx hok hon hn (Sp.T.put_ge x 0 (i + 2, l0) n)
  | d + 1 => fun b t s n fp P w h hV hok hon hn => by
    obtain ⟨id, cs⟩ := t
    have hid : 2 ≤ id := hon.holds.1.1
    obtain ⟨i, rfl⟩ : ∃ i, id = i + 2 := ⟨id - 2, by omega⟩
    exact put_at_branch x V c d (put_all x V c hx d) s fp P i n cs b w h hV hx hok hon hn
theorem PqS.leaf1 {w W : World} {s : Nat} {fp : Value} {P : List Sp.Page} {x : Sp.Item} {V : Option Addr} {c : Nat} (S : PuS w W s fp P x V c) (hw : W.heap.size = w.heap.size + 1) :
    PqS w ((W.alloc (.cells (itemV x V c).toArray ItemT)).alloc (.cells (pageV (Sp.leafPg [x]) (refsI (some ⟨w.heap.size + 1, 0, none⟩) 1)).toArray PageT)) s (w.heap.size + 1 + 1) fp P x V c (Sp.leafPg [x]) (refsI (some ⟨w.heap.size + 1, 0, none⟩) 1) := by
  have h1 : Below W.heap.size W (W.alloc (.cells (itemV x V c).toArray ItemT)) := (Below.refl _ _).alloc (Nat.le_refl _) _
  have S1 := S.go h1
  have hb := Blk.new W ItemT (itemV x V c).toArray
  rw [hw] at hb
  have hs := S.hs
  have hI : Items (W.alloc (.cells (itemV x V c).toArray ItemT)) (OneM s) (some ⟨w.heap.size + 1, 0, none⟩) [x] := by
    have hp : ItP (W.alloc (.cells (itemV x V c).toArray ItemT)) (OneM s) ([] ++ [x]) ([] ++ itemV x V c) := ItP.snoc (l := []) (xs := []) rfl S1.xv
    refine ItP.items (xs := itemV x V c) hp hb.lt (fun e => by unfold OneM at e; omega) (fun j u hu => ?_) (by simp)
    rw [Nat.zero_add]
    exact (hb.cell j).trans (by simpa using hu)
  have h := PqS.start S1 (leafRd hI 1)
  have e : (W.alloc (.cells (itemV x V c).toArray ItemT)).heap.size = w.heap.size + 1 + 1 := by rw [World.size_alloc, hw]
  rw [e] at h
  exact h
attribute [local go_sem] itemV_len item_fold
set_option maxRecDepth 100000 in
set_option maxHeartbeats 1600000 in
theorem putw_any (s : Nat) (fp : Value) (P : List Sp.Page) (o : Option Sp.Rt) (n : Nat) (x : Sp.Item) (V : Option Addr) (c : Nat) (w : World) (h : StF w s fp P) (hV : Txts w (OneM s) V x.vals) (hx : Sp.isItem x = true) (hat : Sp.Rt.At P o n) (hn : (Sp.putR x o n).2 ≤ 122) :
    Calls Tryz.prog 42 #[.pointer (some ⟨s, 0, none⟩), .int .i64 ((Sp.Rt.root o : Nat) : Int), .agg (itemV x V c).toArray] w fun e w' =>
      e = .returned (.tuple #[.int .i64 ((Sp.Rt.root (Sp.putR x o n).1 : Nat) : Int), .int .i64 0]) ∧ ∃ P', StF w' s fp P' ∧ Sp.Rt.At P' (Sp.putR x o n).1 (Sp.putR x o n).2 ∧ Sp.Rt.items (Sp.putR x o n).1 = Sp.insIt x (Sp.Rt.items o) ∧ Chg (OneM s) w w' := by
  have S := Lib.hid (PuS.start c h hV)
  have hlf : Sp.isPage (Sp.leafPg [x]) = true := Sp.leafPg_is (by simp) (by simp) (by simp [Sp.Rising]) (fun y hy => by rw [List.mem_singleton.1 hy]; exact hx)
  have HLF := Lib.hid hlf
  have HX := Lib.hid hx
  have HN := Lib.hid hn
  have HAT := Lib.hid hat
  clear h hV hx hlf hn hat
  go_enter Tryz.func42, Tryz.ntmps42
  go_upto_region 2 with (first
    | (refine wpList_row ItemT _ rfl w.heap.size rfl rfl ItemT _ (0, 0) _ S.out.bx Tryz.underlying45 rfl (by kernel_rfl) ?_)
    | (refine wpList_new PageT _ _ rfl rfl rfl rfl rfl rfl _ rfl (of_decide_eq_true (by kernel_rfl)) (by kernel_rfl) (by kernel_rfl) (by kernel_rfl) ?_))
  refine wp_gen (fun W => PqS w W s (w.heap.size + 1 + 1) fp P x V c (Sp.leafPg [x]) (refsI (some ⟨w.heap.size + 1, 0, none⟩) 1)) (PqS.leaf1 S.out (World.size_alloc _ _)) ?_
  intro w4 hT
  have T := Lib.hid hT
  clear hT S
  simp only [World.size_alloc, Act.put, List.setIfInBounds_toArray, List.set_cons_succ, List.set_cons_zero]
  generalize w.heap.size + 1 + 1 = bq at *
  generalize refsI (some ⟨w.heap.size + 1, 0, none⟩) 1 = r at *
  go_upto_region 4 with (first
    | (go_at_call 55; refine (dIs_any (M := OneM s) (Sp.leafPg [x]) r _ T.out.pr).mono ?_; rintro e w2 ⟨rfl, hb2⟩; rw [HLF.out]; replace T := Lib.hid (T.out.go hb2); clear hb2)
    | (refine wpList_row PageT _ rfl bq rfl rfl PageT _ (0, 0) _ T.out.bp Tryz.underlying59 rfl (by kernel_rfl) ?_))
  rcases o with _ | o
  · obtain ⟨rfl, rfl⟩ := HAT.out
    have hat := Sp.At_none HX.out
    have hpn := Sp.putR_none x 2
    have hit : Sp.Rt.items (Sp.putR x none 2).1 = Sp.insIt x (Sp.Rt.items none) := rfl
    have HAT2 := Lib.hid hat
    have HIT := Lib.hid hit
    clear hat hit HAT HN hpn
    rw [show Sp.Rt.root (none : Option Sp.Rt) = 0 from rfl]
    go_wp2_with (first
      | (go_at_call 89; refine (add_any s fp [] (Sp.leafPg [x]) r _ T.out.u.st T.out.pr HLF.out (by simp)).mono ?_; rintro e w5 ⟨rfl, h1, h2⟩)
      | (refine wpList_row PageT _ rfl bq rfl rfl PageT _ (0, 0) _ T.out.bp Tryz.underlying59 rfl (by kernel_rfl) ?_))
    refine bodyPost_ret (v := .tuple #[.int .i64 2, .int .i64 0]) (by simp [results, Tryz.results42, go_sem]) rfl ⟨rfl, _, h1, HAT2.out, HIT.out, T.out.u.ck.trans h2⟩
  · have hat := HAT.out
    obtain ⟨hon, hok, hcn⟩ := hat
    have hid2 : 2 ≤ Sp.T.id o.d o.t := hon.holds.root.1
    have hne : ¬ (((Sp.T.id o.d o.t : Nat) : Int) = 0) := by omega
    have hneb : (((Sp.T.id o.d o.t : Nat) : Int) == 0) = false := beq_eq_false_iff_ne.2 hne
    have HON := Lib.hid hon
    have HOK := Lib.hid hok
    have HID := Lib.hid hid2
    clear hon hok hcn
    rw [show Sp.Rt.root (some o) = Sp.T.id o.d o.t from rfl]
    rcases hm : (Sp.T.put x o.d o.t n).2.1 with _ | m
    · have hn1 := Sp.putR_same hm
      have HM := Lib.hid hm
      have HN1 := Lib.hid hn1
      have hnn : (Sp.T.put x o.d o.t n).2.2 ≤ 122 := by have := HN.out; rw [hn1] at this; exact this
      have HNN := Lib.hid hnn
      clear hm hn1 hnn hid2
      go_wp2_with (first
        | (go_at_call 90; refine (put_all x V c HX.out o.d true o.t s n fp P _ T.out.u.st T.out.u.xv HOK.out HON.out HNN.out).mono ?_; rintro e w5 ⟨rfl, P', h1, h2, h3⟩; rw [HM.out]; simp only [Sp.moreId, Sp.moreKey]; have HR := Lib.hid h2)
        | (refine wpList_row ItemT _ rfl w.heap.size rfl rfl ItemT _ (0, 0) _ T.out.u.bx Tryz.underlying45 rfl (by kernel_rfl) ?_))
      obtain ⟨q1, q2, q3⟩ := Sp.At_same HX.out HAT.out HR.out HM.out
      refine bodyPost_ret (v := .tuple #[.int .i64 ((Sp.T.id o.d o.t : Nat) : Int), .int .i64 0]) (by simp [results, Tryz.results42, go_sem]) rfl ⟨by rw [q3]; rfl, _, h1, q1, q2, T.out.u.ck.trans h3⟩
    · have hn1 := Sp.putR_new hm
      have hnn : (Sp.T.put x o.d o.t n).2.2 + 1 ≤ 122 := by have := HN.out; rw [hn1] at this; exact this
      have hmi : Sp.moreId o.d (Sp.T.put x o.d o.t n).2.1 = Sp.T.id o.d m.2 := by rw [hm]; rfl
      have hmk : Sp.moreKey (Sp.T.put x o.d o.t n).2.1 = m.1 := by rw [hm]; rfl
      have HM := Lib.hid hm
      have HMI := Lib.hid hmi
      have HMK := Lib.hid hmk
      have HNN := Lib.hid hnn
      clear hm hn1 hnn hid2 hmi hmk
      go_upto_region 7 with (first
        | (go_at_call 90; refine (put_all x V c HX.out o.d true o.t s n fp P _ T.out.u.st T.out.u.xv HOK.out HON.out (by have := HNN.out; omega)).mono ?_; rintro e w5 ⟨rfl, P', h1, h2, h3⟩; rw [HMI.out, HMK.out]; have HR := Lib.hid h2)
        | (refine wpList_row ItemT _ rfl w.heap.size rfl rfl ItemT _ (0, 0) _ T.out.u.bx Tryz.underlying45 rfl (by kernel_rfl) ?_))
      have hm2 : 2 ≤ Sp.T.id o.d m.2 := (HR.out.more m HM.out).root.1
      have hmne : ¬ (((Sp.T.id o.d m.2 : Nat) : Int) = 0) := by omega
      have hmneb : (((Sp.T.id o.d m.2 : Nat) : Int) == 0) = false := beq_eq_false_iff_ne.2 hmne
      obtain ⟨q1, q2, q3⟩ := Sp.At_new HX.out HAT.out HR.out HM.out
      have hpg := Sp.new_is HX.out HAT.out HR.out HM.out (by have := HNN.out; omega)
      have hidq := (Sp.put_spec HX.out o.d true o.t n HOK.out).1
      rw [hidq] at hpg q1
      have hlp : P'.length + 2 = (Sp.T.put x o.d o.t n).2.2 := HR.out.len
      have H1 := Lib.hid h1
      have HPG := Lib.hid hpg
      have Q1 := Lib.hid q1
      have Q2 := Lib.hid q2
      have Q3 := Lib.hid q3
      have HCK := Lib.hid (T.out.u.ck.trans h3)
      have hs5 : s < w5.heap.size := by
        obtain ⟨_, _, h, _⟩ := h1
        exact h.bs.lt
      have hP' : P'.length < 120 := by have := HNN.out; omega
      have HLP := Lib.hid hlp
      clear h1 h2 h3 hpg q1 q2 q3 hidq hlp
      generalize m.1 = mk at *
      generalize Sp.T.id o.d m.2 = mid at *
      have hal : Below w5.heap.size w5 ((w5.alloc (.cells #[.string ⟨#[]⟩, .string ⟨mk.toArray⟩] StrT)).alloc (.cells #[.int .i64 ((Sp.T.id o.d o.t : Nat) : Int), .int .i64 (mid : Int)] IntT)) := ((Below.refl _ _).alloc (Nat.le_refl _) _).alloc (by simp) _
      have HB := Lib.hid hal
      have hk : Txts ((w5.alloc (.cells #[.string ⟨#[]⟩, .string ⟨mk.toArray⟩] StrT)).alloc (.cells #[.int .i64 ((Sp.T.id o.d o.t : Nat) : Int), .int .i64 (mid : Int)] IntT)) (OneM s) (some ⟨w5.heap.size, 0, none⟩) [[], mk] := by
        have hb := (Blk.new w5 StrT #[.string ⟨#[]⟩, .string ⟨mk.toArray⟩]).alloc (.cells #[.int .i64 ((Sp.T.id o.d o.t : Nat) : Int), .int .i64 (mid : Int)] IntT)
        refine ⟨by simp, .inr ⟨w5.heap.size, 0, rfl, hb.lt, fun e => by unfold OneM at e; omega, fun j u hu => ?_⟩⟩
        rw [Nat.zero_add]
        exact (hb.cell j).trans (by simpa [tv] using hu)
      have hi : Ints ((w5.alloc (.cells #[.string ⟨#[]⟩, .string ⟨mk.toArray⟩] StrT)).alloc (.cells #[.int .i64 ((Sp.T.id o.d o.t : Nat) : Int), .int .i64 (mid : Int)] IntT)) (OneM s) (some ⟨w5.heap.size + 1, 0, none⟩) [((Sp.T.id o.d o.t : Nat) : Int), (mid : Int)] := by
        have hb := blk_second w5 (.cells #[.string ⟨#[]⟩, .string ⟨mk.toArray⟩] StrT) IntT #[.int .i64 ((Sp.T.id o.d o.t : Nat) : Int), .int .i64 (mid : Int)]
        refine ⟨by simp, .inr ⟨w5.heap.size + 1, 0, rfl, hb.lt, fun e => by unfold OneM at e; omega, fun j u hu => ?_⟩⟩
        rw [Nat.zero_add]
        exact (hb.cell j).trans (by simpa [iv] using hu)
      have HK := Lib.hid hk
      have HI := Lib.hid hi
      clear hk hi hal
      go_wp2_with (go_at_call 89; refine (add_any s fp P' (Sp.branchPg [[], mk] [((Sp.T.id o.d o.t : Nat) : Int), (mid : Int)]) (refsB (some ⟨w5.heap.size, 0, none⟩) 2 (some ⟨w5.heap.size + 1, 0, none⟩) 2) _ (H1.out.go HB.out) (branchRd HK.out HI.out 2 2) HPG.out hP').mono ?_; rintro e w6 ⟨rfl, h5, h6⟩)
      refine bodyPost_ret (v := .tuple #[.int .i64 ((P'.length + 2 : Nat) : Int), .int .i64 0]) (by simp [results, Tryz.results42, go_sem]) rfl ⟨by rw [Q3.out, HLP.out], _, h5, Q1.out, Q2.out, (HCK.out.trans (Chg.of_below HB.out)).trans h6⟩
end Go.Proofs.YtlpmjeiogdlifaaGreat
namespace Go.Proofs.YtlpmjeiogdlifaaGreat
open Go.RowKit
attribute [local go_sem low] mk_extract
attribute [local go_sem] After.cell After.frozen mk_extract_end ByteArray.mk_append_mk
namespace Sp
def withI (n : Int) : List Int → List Int
  | [] => [n]
  | a :: l => if a = n then a :: l else if n < a then n :: a :: l else a :: withI n l
theorem withI_at (n : Int) : ∀ {l : List Int} {k : Nat}, (∀ j, j < k → l.getD j 0 < n) → k ≤ l.length → withI n l = l.take k ++ withI n (l.drop k)
  | _, 0, _, _ => by simp
  | [], k + 1, _, h => by simp at h
  | a :: l, k + 1, h, hk => by
    have h0 := h 0 (by omega)
    have h0 : a < n := by simpa using h0
    rw [List.take_succ_cons, List.drop_succ_cons, List.cons_append, ← withI_at n (fun j hj => by simpa using h (j + 1) (by omega)) (by simpa using hk)]
    unfold withI
    rw [if_neg (by omega), if_neg (by omega)]
    cases l <;> rfl
theorem withI_len (n : Int) : ∀ l : List Int, (withI n l).length ≤ l.length + 1
  | [] => by simp [withI]
  | a :: l => by
    have := withI_len n l
    unfold withI
    split
    · simp
    · split
      · simp
      · simp; omega
theorem drop_getD' {l : List Int} {k : Nat} (hk : k < l.length) : l.drop k = l.getD k 0 :: l.drop (k + 1) := by
  rw [List.drop_eq_getElem_cons hk]
  simp [List.getD, hk]
theorem withI_same {n : Int} {l : List Int} {k : Nat} (h : ∀ j, j < k → l.getD j 0 < n) (hk : k < l.length) (he : l.getD k 0 = n) : withI n l = l := by
  rw [withI_at n h (Nat.le_of_lt hk), drop_getD' hk]
  unfold withI
  rw [if_pos he, ← drop_getD' hk, List.take_append_drop]
theorem withI_here {n : Int} {l : List Int} {k : Nat} (h : ∀ j, j < k → l.getD j 0 < n) (hk : k < l.length) (he : n < l.getD k 0) : withI n l = l.take k ++ [n] ++ l.drop k := by
  rw [withI_at n h (Nat.le_of_lt hk), drop_getD' hk]
  conv => lhs; unfold withI
  rw [if_neg (by omega), if_pos he, List.append_assoc]
  rfl
theorem withI_end {n : Int} {l : List Int} (h : ∀ j, j < l.length → l.getD j 0 < n) : withI n l = l ++ [n] := by
  rw [withI_at n h (Nat.le_refl _), List.drop_length, List.take_length]
  rfl
end Sp
theorem own_to_rowM {w : World} {base n : Nat} {e : TypeId} {g cap : Nat} {M : Nat → Prop} {xs : List Value} (h : w.ownsRow base e 1 (.slice (some ⟨g, 0, none⟩) n cap) n xs) (hs : ∀ k, base ≤ k → ¬ M k) (hn : n ≤ 1000000) : Row w M (some ⟨g, 0, none⟩) xs := by
  have hge := own_ge h
  have hl : xs.length = n := by simpa using h.1
  refine ⟨by omega, ?_⟩
  rcases Nat.eq_zero_or_pos n with rfl | hpos
  · exact .inl (List.length_eq_zero_iff.1 hl)
  · obtain ⟨g', cap', e', hg, hc⟩ := own_some h hpos
    obtain ⟨rfl, rfl⟩ : g = g' ∧ cap = cap' := by simpa using e'
    refine .inr ⟨g, 0, rfl, hg, hs g hge, fun j u hu => ?_⟩
    rw [Nat.zero_add]
    exact hc j u hu
theorem wpList_append_none {P : Program} {ops rest : _} {o : Oper} {a : Act} {w : World} {Q : Exit → Act → World → Prop} (hgd : o.guard = none) (s x : Operand) (t : TypeId)
    (ho : o.op = .call { callee := .builtin .append, args := #[s, x], argTypes := #[t, t] })
    (base : Nat) (e : TypeId) (i : TypeInfo) (size : Nat) (ht : P.underlying t = some (.slice e)) (hi : P.info? e = some i)
    (v : Value) (n : Nat) (xs : List Value) (hs : a.eval s = v) (hown : w.ownsRow base e size v n xs) (hx : a.eval x = .slice none 0 0)
    (h : wpList P ops Q rest (a.put o.dst v) w) : wpList P ops Q (o :: rest) a w :=
  wpList_plain hgd fun _ hK => by
    have hrun := run_append_owned_none (P := P) (w := w) base t o.type e i size ht hi v n xs hown
    unfold Oper.wp
    simp [execOp, ho, resolve, invoke, builtin, hs, hx, hrun, Result.andThen]
    exact hK _ _ h
set_option maxRecDepth 100000 in
set_option maxHeartbeats 1600000 in
theorem dWith_any (l : List Int) (A : Option Addr) (c : Nat) (n : Int) {M : Nat → Prop} (w : World) (hl : Ints w M A l) (hn : l.length ≤ 100000) (hc : l.length ≤ c) (hA : A = none → c = 0) :
    Calls Tryz.prog 88 #[.slice A l.length c, .int .i64 n] w fun e w' => ∃ A' c', e = .returned (.slice A' (Sp.withI n l).length c') ∧ (Sp.withI n l).length ≤ c' ∧ (A' = none → c' = 0) ∧ (∀ M' : Nat → Prop, (∀ k, M' k → M k ∧ k < w.heap.size) → Ints w' M' A' (Sp.withI n l)) ∧ (w'.ownsRow w.heap.size IntT 1 (.slice A' (Sp.withI n l).length c') (Sp.withI n l).length ((Sp.withI n l).map iv) ∨ (Sp.withI n l = l ∧ A' = A ∧ c' = c)) ∧ Below w.heap.size w w' := by
  obtain ⟨i0, hii0, hz0, hz1, hz2⟩ := info_parts info_int
  have HL := Lib.hid hl
  have HA := Lib.hid hA
  have HL1 := Lib.hid (Sp.withI_len n l)
  have HI1 := Lib.hid (show ∀ u ∈ [iv n], u.oneCell' = true from fun u hu => by rw [List.mem_singleton.1 hu]; rfl)
  clear hl hA
  generalize hw2 : Sp.withI n l = l2 at *
  have HL2 := Lib.hid hw2
  clear hw2
  go_enter Tryz.func88, Tryz.ntmps88
  go_wp2_with fail
  go_loopw [5] (fun i wr => ∃ k : Nat, k ≤ l.length ∧ i = .int .i64 (k : Int) ∧ wr = w ∧ Hid (∀ j, j < k → l.getD j 0 < n)) (fun i _ => l.length - (intOf i).toNat)
  case atStart => exact ⟨0, by omega, rfl, rfl, Lib.hid (fun j hj => absurd hj (by omega))⟩
  case round =>
    obtain ⟨k, hk, rfl, rfl, hno⟩ := hrel
    by_cases hlt : k < l.length
    · obtain ⟨b, off, rfl, hbw, hM, hcl⟩ := Row.open_ (cs := l.map iv) HL.out (by rw [List.length_map]; omega)
      have hkc : wr.cell? ⟨b, off + k, none⟩ = some (.int .i64 (l.getD k 0)) := hcl k _ (by simp [List.getD, hlt, iv])
      have HCL := Lib.hid hcl
      clear hcl
      by_cases he : l.getD k 0 = n
      · have HW := Lib.hid (HL2.out.symm.trans (Sp.withI_same hno.out hlt he))
        have hb : (l.getD k 0 == n) = true := beq_iff_eq.2 he
        have HE := Lib.hid he
        clear he
        generalize l.getD k 0 = a at *
        go_wp2_with fail
        go_ret
        refine ⟨_, _, by rw [HW.out]; rfl, by rw [HW.out]; exact hc, HA.out, fun M' hM' => by rw [HW.out]; exact Row.anti HL.out (fun k h => (hM' k h).1), .inr ⟨HW.out, rfl, rfl⟩, Below.refl _ _⟩
      · have hb : (l.getD k 0 == n) = false := beq_eq_false_iff_ne.2 he
        by_cases hg : n < l.getD k 0
        · have HW := Lib.hid (HL2.out.symm.trans (Sp.withI_here hno.out hlt hg))
          have hwr : ¬ c = k := by omega
          have hkc1 : (k : Int) ≤ (c : Int) := by omega
          have hkl1 : (k : Int) ≤ (l.length : Int) := by omega
          have hkc2 : k ≤ c := by omega
          have HLa := Lib.hid (show ((l.take k).map iv).length = k * 1 by rw [List.length_map, List.length_take]; omega)
          have HLc := Lib.hid (show ((l.drop k).map iv).length = (l.length - k) * 1 by rw [List.length_map, List.length_drop, Nat.mul_one])
          have HOa := Lib.hid (show ∀ u ∈ (l.take k).map iv, u.oneCell' = true from fun u hu => by obtain ⟨s, _, rfl⟩ := List.mem_map.1 hu; rfl)
          have HOc := Lib.hid (show ∀ u ∈ (l.drop k).map iv, u.oneCell' = true from fun u hu => by obtain ⟨s, _, rfl⟩ := List.mem_map.1 hu; rfl)
          have HCa := Lib.hid (show ∀ j u, ((l.take k).map iv)[j]? = some u → wr.cell? ⟨b, off + j, none⟩ = some u from fun j u hu => by
            refine HCL.out j u ?_
            rw [List.map_take, List.getElem?_take] at hu
            split at hu
            · exact hu
            · cases hu)
          have HCc := Lib.hid (show ∀ j u, ((l.drop k).map iv)[j]? = some u → wr.cell? ⟨b, off + k + j, none⟩ = some u from fun j u hu => by
            rw [Nat.add_assoc]
            refine HCL.out (k + j) u ?_
            rw [List.map_drop, List.getElem?_drop] at hu
            exact hu)
          have hnl : 0 < l2.length := by rw [HW.out]; simp only [List.length_append, List.length_cons]; omega
          have HNL := Lib.hid (show ∀ (v : Value) (W : World), W.ownsRow wr.heap.size IntT 1 v (k + 1 + (l.length - k)) ((l.take k).map iv ++ [iv n] ++ (l.drop k).map iv) → W.ownsRow wr.heap.size IntT 1 v l2.length (l2.map iv) from fun v W h => by
            rw [HW.out]
            have e1 : (l.take k ++ [n] ++ l.drop k).length = k + 1 + (l.length - k) := by simp only [List.length_append, List.length_take, List.length_drop, List.length_cons, List.length_nil]; omega
            rw [e1]
            simpa only [List.map_append, List.map_cons, List.map_nil] using h)
          generalize l.getD k 0 = a at *
          go_upto_region 7 with fail
          refine wp_region_in 12 11 (fun W => Below wr.heap.size wr W) (by kernel_rfl) rfl ?_
          refine wpIn_take 0 (.slice (some ⟨b, off, none⟩) l.length c) rfl (by kernel_rfl) (by kernel_rfl) (by kernel_rfl) (by kernel_rfl) (by kernel_rfl) (by rfl) (fun _ _ _ h => h) ((Below.refl wr.heap.size wr).drew) (fun W hW => by go_simp; all_goals first | with_reducible rfl | rfl) ?_
          simp only [List.getElem_toArray, List.getElem_cons_zero, List.getElem_cons_succ, Act.put, List.setIfInBounds_toArray, List.set_cons_succ, List.set_cons_zero]
          refine wpIn_take 1 (.int .i64 (k : Int)) rfl (by kernel_rfl) (by kernel_rfl) (by kernel_rfl) (by kernel_rfl) (by kernel_rfl) (by rfl) (fun _ _ _ h => h) ((Below.refl wr.heap.size wr).drew) (fun W hW => by go_simp; all_goals first | with_reducible rfl | rfl) ?_
          simp only [List.getElem_toArray, List.getElem_cons_zero, List.getElem_cons_succ, Act.put, List.setIfInBounds_toArray, List.set_cons_succ, List.set_cons_zero]
          refine wpIn_take 2 (.slice (some ⟨b, off, none⟩) k c) rfl (by kernel_rfl) (by kernel_rfl) (by kernel_rfl) (by kernel_rfl) (by kernel_rfl) (by rfl) (fun _ _ _ h => h) ((Below.refl wr.heap.size wr).drew) (fun W hW => by go_simp; all_goals first | with_reducible rfl | rfl) ?_
          simp only [List.getElem_toArray, List.getElem_cons_zero, List.getElem_cons_succ, Act.put, List.setIfInBounds_toArray, List.set_cons_succ, List.set_cons_zero]
          refine wpIn_take 4 (.int .i64 n) rfl (by kernel_rfl) (by kernel_rfl) (by kernel_rfl) (by kernel_rfl) (by kernel_rfl) (by rfl) (fun _ _ _ h => h) ((Below.refl wr.heap.size wr).drew) (fun W hW => by go_simp; all_goals first | with_reducible rfl | rfl) ?_
          simp only [List.getElem_toArray, List.getElem_cons_zero, List.getElem_cons_succ, Act.put, List.setIfInBounds_toArray, List.set_cons_succ, List.set_cons_zero]
          refine wpIn_take 7 (.slice (some ⟨b, off, none⟩) l.length c) rfl (by kernel_rfl) (by kernel_rfl) (by kernel_rfl) (by kernel_rfl) (by kernel_rfl) (by rfl) (fun _ _ _ h => h) ((Below.refl wr.heap.size wr).drew) (fun W hW => by go_simp; all_goals first | with_reducible rfl | rfl) ?_
          simp only [List.getElem_toArray, List.getElem_cons_zero, List.getElem_cons_succ, Act.put, List.setIfInBounds_toArray, List.set_cons_succ, List.set_cons_zero]
          refine wpIn_take 8 (.int .i64 (k : Int)) rfl (by kernel_rfl) (by kernel_rfl) (by kernel_rfl) (by kernel_rfl) (by kernel_rfl) (by rfl) (fun _ _ _ h => h) ((Below.refl wr.heap.size wr).drew) (fun W hW => by go_simp; all_goals first | with_reducible rfl | rfl) ?_
          simp only [List.getElem_toArray, List.getElem_cons_zero, List.getElem_cons_succ, Act.put, List.setIfInBounds_toArray, List.set_cons_succ, List.set_cons_zero]
          refine wpIn_take 9 (.slice (some ⟨b, off + k, none⟩) (l.length - k) (c - k)) rfl (by kernel_rfl) (by kernel_rfl) (by kernel_rfl) (by kernel_rfl) (by kernel_rfl) (by rfl) (fun _ _ _ h => h) ((Below.refl wr.heap.size wr).drew) (fun W hW => by go_simp; all_goals first | with_reducible rfl | rfl) ?_
          simp only [List.getElem_toArray, List.getElem_cons_zero, List.getElem_cons_succ, Act.put, List.setIfInBounds_toArray, List.set_cons_succ, List.set_cons_zero]
          refine wpIn_two 3 5 rfl rfl (by kernel_rfl) (fun _ => ((Below.refl wr.heap.size wr).drew)) (by rfl) (by rfl) ?_ ?_
          · refine wp_append_own _ (.const (.slice none 0 0)) (.tmp 27) _ rfl wr.heap.size IntT i0 _ 1 8 Tryz.underlying32 hii0 hz0 hz1 hz2 rfl (by decide) (.slice none 0 0) 0 [] rfl (own_nil _ _ _ _) ⟨b, off, none⟩ k c ((l.take k).map iv) rfl HLa.out (cells_keep (w := wr) ((Below.refl wr.heap.size wr).drew) hbw HCa.out) HOa.out (by simp only [maxLen]; omega) (by omega) (Nat.le_refl _) ?_
            intro v2 w2 hown2 hgr2 hnil2
            replace hown2 : w2.ownsRow wr.heap.size IntT 1 v2 k ((l.take k).map iv) := by simpa using hown2
            obtain ⟨B2, c2, rfl⟩ := own_form hown2
            have hb1 := grown_below hgr2
            have hB2 : Below wr.heap.size wr w2 := ((Below.refl wr.heap.size wr).drew).trans (hb1.mono (Nat.le_refl _))
            have HO2 := Lib.hid hown2
            have hz2w := hB2.size
            clear hown2 hgr2 hnil2
            simp only [List.getElem_toArray, List.getElem_cons_zero, List.getElem_cons_succ, Act.put, List.setIfInBounds_toArray, List.set_cons_succ, List.set_cons_zero]
            refine wpIn_one 5 rfl (by kernel_rfl) (fun _ => hB2) (by rfl) ?_
            go_simp
            refine wpIn_one 6 rfl (by kernel_rfl) (fun _ => (hB2.alloc hz2w _)) (by rfl) ?_
            refine wp_append_own _ (.tmp 28) (.tmp 30) _ rfl wr.heap.size IntT i0 _ 1 8 Tryz.underlying32 hii0 hz0 hz1 hz2 rfl (by decide) (.slice B2 k c2) k ((l.take k).map iv) rfl (own_chg2 (S := NoM) HO2.out ((Chg.refl _ _).alloc (.cells #[.int .i64 n] IntT)) (fun _ _ h => h)) ⟨w2.heap.size, 0, none⟩ 1 1 [iv n] rfl rfl (cells_new w2 IntT [iv n]) HI1.out (by simp only [maxLen]; omega) (by omega) (Below.size (hB2.alloc hz2w _)) ?_
            intro v3 w3 hown3 hgr3 hnil3
            obtain ⟨g2, cap2, rfl, _, _⟩ := own_some hown3 (Nat.succ_pos _)
            have hB3 : Below wr.heap.size wr w3 := (hB2.alloc hz2w _).trans (grown_own (own_chg2 (S := NoM) HO2.out ((Chg.refl _ _).alloc (.cells #[.int .i64 n] IntT)) (fun _ _ h => h)) (Below.size (hB2.alloc hz2w _)) hgr3)
            have HO3 := Lib.hid hown3
            have hz3w := hB3.size
            clear hown3 hgr3 hnil3
            simp only [List.getElem_toArray, List.getElem_cons_zero, List.getElem_cons_succ, Act.put, List.setIfInBounds_toArray, List.set_cons_succ, List.set_cons_zero]
            refine wpIn_one 10 rfl (by kernel_rfl) (fun _ => hB3) (by rfl) ?_
            refine wp_append_own _ (.tmp 31) (.tmp 34) _ rfl wr.heap.size IntT i0 _ 1 8 Tryz.underlying32 hii0 hz0 hz1 hz2 rfl (by decide) (.slice (some ⟨g2, 0, none⟩) (k + 1) cap2) (k + 1) ((l.take k).map iv ++ [iv n]) rfl HO3.out ⟨b, off + k, none⟩ (l.length - k) (c - k) ((l.drop k).map iv) rfl HLc.out (cells_keep (w := wr) hB3 hbw HCc.out) HOc.out (by simp only [maxLen]; omega) (by omega) hz3w ?_
            intro v4 w4 hown4 hgr4 hnil4
            replace hown4 := HNL.out v4 w4 hown4
            obtain ⟨g4, cap4, rfl, _, _⟩ := own_some hown4 hnl
            have hB4 : Below wr.heap.size wr w4 := hB3.trans (grown_own HO3.out hz3w hgr4)
            have HO4 := Lib.hid hown4
            clear hown4 hgr4 hnil4
            simp only [List.getElem_toArray, List.getElem_cons_zero, List.getElem_cons_succ, Act.put, List.setIfInBounds_toArray, List.set_cons_succ, List.set_cons_zero]
            refine wpIn_one 11 rfl (by kernel_rfl) (fun _ => hB4) (by rfl) ?_
            go_simp
            refine wpIn_done (by kernel_rfl) (by kernel_rfl) ?_ _
            simp only [Exit.then, Exit.inBlock]
            go_wp2_with fail
            go_ret
            exact ⟨_, _, rfl, (own_cap HO4.out).1, fun e => (by cases e), fun M' hM' => own_to_rowM HO4.out (fun k hk h => absurd (hM' k h).2 (by omega)) (by have := HL1.out; omega), .inl HO4.out, hB4⟩
          · go_simp
            refine wpIn_one 3 rfl (by kernel_rfl) (fun _ => (((Below.refl wr.heap.size wr).alloc (Nat.le_refl _) (.cells #[.int .i64 n] IntT)).drew)) (by rfl) ?_
            refine wp_append_own _ (.const (.slice none 0 0)) (.tmp 27) _ rfl wr.heap.size IntT i0 _ 1 8 Tryz.underlying32 hii0 hz0 hz1 hz2 rfl (by decide) (.slice none 0 0) 0 [] rfl (own_nil _ _ _ _) ⟨b, off, none⟩ k c ((l.take k).map iv) rfl HLa.out (cells_keep (w := wr) (((Below.refl wr.heap.size wr).alloc (Nat.le_refl _) (.cells #[.int .i64 n] IntT)).drew) hbw HCa.out) HOa.out (by simp only [maxLen]; omega) (by omega) (Below.size (((Below.refl wr.heap.size wr).alloc (Nat.le_refl _) (.cells #[.int .i64 n] IntT)).drew)) ?_
            intro v2 w2 hown2 hgr2 hnil2
            replace hown2 : w2.ownsRow wr.heap.size IntT 1 v2 k ((l.take k).map iv) := by simpa using hown2
            obtain ⟨B2, c2, rfl⟩ := own_form hown2
            have hb1 := grown_below hgr2
            have hB2 : Below wr.heap.size wr w2 := (((Below.refl wr.heap.size wr).alloc (Nat.le_refl _) (.cells #[.int .i64 n] IntT)).drew).trans (hb1.mono (Below.size (((Below.refl wr.heap.size wr).alloc (Nat.le_refl _) (.cells #[.int .i64 n] IntT)).drew)))
            have HO2 := Lib.hid hown2
            have hz2w := hB2.size
            clear hown2 hgr2 hnil2
            simp only [List.getElem_toArray, List.getElem_cons_zero, List.getElem_cons_succ, Act.put, List.setIfInBounds_toArray, List.set_cons_succ, List.set_cons_zero]
            refine wpIn_one 6 rfl (by kernel_rfl) (fun _ => hB2) (by rfl) ?_
            refine wp_append_own _ (.tmp 28) (.tmp 30) _ rfl wr.heap.size IntT i0 _ 1 8 Tryz.underlying32 hii0 hz0 hz1 hz2 rfl (by decide) (.slice B2 k c2) k ((l.take k).map iv) rfl HO2.out ⟨wr.heap.size, 0, none⟩ 1 1 [iv n] rfl rfl (cell_one_keepD hb1) HI1.out (by simp only [maxLen]; omega) (by omega) hz2w ?_
            intro v3 w3 hown3 hgr3 hnil3
            obtain ⟨g2, cap2, rfl, _, _⟩ := own_some hown3 (Nat.succ_pos _)
            have hB3 : Below wr.heap.size wr w3 := hB2.trans (grown_own HO2.out hz2w hgr3)
            have HO3 := Lib.hid hown3
            have hz3w := hB3.size
            clear hown3 hgr3 hnil3
            simp only [List.getElem_toArray, List.getElem_cons_zero, List.getElem_cons_succ, Act.put, List.setIfInBounds_toArray, List.set_cons_succ, List.set_cons_zero]
            refine wpIn_one 10 rfl (by kernel_rfl) (fun _ => hB3) (by rfl) ?_
            refine wp_append_own _ (.tmp 31) (.tmp 34) _ rfl wr.heap.size IntT i0 _ 1 8 Tryz.underlying32 hii0 hz0 hz1 hz2 rfl (by decide) (.slice (some ⟨g2, 0, none⟩) (k + 1) cap2) (k + 1) ((l.take k).map iv ++ [iv n]) rfl HO3.out ⟨b, off + k, none⟩ (l.length - k) (c - k) ((l.drop k).map iv) rfl HLc.out (cells_keep (w := wr) hB3 hbw HCc.out) HOc.out (by simp only [maxLen]; omega) (by omega) hz3w ?_
            intro v4 w4 hown4 hgr4 hnil4
            replace hown4 := HNL.out v4 w4 hown4
            obtain ⟨g4, cap4, rfl, _, _⟩ := own_some hown4 hnl
            have hB4 : Below wr.heap.size wr w4 := hB3.trans (grown_own HO3.out hz3w hgr4)
            have HO4 := Lib.hid hown4
            clear hown4 hgr4 hnil4
            simp only [List.getElem_toArray, List.getElem_cons_zero, List.getElem_cons_succ, Act.put, List.setIfInBounds_toArray, List.set_cons_succ, List.set_cons_zero]
            refine wpIn_one 11 rfl (by kernel_rfl) (fun _ => hB4) (by rfl) ?_
            go_simp
            refine wpIn_done (by kernel_rfl) (by kernel_rfl) ?_ _
            simp only [Exit.then, Exit.inBlock]
            go_wp2_with fail
            go_ret
            exact ⟨_, _, rfl, (own_cap HO4.out).1, fun e => (by cases e), fun M' hM' => own_to_rowM HO4.out (fun k hk h => absurd (hM' k h).2 (by omega)) (by have := HL1.out; omega), .inl HO4.out, hB4⟩
        · have HNO := Lib.hid (show ∀ j, j < k + 1 → l.getD j 0 < n from fun j hj => by
            rcases Nat.lt_succ_iff_lt_or_eq.1 hj with h | rfl
            · exact hno.out j h
            · omega)
          have HE := Lib.hid he
          clear he
          generalize l.getD k 0 = a at *
          go_wp2_with fail
          go_roundw
          case rel => exact ⟨k + 1, by omega, by go_num, trivial, HNO⟩
          case measure => simp [intOf]; omega
    · obtain rfl : k = l.length := by omega
      clear hlt
      have HW := Lib.hid (HL2.out.symm.trans (Sp.withI_end hno.out))
      have HOa := Lib.hid (show ∀ u ∈ l.map iv, u.oneCell' = true from fun u hu => by obtain ⟨s, _, rfl⟩ := List.mem_map.1 hu; rfl)
      have hnl : 0 < l2.length := by rw [HW.out]; simp
      have HNL := Lib.hid (show ∀ (v : Value) (W : World), W.ownsRow wr.heap.size IntT 1 v (l.length + 1) (l.map iv ++ [iv n]) → W.ownsRow wr.heap.size IntT 1 v l2.length (l2.map iv) from fun v W h => by
        rw [HW.out]
        have e1 : (l ++ [n]).length = l.length + 1 := by simp
        rw [e1]
        simpa only [List.map_append, List.map_cons, List.map_nil] using h)
      have hlc : (l.map iv).length = l.length * 1 := by simp
      rcases A with _ | ⟨b, off, pth⟩
      · have hl0 : l = [] := by
          rcases HL.out.2 with h | ⟨b, off, h, _⟩
          · simpa using h
          · cases h
        subst hl0
        obtain rfl := HA.out rfl
        go_wp2_with (first
          | (at_builtin; refine wpList_append_none rfl (.const (.slice none 0 0)) (.tmp 36) 32 rfl wr.heap.size IntT i0 1 Tryz.underlying32 hii0 (.slice none 0 0) 0 [] rfl (own_nil _ _ _ _) rfl ?_)
          | (at_builtin; refine wpList_append_own _ rfl (.tmp 37) (.tmp 39) 32 rfl wr.heap.size IntT i0 _ 1 8 Tryz.underlying32 hii0 hz0 hz1 hz2 rfl (by decide) (.slice none 0 0) 0 [] rfl (own_nil _ _ _ _) ⟨wr.heap.size, 0, none⟩ 1 1 [iv n] rfl rfl (cells_new wr IntT [iv n]) HI1.out (by simp only [maxLen]; omega) (by omega) (by simp) ?_; (intro v4 w4 hown4 hgr4 hnil4; replace hown4 := HNL.out v4 w4 hown4; obtain ⟨g4, cap4, rfl, _, _⟩ := own_some hown4 hnl; have hB4 : Below wr.heap.size wr w4 := ((Below.refl _ _).alloc (Nat.le_refl _) _).trans ((grown_below hgr4).mono (by simp)); have HO4 := Lib.hid hown4; clear hown4 hgr4 hnil4)))
        go_ret
        exact ⟨_, _, rfl, (own_cap HO4.out).1, fun e => (by cases e), fun M' hM' => own_to_rowM HO4.out (fun k hk h => absurd (hM' k h).2 (by omega)) (by have := HL1.out; omega), .inl HO4.out, hB4⟩
      · have HC := Lib.hid (show ∀ j u, (l.map iv)[j]? = some u → wr.cell? ((⟨b, off, pth⟩ : Addr).add j) = some u from fun j u hu => by
          rcases HL.out.2 with h | ⟨b', off', e, _, _, hc⟩
          · rw [h] at hu
            simp at hu
          · rw [Option.some.inj e, Go.WideShapes.add_plain]
            exact hc j u hu)
        go_wp2_with (first
          | (at_builtin; refine wpList_append_own _ rfl (.const (.slice none 0 0)) (.tmp 36) 32 rfl wr.heap.size IntT i0 _ 1 8 Tryz.underlying32 hii0 hz0 hz1 hz2 rfl (by decide) (.slice none 0 0) 0 [] rfl (own_nil _ _ _ _) ⟨b, off, pth⟩ l.length c (l.map iv) rfl hlc HC.out HOa.out (Nat.le_trans (show 0 + l.length ≤ 100000 by omega) (by decide)) (by omega) (Nat.le_refl _) ?_; (intro v2 w2 hown2 hgr2 hnil2; rw [Nat.zero_add, List.nil_append] at hown2; obtain ⟨B2, c2, rfl⟩ := own_form hown2; have hB2 := grown_below hgr2; have HO2 := Lib.hid hown2; have hz2w := hB2.size; clear hown2 hgr2 hnil2))
          | (at_builtin; refine wpList_append_own _ rfl (.tmp 37) (.tmp 39) 32 rfl wr.heap.size IntT i0 _ 1 8 Tryz.underlying32 hii0 hz0 hz1 hz2 rfl (by decide) (.slice B2 l.length c2) l.length (l.map iv) rfl (own_chg2 (S := NoM) HO2.out ((Chg.refl _ _).alloc _) (fun _ _ h => h)) ⟨w2.heap.size, 0, none⟩ 1 1 [iv n] rfl rfl (cells_new w2 IntT [iv n]) HI1.out (by simp only [maxLen]; omega) (by omega) (by rw [World.size_alloc]; omega) ?_; (intro v4 w4 hown4 hgr4 hnil4; replace hown4 := HNL.out v4 w4 hown4; obtain ⟨g4, cap4, rfl, _, _⟩ := own_some hown4 hnl; have hB4 : Below wr.heap.size wr w4 := (hB2.alloc hz2w _).trans (grown_own (own_chg2 (S := NoM) HO2.out ((Chg.refl _ _).alloc (.cells #[.int .i64 n] IntT)) (fun _ _ h => h)) (by rw [World.size_alloc]; omega) hgr4); have HO4 := Lib.hid hown4; clear hown4 hgr4 hnil4)))
        go_ret
        exact ⟨_, _, rfl, (own_cap HO4.out).1, fun e => (by cases e), fun M' hM' => own_to_rowM HO4.out (fun k hk h => absurd (hM' k h).2 (by omega)) (by have := HL1.out; omega), .inl HO4.out, hB4⟩
end Go.Proofs.YtlpmjeiogdlifaaGreat
namespace Go.Proofs.YtlpmjeiogdlifaaGreat
open Go.RowKit
attribute [local go_sem low] mk_extract
attribute [local go_sem] After.cell After.frozen mk_extract_end ByteArray.mk_append_mk
abbrev DFileT : TypeId := 34
structure DfB (w : World) (B f : Nat) (V : List Txt) : Prop where
  bf : ∃ v dA dn dc u, Blk w f DFileT #[v, .slice dA dn dc, u] ∧ w.ownsRow B StrT 1 v V.length (V.map tv) ∧ ∃ L : List Int, (L.Pairwise (· < ·) ∧ ∀ x ∈ L, 0 ≤ x ∧ x < 400) ∧ w.ownsRow 0 IntT 1 u L.length (L.map iv)
abbrev DfAt (w : World) (f : Nat) (V : List Txt) : Prop := DfB w 0 f V
theorem DfB.at_ {w : World} {B f : Nat} {V : List Txt} (h : DfB w B f V) : DfAt w f V := by
  obtain ⟨v, dA, dn, dc, u, h1, h2, h3⟩ := h.bf
  exact ⟨v, dA, dn, dc, u, h1, own_less h2 (Nat.zero_le _), h3⟩
set_option maxRecDepth 100000 in
set_option maxHeartbeats 1600000 in
theorem dNewFileB_any (l : List Txt) (b off c : Nat) {M : Nat → Prop} (w : World) (hl : Txts w M (some ⟨b, off, none⟩) l) (h0 : 0 < l.length) (hn : l.length ≤ 400) (hc : l.length ≤ c) :
    Calls Tryz.prog 40 #[.slice (some ⟨b, off, none⟩) l.length c] w fun e w' => ∃ f, e = .returned (.pointer (some ⟨f, 0, none⟩)) ∧ w.heap.size ≤ f ∧ DfB w' w.heap.size f l ∧ Below w.heap.size w w' := by
  obtain ⟨i0, hii0, hz0, hz1, hz2⟩ := info_parts info_str
  obtain ⟨b', off', e', hbw, _, hlc⟩ := Row.open_ (cs := l.map tv) hl (by rw [List.length_map]; exact h0)
  obtain ⟨rfl, rfl⟩ : b = b' ∧ off = off' := by simpa using e'
  have HLC := Lib.hid hlc
  have HL1 := Lib.hid (show (l.map tv).length = l.length * 1 by simp)
  have HLO := Lib.hid (show ∀ u ∈ l.map tv, u.oneCell' = true from fun u hu => by obtain ⟨s, _, rfl⟩ := List.mem_map.1 hu; rfl)
  have h400 : (l.length : Int) ≤ 400 := by omega
  have hcc : (l.length : Int) ≤ (c : Int) := by omega
  have hmin : min (l.length : Int) 400 = (l.length : Int) := by omega
  clear hl hlc e'
  go_enter Tryz.func40, Tryz.ntmps40
  go_upto_region 2 with fail
  refine wp_region_in 11 10 (fun W => Below w.heap.size w W) (by kernel_rfl) rfl ?_
  refine wpIn_take 0 (.slice (some ⟨b, off, none⟩) l.length c) rfl (by kernel_rfl) (by kernel_rfl) (by kernel_rfl) (by kernel_rfl) (by kernel_rfl) (by rfl) (fun _ _ _ h => h) ((Below.refl w.heap.size w).drew) (fun W hW => by go_simp; all_goals first | with_reducible rfl | rfl) ?_
  simp only [List.getElem_toArray, List.getElem_cons_zero, List.getElem_cons_succ, Act.put, List.setIfInBounds_toArray, List.set_cons_succ, List.set_cons_zero]
  refine wpIn_take 1 (.int .i64 (l.length : Int)) rfl (by kernel_rfl) (by kernel_rfl) (by kernel_rfl) (by kernel_rfl) (by kernel_rfl) (by rfl) (fun _ _ _ h => h) ((Below.refl w.heap.size w).drew) (fun W hW => by go_simp; all_goals first | with_reducible rfl | rfl) ?_
  simp only [List.getElem_toArray, List.getElem_cons_zero, List.getElem_cons_succ, Act.put, List.setIfInBounds_toArray, List.set_cons_succ, List.set_cons_zero]
  refine wpIn_take 2 (.slice (some ⟨b, off, none⟩) l.length c) rfl (by kernel_rfl) (by kernel_rfl) (by kernel_rfl) (by kernel_rfl) (by kernel_rfl) (by rfl) (fun _ _ _ h => h) ((Below.refl w.heap.size w).drew) (fun W hW => by go_simp; all_goals first | with_reducible rfl | rfl) ?_
  simp only [List.getElem_toArray, List.getElem_cons_zero, List.getElem_cons_succ, Act.put, List.setIfInBounds_toArray, List.set_cons_succ, List.set_cons_zero]
  refine wpIn_take 4 (.slice (some ⟨b, off, none⟩) l.length c) rfl (by kernel_rfl) (by kernel_rfl) (by kernel_rfl) (by kernel_rfl) (by kernel_rfl) (by rfl) (fun _ _ _ h => h) ((Below.refl w.heap.size w).drew) (fun W hW => by go_simp; all_goals first | with_reducible rfl | rfl) ?_
  simp only [List.getElem_toArray, List.getElem_cons_zero, List.getElem_cons_succ, Act.put, List.setIfInBounds_toArray, List.set_cons_succ, List.set_cons_zero]
  refine wpIn_take 5 (.int .i64 (l.length : Int)) rfl (by kernel_rfl) (by kernel_rfl) (by kernel_rfl) (by kernel_rfl) (by kernel_rfl) (by rfl) (fun _ _ _ h => h) ((Below.refl w.heap.size w).drew) (fun W hW => by go_simp; all_goals first | with_reducible rfl | rfl) ?_
  simp only [List.getElem_toArray, List.getElem_cons_zero, List.getElem_cons_succ, Act.put, List.setIfInBounds_toArray, List.set_cons_succ, List.set_cons_zero]
  refine wpIn_take 6 (.slice (some ⟨b, off, none⟩) l.length c) rfl (by kernel_rfl) (by kernel_rfl) (by kernel_rfl) (by kernel_rfl) (by kernel_rfl) (by rfl) (fun _ _ _ h => h) ((Below.refl w.heap.size w).drew) (fun W hW => by go_simp; all_goals first | with_reducible rfl | rfl) ?_
  simp only [List.getElem_toArray, List.getElem_cons_zero, List.getElem_cons_succ, Act.put, List.setIfInBounds_toArray, List.set_cons_succ, List.set_cons_zero]
  refine wpIn_one 3 rfl (by kernel_rfl) (fun _ => ((Below.refl w.heap.size w).drew)) (by rfl) ?_
  refine wp_append_own _ (.const (.slice none 0 0)) (.tmp 9) _ rfl w.heap.size StrT i0 _ 1 16 Tryz.underlying31 hii0 hz0 hz1 hz2 rfl (by decide) (.slice none 0 0) 0 [] rfl (own_nil _ _ _ _) ⟨b, off, none⟩ l.length c (l.map tv) rfl HL1.out (cells_keep (w := w) ((Below.refl w.heap.size w).drew) hbw HLC.out) HLO.out (by simp only [maxLen]; omega) (by omega) (Nat.le_refl _) ?_
  intro v2 w2 hown hgr hnil
  rw [Nat.zero_add, List.nil_append] at hown
  obtain ⟨X2, X2c, rfl⟩ := own_form hown
  have hbw2 := grown_below hgr
  have hBw2 : Below w.heap.size w w2 := ((Below.refl w.heap.size w).drew).trans (hbw2.mono (Nat.le_refl _))
  have HOw2 := Lib.hid hown
  have hzw2 := hBw2.size
  clear hown hgr hnil
  simp only [List.getElem_toArray, List.getElem_cons_zero, List.getElem_cons_succ, Act.put, List.setIfInBounds_toArray, List.set_cons_succ, List.set_cons_zero]
  refine wpIn_one 7 rfl (by kernel_rfl) (fun _ => hBw2) (by rfl) ?_
  refine wp_append_own _ (.const (.slice none 0 0)) (.tmp 13) _ rfl w.heap.size StrT i0 _ 1 16 Tryz.underlying31 hii0 hz0 hz1 hz2 rfl (by decide) (.slice none 0 0) 0 [] rfl (own_nil _ _ _ _) ⟨b, off, none⟩ l.length c (l.map tv) rfl HL1.out (cells_keep (w := w) hBw2 hbw HLC.out) HLO.out (by simp only [maxLen]; omega) (by omega) hzw2 ?_
  intro v3 w3 hown hgr hnil
  rw [Nat.zero_add, List.nil_append] at hown
  obtain ⟨X3, X3c, rfl⟩ := own_form hown
  have hbw3 := grown_below hgr
  have hBw3 : Below w.heap.size w w3 := hBw2.trans (hbw3.mono hzw2)
  have HOw3 := Lib.hid hown
  have hzw3 := hBw3.size
  clear hown hgr hnil
  simp only [List.getElem_toArray, List.getElem_cons_zero, List.getElem_cons_succ, Act.put, List.setIfInBounds_toArray, List.set_cons_succ, List.set_cons_zero]
  refine wpIn_take 8 (.agg #[.slice X2 l.length X2c, .slice X3 l.length X3c, .slice none 0 0]) rfl (by kernel_rfl) (by kernel_rfl) (by kernel_rfl) (by kernel_rfl) (by kernel_rfl) (by rfl) (fun _ _ _ h => h) hBw3 (fun W hW => by go_simp; all_goals first | with_reducible rfl | rfl) ?_
  simp only [List.getElem_toArray, List.getElem_cons_zero, List.getElem_cons_succ, Act.put, List.setIfInBounds_toArray, List.set_cons_succ, List.set_cons_zero]
  refine wpIn_one 9 rfl (by kernel_rfl) (fun _ => hBw3) (by rfl) ?_
  go_simp
  refine wpIn_one 10 rfl (by kernel_rfl) (fun _ => (hBw3.alloc hzw3 _)) (by rfl) ?_
  go_simp
  refine wpIn_done (by kernel_rfl) (by kernel_rfl) ?_ _
  simp only [Exit.then]
  go_wp2_with fail
  go_ret
  have hal : Below w3.heap.size w3 (w3.alloc (.cells #[.slice X2 l.length X2c, .slice X3 l.length X3c, .slice none 0 0] DFileT)) := (Below.refl _ _).alloc (Nat.le_refl _) _
  refine ⟨w3.heap.size, rfl, hzw3, ⟨_, _, _, _, .slice none 0 0, Blk.new w3 DFileT _, ?_, [], ⟨List.Pairwise.nil, fun x hx => by cases hx⟩, own_nil _ _ _ _⟩, hBw3.trans (hal.mono hzw3)⟩
  exact own_chg2 (S := NoM) (own_chg2 (S := NoM) HOw2.out (Chg.of_below hbw3) (fun _ _ h => h)) (Chg.of_below hal) (fun _ _ h => h)
theorem dNewFile_any (l : List Txt) (b off c : Nat) {M : Nat → Prop} (w : World) (hl : Txts w M (some ⟨b, off, none⟩) l) (h0 : 0 < l.length) (hn : l.length ≤ 400) (hc : l.length ≤ c) :
    Calls Tryz.prog 40 #[.slice (some ⟨b, off, none⟩) l.length c] w fun e w' => ∃ f, e = .returned (.pointer (some ⟨f, 0, none⟩)) ∧ w.heap.size ≤ f ∧ DfAt w' f l ∧ Below w.heap.size w w' :=
  (dNewFileB_any l b off c w hl h0 hn hc).mono fun _ _ ⟨f, h1, h2, h3, h4⟩ => ⟨f, h1, h2, h3.at_, h4⟩
end Go.Proofs.YtlpmjeiogdlifaaGreat
