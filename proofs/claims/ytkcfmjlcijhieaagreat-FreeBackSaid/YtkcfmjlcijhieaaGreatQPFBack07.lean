/- Free pages: the known lists of law 18. -/
import Derived.Test.YtkcfmjlcijhieaaGreatQB09
import Derived.Test.YtkcfmjlcijhieaaGreatQB16
import Derived.Test.YtkcfmjlcijhieaaGreatQB22
import Derived.Test.YtkcfmjlcijhieaaGreatQB25
import Derived.Test.YtkcfmjlcijhieaaGreatQPFBack05
import Derived.Test.YtkcfmjlcijhieaaGreatQPFBack06
set_option linter.unusedSimpArgs false
set_option linter.unusedVariables false
namespace Go.Proofs.YtkcfmjlcijhieaaGreat
open Go.RowKit
attribute [local go_sem low] mk_extract
attribute [local go_sem] After.cell After.frozen mk_extract_end ByteArray.mk_append_mk
namespace Sp
def kL : List Free := [⟨2, [5, 6]⟩, ⟨4, [7]⟩]
def kP1 : Page := ⟨5, [], [], [], [], [], [⟨2, [5, 6]⟩], 3, mt0⟩
def kP2 : Page := ⟨5, [], [], [], [], [], [⟨4, [7]⟩], 0, mt0⟩
def kF : List Txt := [[], [], bytes kP1, bytes kP2]
theorem kF_sz : ∀ s ∈ kF, s.length ≤ 4611686018427387904 := by decide +kernel
theorem k18_r1 : freesI kF 10 500 2 [] [] = ((kL, [2, 3]), none) := by kernel_rfl
theorem k18_r2 : freesI kF 10 500 9 [] [] = (([], []), some 12) := by kernel_rfl
theorem k18_r3 : freesI kF 10 500 10 [] [] = (([], []), some 14) := by kernel_rfl
theorem bothI_lt {a b : List Int} (h : (a ++ b).Pairwise (· < ·)) : bothI a b = a ++ b := by
  unfold bothI
  rw [List.mergeSort_of_pairwise (h.imp fun hab => decide_eq_true (Int.le_of_lt hab))]
  refine Lib.compact_all _ fun j hj => ?_
  rcases Nat.eq_zero_or_pos j with rfl | h0
  · exact Lib.keeps_lt_one _ 0 (by omega)
  · refine Lib.keeps_pos fun e => ?_
    have h1 := List.pairwise_iff_getElem.1 h (j - 1) j (by omega) hj (by omega)
    rw [getElem!_pos _ j (by simpa using hj), getElem!_pos _ (j - 1) (by simp at hj ⊢; omega)] at e
    simp at e
    omega
theorem fold_both : ∀ (l : List Free) (a : List Int), (a ++ l.flatMap (·.ids)).Pairwise (· < ·) → l.foldl (fun a f => bothI a f.ids) a = a ++ l.flatMap (·.ids)
  | [], a, _ => by simp
  | x :: l, a, h => by
    rw [List.flatMap_cons, ← List.append_assoc] at h ⊢
    rw [List.foldl_cons, bothI_lt (List.pairwise_append.1 h).1]
    exact fold_both l (a ++ x.ids) h
theorem usable_lt {l : List Free} {o : Int} (h : ((l.filter fun f => decide (f.txn < o)).flatMap (·.ids)).Pairwise (· < ·)) : usableI l o = (l.filter fun f => decide (f.txn < o)).flatMap (·.ids) := by
  unfold usableI
  rw [fold_both _ [] (by rw [List.nil_append]; exact h), List.nil_append]
theorem k18_u : usableI kL 4 = [5, 6] := by
  have e : (kL.filter fun f => decide (f.txn < 4)).flatMap (·.ids) = [5, 6] := by decide
  rw [usable_lt (by rw [e]; decide), e]
theorem k18_r : kL.filter (fun f => !decide (f.txn < 4)) = [⟨4, [7]⟩] := by decide
theorem k18_t : total kL = 3 := by decide
theorem k18_o0 : rowI ((onesOf kL).drop (20 * 0)) = kL := by kernel_rfl
theorem k18_o1 : rowI ((onesOf kL).drop (20 * 1)) = [] := by kernel_rfl
end Sp
/-- The pieces of a list of free pages. -/
theorem Frees.cut {w : World} {M : Nat → Prop} {b off : Nat} {l : List Sp.Free} (h : Frees w M (some ⟨b, off, none⟩) l) (k n : Nat) : Frees w M (some ⟨b, off + k * 2, none⟩) ((l.drop k).take n) := by
  refine ⟨Nat.le_trans (by rw [List.length_take, List.length_drop]; omega) h.1, ?_⟩
  rcases h.2 with rfl | ⟨b', off', e, hb, hm, hc⟩
  · exact .inl (by simp)
  · injection e with e
    injection e with e1 e2
    subst e1; subst e2
    refine .inr ⟨b, off + k * 2, rfl, hb, hm, fun j hj => ?_⟩
    rw [List.length_take, List.length_drop] at hj
    obtain ⟨V, c, hq⟩ := hc (k + j) (by omega)
    have e : ((l.drop k).take n).getD j Sp.free0 = l.getD (k + j) Sp.free0 := by
      rw [List.getD_eq_getElem?_getD, List.getElem?_take_of_lt (by omega), List.getElem?_drop, List.getD_eq_getElem?_getD]
    rw [e]
    refine ⟨V, c, ?_⟩
    rw [show off + (k + j) * 2 = off + k * 2 + j * 2 by omega] at hq
    exact hq
/-- A page of free numbers. -/
abbrev frPg (l : List Sp.Free) (nx : Int) : Sp.Page := ⟨5, [], [], [], [], [], l, nx, Sp.mt0⟩
abbrev frRef (A : Option Addr) (c : Nat) : Refs := ⟨none, none, none, none, A, 0, 0, 0, 0, c⟩
theorem frRd {w : World} {M : Nat → Prop} {A : Option Addr} {l : List Sp.Free} (c : Nat) (nx : Int) (h : Frees w M A l) : PageRd w M (frPg l nx) (frRef A c) :=
  ⟨Items.nil_, Row.nil_, Row.nil_, Row.nil_, h, by simp [frPg, Sp.mt0]⟩
/-- The list in memory. -/
theorem kL_at (w : World) : Frees (((w.alloc (.cells #[.int .i64 5, .int .i64 6] IntT)).alloc (.cells #[.int .i64 7] IntT)).alloc (.cells #[.int .u64 2, .slice (some ⟨w.heap.size, 0, none⟩) 2 2, .int .u64 4, .slice (some ⟨w.heap.size + 1, 0, none⟩) 1 1] FreeT)) NoM (some ⟨w.heap.size + 1 + 1, 0, none⟩) Sp.kL := by
  have b0 : Blk (((w.alloc (.cells #[.int .i64 5, .int .i64 6] IntT)).alloc (.cells #[.int .i64 7] IntT)).alloc (.cells #[.int .u64 2, .slice (some ⟨w.heap.size, 0, none⟩) 2 2, .int .u64 4, .slice (some ⟨w.heap.size + 1, 0, none⟩) 1 1] FreeT)) w.heap.size IntT #[.int .i64 5, .int .i64 6] := ((Blk.new w IntT _).alloc _).alloc _
  have b1 : Blk (((w.alloc (.cells #[.int .i64 5, .int .i64 6] IntT)).alloc (.cells #[.int .i64 7] IntT)).alloc (.cells #[.int .u64 2, .slice (some ⟨w.heap.size, 0, none⟩) 2 2, .int .u64 4, .slice (some ⟨w.heap.size + 1, 0, none⟩) 1 1] FreeT)) (w.heap.size + 1) IntT #[.int .i64 7] := by
    have := (Blk.new (w.alloc (.cells #[.int .i64 5, .int .i64 6] IntT)) IntT #[.int .i64 7]).alloc (.cells #[.int .u64 2, .slice (some ⟨w.heap.size, 0, none⟩) 2 2, .int .u64 4, .slice (some ⟨w.heap.size + 1, 0, none⟩) 1 1] FreeT)
    rwa [World.size_alloc] at this
  have b2 : Blk (((w.alloc (.cells #[.int .i64 5, .int .i64 6] IntT)).alloc (.cells #[.int .i64 7] IntT)).alloc (.cells #[.int .u64 2, .slice (some ⟨w.heap.size, 0, none⟩) 2 2, .int .u64 4, .slice (some ⟨w.heap.size + 1, 0, none⟩) 1 1] FreeT)) (w.heap.size + 1 + 1) FreeT #[.int .u64 2, .slice (some ⟨w.heap.size, 0, none⟩) 2 2, .int .u64 4, .slice (some ⟨w.heap.size + 1, 0, none⟩) 1 1] := by
    have := Blk.new ((w.alloc (.cells #[.int .i64 5, .int .i64 6] IntT)).alloc (.cells #[.int .i64 7] IntT)) FreeT #[.int .u64 2, .slice (some ⟨w.heap.size, 0, none⟩) 2 2, .int .u64 4, .slice (some ⟨w.heap.size + 1, 0, none⟩) 1 1]
    rwa [World.size_alloc, World.size_alloc] at this
  generalize ((w.alloc (.cells #[.int .i64 5, .int .i64 6] IntT)).alloc (.cells #[.int .i64 7] IntT)).alloc (.cells #[.int .u64 2, .slice (some ⟨w.heap.size, 0, none⟩) 2 2, .int .u64 4, .slice (some ⟨w.heap.size + 1, 0, none⟩) 1 1] FreeT) = W at *
  have i0 : Ints W NoM (some ⟨w.heap.size, 0, none⟩) [5, 6] := ⟨by simp, .inr ⟨_, 0, rfl, b0.lt, fun h => h, fun j v hv => by
    rw [Nat.zero_add]
    exact (b0.cell j).trans (by simpa [iv] using hv)⟩⟩
  have i1 : Ints W NoM (some ⟨w.heap.size + 1, 0, none⟩) [7] := ⟨by simp, .inr ⟨_, 0, rfl, b1.lt, fun h => h, fun j v hv => by
    rw [Nat.zero_add]
    exact (b1.cell j).trans (by simpa [iv] using hv)⟩⟩
  refine ⟨by decide, .inr ⟨_, 0, rfl, b2.lt, fun h => h, fun k hk => ?_⟩⟩
  have hk : k < 2 := hk
  match k, hk with
  | 0, _ => exact ⟨_, 2, ⟨b2.cell 0, b2.cell 1⟩, i0, by decide, by decide⟩
  | 1, _ => exact ⟨_, 1, ⟨b2.cell 2, b2.cell 3⟩, i1, by decide, by decide⟩
theorem kF_txts (W : World) : Txts (W.alloc (.cells #[.string ⟨#[]⟩, .string ⟨#[]⟩, .string ⟨(Sp.bytes Sp.kP1).toArray⟩, .string ⟨(Sp.bytes Sp.kP2).toArray⟩] StrT)) NoM (some ⟨W.heap.size, 0, none⟩) Sp.kF := by
  have hb := Blk.new W StrT #[.string ⟨#[]⟩, .string ⟨#[]⟩, .string ⟨(Sp.bytes Sp.kP1).toArray⟩, .string ⟨(Sp.bytes Sp.kP2).toArray⟩]
  refine ⟨by simp [Sp.kF], .inr ⟨W.heap.size, 0, rfl, hb.lt, fun h => h, fun j v hv => ?_⟩⟩
  rw [Nat.zero_add]
  refine (hb.cell j).trans ?_
  rcases j with _ | _ | _ | _ | j
  · exact hv
  · exact hv
  · exact hv
  · exact hv
  · simp [Sp.kF] at hv
theorem litI (l : List Int) (hl : l.length ≤ 1000) (W : World) : Ints (W.alloc (.cells (l.map iv).toArray IntT)) NoM (some ⟨W.heap.size, 0, none⟩) l := by
  have hb := Blk.new W IntT (l.map iv).toArray
  refine ⟨by rw [List.length_map]; omega, .inr ⟨W.heap.size, 0, rfl, hb.lt, fun h => h, fun j v hv => ?_⟩⟩
  rw [Nat.zero_add]
  exact (hb.cell j).trans (by simpa using hv)
set_option maxRecDepth 100000 in
set_option maxHeartbeats 1600000 in
theorem known18_any (w : World) : Calls Tryz.prog 15 #[] w fun e w' => e = .returned (.bool true) ∧ Below w.heap.size w w' := by
  have HKL := Lib.hid (kL_at w)
  have HB0 := Lib.hid ((((Below.refl w.heap.size w).alloc (Nat.le_refl _) (.cells #[.int .i64 5, .int .i64 6] IntT)).alloc (by rw [World.size_alloc]; omega) (.cells #[.int .i64 7] IntT)).alloc (by rw [World.size_alloc, World.size_alloc]; omega) (.cells #[.int .u64 2, .slice (some ⟨w.heap.size, 0, none⟩) 2 2, .int .u64 4, .slice (some ⟨w.heap.size + 1, 0, none⟩) 1 1] FreeT))
  go_enter Tryz.func15, Tryz.ntmps15
  go_upto_region 2 with fail
  refine wp_gen (fun W => Frees W NoM (some ⟨w.heap.size + 1 + 1, 0, none⟩) Sp.kL ∧ Below w.heap.size w W) ⟨HKL.out, HB0.out⟩ ?_
  clear HKL HB0
  generalize w.heap.size + 1 + 1 = b at *
  rintro w1 ⟨hkl, hb1⟩
  have KL := Lib.hid hkl
  have HB1 := Lib.hid hb1
  clear hkl hb1
  go_cut [2] (fun z W => ∃ f fv m, z = .pointer (some ⟨f, 0, none⟩) ∧ FileAt W f fv m Sp.kF ∧ Below w1.heap.size w1 W)
  case first =>
    refine wp_region_in 11 9 (fun W => Below w1.heap.size w1 W) (by kernel_rfl) rfl ?_
    refine wpIn_takeV 0 [1, 2, 3, 8, 9] (.slice (some ⟨b, 0, none⟩) 2 2) rfl (by kernel_rfl) (by kernel_rfl) (by kernel_rfl) (by kernel_rfl) (by kernel_rfl) (by kernel_rfl) (by kernel_rfl) (by rfl) (fun _ _ _ h => h) (Below.refl w1.heap.size w1).drew (fun W hW => by go_simp; all_goals first | with_reducible rfl | rfl | omega) ?_
    try simp only [List.getElem_toArray, List.getElem_cons_zero, List.getElem_cons_succ, Act.put, List.setIfInBounds_toArray, List.set_cons_succ, List.set_cons_zero]
    refine wpIn_takeV 1 [2, 3, 8, 9] (.slice (some ⟨b, 0, none⟩) 1 2) rfl (by kernel_rfl) (by kernel_rfl) (by kernel_rfl) (by kernel_rfl) (by kernel_rfl) (by kernel_rfl) (by kernel_rfl) (by rfl) (fun _ _ _ h => h) (Below.refl w1.heap.size w1).drew (fun W hW => by go_simp; all_goals first | with_reducible rfl | rfl | omega) ?_
    try simp only [List.getElem_toArray, List.getElem_cons_zero, List.getElem_cons_succ, Act.put, List.setIfInBounds_toArray, List.set_cons_succ, List.set_cons_zero]
    refine wpIn_takeV 2 [3, 8, 9] (.agg #[.int .i64 5, .slice none 0 0, .slice none 0 0, .slice none 0 0, .string ⟨#[]⟩, .slice none 0 0, .slice (some ⟨b, 0, none⟩) 1 2, .int .i64 3, .int .u64 0, .int .i64 0, .int .i64 0, .int .i64 0, .int .i64 0, .int .i64 0]) rfl (by kernel_rfl) (by kernel_rfl) (by kernel_rfl) (by kernel_rfl) (by kernel_rfl) (by kernel_rfl) (by kernel_rfl) (by rfl) (fun _ _ _ h => h) (Below.refl w1.heap.size w1).drew (fun W hW => by go_simp; all_goals first | with_reducible rfl | rfl | omega) ?_
    try simp only [List.getElem_toArray, List.getElem_cons_zero, List.getElem_cons_succ, Act.put, List.setIfInBounds_toArray, List.set_cons_succ, List.set_cons_zero]
    refine wpIn_takeV 4 [5, 6, 7, 8, 9] (.slice (some ⟨b, 0, none⟩) 2 2) rfl (by kernel_rfl) (by kernel_rfl) (by kernel_rfl) (by kernel_rfl) (by kernel_rfl) (by kernel_rfl) (by kernel_rfl) (by rfl) (fun _ _ _ h => h) (Below.refl w1.heap.size w1).drew (fun W hW => by go_simp; all_goals first | with_reducible rfl | rfl | omega) ?_
    try simp only [List.getElem_toArray, List.getElem_cons_zero, List.getElem_cons_succ, Act.put, List.setIfInBounds_toArray, List.set_cons_succ, List.set_cons_zero]
    refine wpIn_takeV 5 [6, 7, 8, 9] (.slice (some ⟨b, 2, none⟩) 1 1) rfl (by kernel_rfl) (by kernel_rfl) (by kernel_rfl) (by kernel_rfl) (by kernel_rfl) (by kernel_rfl) (by kernel_rfl) (by rfl) (fun _ _ _ h => h) (Below.refl w1.heap.size w1).drew (fun W hW => by go_simp; all_goals first | with_reducible rfl | rfl | omega) ?_
    try simp only [List.getElem_toArray, List.getElem_cons_zero, List.getElem_cons_succ, Act.put, List.setIfInBounds_toArray, List.set_cons_succ, List.set_cons_zero]
    refine wpIn_takeV 6 [7, 8, 9] (.agg #[.int .i64 5, .slice none 0 0, .slice none 0 0, .slice none 0 0, .string ⟨#[]⟩, .slice none 0 0, .slice (some ⟨b, 2, none⟩) 1 1, .int .i64 0, .int .u64 0, .int .i64 0, .int .i64 0, .int .i64 0, .int .i64 0, .int .i64 0]) rfl (by kernel_rfl) (by kernel_rfl) (by kernel_rfl) (by kernel_rfl) (by kernel_rfl) (by kernel_rfl) (by kernel_rfl) (by rfl) (fun _ _ _ h => h) (Below.refl w1.heap.size w1).drew (fun W hW => by go_simp; all_goals first | with_reducible rfl | rfl | omega) ?_
    try simp only [List.getElem_toArray, List.getElem_cons_zero, List.getElem_cons_succ, Act.put, List.setIfInBounds_toArray, List.set_cons_succ, List.set_cons_zero]
    refine wpIn_one 3 rfl (by kernel_rfl) (fun _ => (Below.refl w1.heap.size w1).drew) (by rfl) ?_
    go_simp
    have hdr : Below w1.heap.size w1 w1.drew := (Below.refl w1.heap.size w1).drew
    refine (dBytes_any Sp.kP1 (frRef (some ⟨b, 0, none⟩) 2) w1.drew (frRd 2 3 ((KL.out.go hdr).cut 0 1))).mono ?_
    rintro e w2 ⟨rfl, hb2⟩
    have hB2 := hdr.trans hb2
    try simp only [List.getElem_toArray, List.getElem_cons_zero, List.getElem_cons_succ, Act.put, List.setIfInBounds_toArray, List.set_cons_succ, List.set_cons_zero]
    refine wpIn_one 7 rfl (by kernel_rfl) (fun _ => hB2) (by rfl) ?_
    go_simp
    refine (dBytes_any Sp.kP2 (frRef (some ⟨b, 2, none⟩) 1) w2 (frRd 1 0 ((KL.out.go hB2).cut 1 1))).mono ?_
    rintro e w3 ⟨rfl, hb3⟩
    have hB3 := hB2.trans (hb3.mono hB2.size)
    try simp only [List.getElem_toArray, List.getElem_cons_zero, List.getElem_cons_succ, Act.put, List.setIfInBounds_toArray, List.set_cons_succ, List.set_cons_zero]
    refine wpIn_one 8 rfl (by kernel_rfl) (fun _ => hB3) (by rfl) ?_
    go_simp
    try simp only [List.getElem_toArray, List.getElem_cons_zero, List.getElem_cons_succ, Act.put, List.setIfInBounds_toArray, List.set_cons_succ, List.set_cons_zero]
    have hal := (Below.refl w3.heap.size w3).alloc (Nat.le_refl _) (.cells #[.string ⟨#[]⟩, .string ⟨#[]⟩, .string ⟨(Sp.bytes Sp.kP1).toArray⟩, .string ⟨(Sp.bytes Sp.kP2).toArray⟩] StrT)
    have hB4 := hB3.trans (hal.mono hB3.size)
    refine wpIn_one 9 rfl (by kernel_rfl) (fun _ => hB4) (by rfl) ?_
    go_simp
    refine (fileNew_any Sp.kF w3.heap.size 0 4 _ (kF_txts w3) (by decide) (by decide) Sp.kF_sz).mono ?_
    rintro e w5 ⟨f, fv, m, rfl, hf, _, _, _, hb5⟩
    have HF := Lib.hid hf
    have HB5 := Lib.hid (hB4.trans (hb5.mono hB4.size))
    clear hf hb5 hal hB2 hB3 hB4 hb2 hb3 hdr
    try simp only [List.getElem_toArray, List.getElem_cons_zero, List.getElem_cons_succ, Act.put, List.setIfInBounds_toArray, List.set_cons_succ, List.set_cons_zero]
    refine wpIn_one 10 rfl (by kernel_rfl) (fun h => Bool.noConfusion (show true = false from h)) (by rfl) ?_
    go_simp
    try simp only [List.getElem_toArray, List.getElem_cons_zero, List.getElem_cons_succ, Act.put, List.setIfInBounds_toArray, List.set_cons_succ, List.set_cons_zero]
    refine wpIn_done (by kernel_rfl) (by kernel_rfl) ?_ _
    refine ‹∀ (a' : Act) (w' : World), Met _ a' w' → _› _ _ ?_
    go_meet
    case rel => exact ⟨f, fv, m, rfl, HF.out, HB5.out⟩
  case rest =>
    obtain ⟨f, fv, m, rfl, hf, hb2⟩ := hcut
    obtain ⟨w2, rfl⟩ : ∃ W, W = wc := ⟨_, rfl⟩
    have HF := Lib.hid hf
    have HB2 := Lib.hid hb2
    clear hf hb2
    go_upto_region 4 with (go_at_call 19; refine (fread_any f m fv Sp.kF 2 10 _ HF.out (by decide)).mono ?_; rintro e w3 ⟨ua, va, rfl, hu3, _, hv3, _, hb3⟩; rw [Sp.k18_r1] at hu3 hv3; rw [Sp.k18_r1]; have HU3 := Lib.hid hu3; have HV3 := Lib.hid hv3; have HB3 := Lib.hid hb3; clear hu3 hv3 hb3; simp only [erO])
    obtain ⟨Aa, ca, hua⟩ := HU3.out.form
    subst hua
    obtain ⟨Av, cv, hva⟩ := own_slice HV3.out
    subst hva
    have hlA : Sp.kL.length = 2 := rfl
    have hlV : ([2, 3] : List Int).length = 2 := rfl
    rw [hlA, hlV]
    have HI3 := Lib.hid (own_intsB (M := NoM) HV3.out rfl (by decide) (fun _ _ h => h))
    have HC3 := Lib.hid (HB2.out.trans (HB3.out.mono HB2.out.size))
    have HF3 := Lib.hid (HF.out.chg (S := NoM) (Chg.of_below HB3.out) (fun h => h) (fun h => h) (fun _ _ h => h))
    clear HU3 HV3 hlA hlV HF HB2 HB3
    go_upto_region 5 with (go_at_call 19; refine (fread_any f m fv Sp.kF 9 10 _ HF3.out (by decide)).mono ?_; rintro e w4 ⟨ub, vb, rfl, hu4, _, hv4, _, hb4⟩; rw [Sp.k18_r2]; have HB4 := Lib.hid hb4; clear hu4 hv4 hb4; simp only [erO])
    have HI4 := Lib.hid (HI3.out.go HB4.out)
    have HC4 := Lib.hid (HC3.out.trans (HB4.out.mono HC3.out.size))
    have HF4 := Lib.hid (HF3.out.chg (S := NoM) (Chg.of_below HB4.out) (fun h => h) (fun h => h) (fun _ _ h => h))
    clear HI3 HC3 HF3 HB4
    go_upto_region 6 with (go_at_call 19; refine (fread_any f m fv Sp.kF 10 10 _ HF4.out (by decide)).mono ?_; rintro e w5 ⟨uc, vc, rfl, hu5, _, hv5, _, hb5⟩; rw [Sp.k18_r3]; have HB5 := Lib.hid hb5; clear hu5 hv5 hb5; simp only [erO])
    have HI5 := Lib.hid (HI4.out.go HB5.out)
    have HC5 := Lib.hid (HC4.out.trans (HB5.out.mono HC4.out.size))
    have KL5 := Lib.hid (KL.out.go HC5.out)
    clear HI4 HC4 HF4 HB5
    have hkb : ∀ x ∈ Sp.kL, 1 ≤ x.ids.length ∧ x.ids.length ≤ 1000 := by decide
    have HPK := Lib.hid (fpack_any Sp.kL (some ⟨b, 0, none⟩) 2 2 w5 KL5.out (by decide) (fun x hx => (hkb x hx).2) (by decide) (by decide))
    have HKB := Lib.hid hkb
    clear hkb
    go_upto_region 7 with (go_at_call 17; refine HPK.out.mono ?_; rintro e w6 ⟨br, rfl, hp6, hb6⟩; have HP6 := Lib.hid hp6; have HB6 := Lib.hid hb6; clear hp6 hb6)
    have HI6 := Lib.hid (HI5.out.go HB6.out)
    have HC6 := Lib.hid (HC5.out.trans (HB6.out.mono HC5.out.size))
    have KL6 := Lib.hid (KL.out.go HC6.out)
    obtain ⟨cs, hcs, _, hrr⟩ := HP6.out.bk
    obtain ⟨A0, c0, hq0, _⟩ := hrr 0 (by decide)
    obtain ⟨A1, c1, hq1, _⟩ := hrr 1 (by decide)
    have r0 : w6.cell? ⟨br, 0, none⟩ = some (.slice A0 2 c0) := (hcs.cell 0).trans (by rw [hq0]; rfl)
    have r1 : w6.cell? ⟨br, 1, none⟩ = some (.slice A1 0 c1) := (hcs.cell 1).trans (by rw [hq1]; rfl)
    have HR0 := Lib.hid r0
    have HR1 := Lib.hid r1
    have HRB := Lib.hid hcs.lt
    clear hcs hrr hq0 hq1 r0 r1 HP6 HPK HC5 HI5 KL5 HB6
    go_wp2_with (first
      | (go_at_call_of 21 (Value.slice Av 2 cv); refine (dSameInts [2, 3] [2, 3] Av (some ⟨w6.heap.size, 0, none⟩) cv 2 _ (HI6.out.go ((Below.refl _ _).alloc (Nat.le_refl _) _)) (litI [2, 3] (by decide) w6)).mono ?_; rintro e w7 ⟨rfl, hb7⟩; have HC7 := Lib.hid ((((Below.refl w6.heap.size w6).alloc (Nat.le_refl _) (.cells (([2, 3] : List Int).map iv).toArray IntT))).trans (hb7.mono (by rw [World.size_alloc]; omega))); clear hb7)
      | (go_at_call_of 26 (Value.iface 55 (Value.int IntKind.i64 12)); refine (errIs_same 12 _).mono ?_; rintro e wg ⟨rfl, rfl⟩)
      | (go_at_call_of 26 (Value.iface 55 (Value.int IntKind.i64 14)); refine (errIs_same 14 _).mono ?_; rintro e wg ⟨rfl, rfl⟩)
      | (go_at_call 23; refine (usable_any Sp.kL (some ⟨b, 0, none⟩) 2 4 _ (KL6.out.go HC7.out) (by decide) HKB.out (by decide) (by decide)).mono ?_; rintro e w8 ⟨r8, rfl, ho8, hb8⟩; rw [Sp.k18_u] at ho8; obtain ⟨A8, c8, rfl⟩ := own_slice ho8; have HI8 := Lib.hid (own_intsB (M := NoM) ho8 rfl (by decide) (fun _ _ h => h)); have HC8 := Lib.hid (HC7.out.trans (hb8.mono HC7.out.size)); clear ho8 hb8)
      | (go_at_call_of 21 (Value.slice A8 2 c8); refine (dSameInts [5, 6] [5, 6] A8 (some ⟨w8.heap.size, 0, none⟩) c8 2 _ (HI8.out.go ((Below.refl _ _).alloc (Nat.le_refl _) _)) (litI [5, 6] (by decide) w8)).mono ?_; rintro e w9 ⟨rfl, hb9⟩; have HC9 := Lib.hid (HC8.out.trans (((Below.refl w8.heap.size w8).alloc (Nat.le_refl _) (.cells (([5, 6] : List Int).map iv).toArray IntT)).trans (hb9.mono (by rw [World.size_alloc]; omega)) |>.mono HC8.out.size)); clear hb9)
      | (go_at_call 24; refine (frest_any Sp.kL (some ⟨b, 0, none⟩) 2 4 _ (KL6.out.go HC9.out) (by decide) HKB.out (by decide)).mono ?_; rintro e wa ⟨ra, rfl, hfa, hba⟩; rw [Sp.k18_r] at hfa; obtain ⟨Ar, cr, rfl⟩ := hfa.form; have HCa := Lib.hid (HC9.out.trans (hba.mono HC9.out.size)); clear hfa hba)
      | (go_at_call 16; refine (fcount_any Sp.kL (some ⟨b, 0, none⟩) 2 _ (KL6.out.go HCa.out) (by decide) (fun x hx => (HKB.out x hx).2)).mono ?_; rintro e wb ⟨rfl, hbb⟩; rw [Sp.k18_t]; have HCb := Lib.hid (HCa.out.trans (hbb.mono HCa.out.size)); have r0 := (HCb.out.cell (p := ⟨br, 0, none⟩) HRB.out).trans HR0.out; have r1 := (HCb.out.cell (p := ⟨br, 1, none⟩) HRB.out).trans HR1.out; have hbrb := Nat.lt_of_lt_of_le HRB.out HCb.out.size; clear hbb))
    go_ret
    exact ⟨by simp, HB1.out.trans ((HC6.out.trans (HCb.out.mono HC6.out.size)).mono HB1.out.size)⟩
end Go.Proofs.YtkcfmjlcijhieaaGreat
