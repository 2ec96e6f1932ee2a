/- Free pages: the known lists of law 18. A list of free pages that comes back, or goes where none is. -/
import Derived.Test.YtkcfmjlcijhieaaGreatQB09
import Derived.Test.YtkcfmjlcijhieaaGreatQB16
import Derived.Test.YtkcfmjlcijhieaaGreatQB22
import Derived.Test.YtkcfmjlcijhieaaGreatQB25
import Derived.Test.YtkcfmjlcijhieaaGreatQPKeeps08
import Derived.Test.YtkcfmjlcijhieaaGreatQPKeeps09
set_option linter.unusedSimpArgs false
set_option linter.unusedVariables false
namespace Go.Proofs.YtkcfmjlcijhieaaGreat
open Go.RowKit
attribute [local go_sem low] mk_extract
attribute [local go_sem] After.cell After.frozen mk_extract_end ByteArray.mk_append_mk
namespace Sp
def kL : List Free := [⟨2, [5, 6]⟩, ⟨4, [7]⟩]
def kP1 : Page := ⟨5, [], [], [], [], [], [⟨2, [5, 6]⟩], 3, mt0⟩
def kP2 : Page := ⟨5, [], [], [], [], [], [⟨4, [7]⟩], 0, mt0⟩
def kF : List Txt := [[], [], bytes kP1, bytes kP2]
theorem kF_sz : ∀ s ∈ kF, s.length ≤ 4611686018427387904 := by decide +kernel
theorem k18_r1 : freesI kF 10 500 2 [] [] = ((kL, [2, 3]), none) := by kernel_rfl
theorem k18_r2 : freesI kF 10 500 9 [] [] = (([], []), some 12) := by kernel_rfl
theorem k18_r3 : freesI kF 10 500 10 [] [] = (([], []), some 14) := by kernel_rfl
theorem bothI_lt {a b : List Int} (h : (a ++ b).Pairwise (· < ·)) : bothI a b = a ++ b := by
  unfold bothI
  rw [List.mergeSort_of_pairwise (h.imp fun hab => decide_eq_true (Int.le_of_lt hab))]
  refine Lib.compact_all _ fun j hj => ?_
  rcases Nat.eq_zero_or_pos j with rfl | h0
  · exact Lib.keeps_lt_one _ 0 (by omega)
  · refine Lib.keeps_pos fun e => ?_
    have h1 := List.pairwise_iff_getElem.1 h (j - 1) j (by omega) hj (by omega)
    rw [getElem!_pos _ j (by simpa using hj), getElem!_pos _ (j - 1) (by simp at hj ⊢; omega)] at e
    simp at e
    omega
theorem fold_both : ∀ (l : List Free) (a : List Int), (a ++ l.flatMap (·.ids)).Pairwise (· < ·) → l.foldl (fun a f => bothI a f.ids) a = a ++ l.flatMap (·.ids)
  | [], a, _ => by simp
  | x :: l, a, h => by
    rw [List.flatMap_cons, ← List.append_assoc] at h ⊢
    rw [List.foldl_cons, bothI_lt (List.pairwise_append.1 h).1]
    exact fold_both l (a ++ x.ids) h
theorem usable_lt {l : List Free} {o : Int} (h : ((l.filter fun f => decide (f.txn < o)).flatMap (·.ids)).Pairwise (· < ·)) : usableI l o = (l.filter fun f => decide (f.txn < o)).flatMap (·.ids) := by
  unfold usableI
  rw [fold_both _ [] (by rw [List.nil_append]; exact h), List.nil_append]
theorem k18_u : usableI kL 4 = [5, 6] := by
  have e : (kL.filter fun f => decide (f.txn < 4)).flatMap (·.ids) = [5, 6] := by decide
  rw [usable_lt (by rw [e]; decide), e]
theorem k18_r : kL.filter (fun f => !decide (f.txn < 4)) = [⟨4, [7]⟩] := by decide
theorem k18_t : total kL = 3 := by decide
theorem k18_o0 : rowI ((onesOf kL).drop (20 * 0)) = kL := by kernel_rfl
theorem k18_o1 : rowI ((onesOf kL).drop (20 * 1)) = [] := by kernel_rfl
end Sp
/-- The pieces of a list of free pages. -/
theorem Frees.cut {w : World} {M : Nat → Prop} {b off : Nat} {l : List Sp.Free} (h : Frees w M (some ⟨b, off, none⟩) l) (k n : Nat) : Frees w M (some ⟨b, off + k * 2, none⟩) ((l.drop k).take n) := by
  refine ⟨Nat.le_trans (by rw [List.length_take, List.length_drop]; omega) h.1, ?_⟩
  rcases h.2 with rfl | ⟨b', off', e, hb, hm, hc⟩
  · exact .inl (by simp)
  · injection e with e
    injection e with e1 e2
    subst e1; subst e2
    refine .inr ⟨b, off + k * 2, rfl, hb, hm, fun j hj => ?_⟩
    rw [List.length_take, List.length_drop] at hj
    obtain ⟨V, c, hq⟩ := hc (k + j) (by omega)
    have e : ((l.drop k).take n).getD j Sp.free0 = l.getD (k + j) Sp.free0 := by
      rw [List.getD_eq_getElem?_getD, List.getElem?_take_of_lt (by omega), List.getElem?_drop, List.getD_eq_getElem?_getD]
    rw [e]
    refine ⟨V, c, ?_⟩
    rw [show off + (k + j) * 2 = off + k * 2 + j * 2 by omega] at hq
    exact hq
/-- A page of free numbers. -/
abbrev frPg (l : List Sp.Free) (nx : Int) : Sp.Page := ⟨5, [], [], [], [], [], l, nx, Sp.mt0⟩
abbrev frRef (A : Option Addr) (c : Nat) : Refs := ⟨none, none, none, none, A, 0, 0, 0, 0, c⟩
theorem frRd {w : World} {M : Nat → Prop} {A : Option Addr} {l : List Sp.Free} (c : Nat) (nx : Int) (h : Frees w M A l) : PageRd w M (frPg l nx) (frRef A c) :=
  ⟨Items.nil_, Row.nil_, Row.nil_, Row.nil_, h, by simp [frPg, Sp.mt0]⟩
/-- The list in memory. -/
theorem kL_at (w : World) : Frees (((w.alloc (.cells #[.int .i64 5, .int .i64 6] IntT)).alloc (.cells #[.int .i64 7] IntT)).alloc (.cells #[.int .u64 2, .slice (some ⟨w.heap.size, 0, none⟩) 2 2, .int .u64 4, .slice (some ⟨w.heap.size + 1, 0, none⟩) 1 1] FreeT)) NoM (some ⟨w.heap.size + 1 + 1, 0, none⟩) Sp.kL := by
  have b0 : Blk (((w.alloc (.cells #[.int .i64 5, .int .i64 6] IntT)).alloc (.cells #[.int .i64 7] IntT)).alloc (.cells #[.int .u64 2, .slice (some ⟨w.heap.size, 0, none⟩) 2 2, .int .u64 4, .slice (some ⟨w.heap.size + 1, 0, none⟩) 1 1] FreeT)) w.heap.size IntT #[.int .i64 5, .int .i64 6] := ((Blk.new w IntT _).alloc _).alloc _
  have b1 : Blk (((w.alloc (.cells #[.int .i64 5, .int .i64 6] IntT)).alloc (.cells #[.int .i64 7] IntT)).alloc (.cells #[.int .u64 2, .slice (some ⟨w.heap.size, 0, none⟩) 2 2, .int .u64 4, .slice (some ⟨w.heap.size + 1, 0, none⟩) 1 1] FreeT)) (w.heap.size + 1) IntT #[.int .i64 7] := by
    have := (Blk.new (w.alloc (.cells #[.int .i64 5, .int .i64 6] IntT)) IntT #[.int .i64 7]).alloc (.cells #[.int .u64 2, .slice (some ⟨w.heap.size, 0, none⟩) 2 2, .int .u64 4, .slice (some ⟨w.heap.size + 1, 0, none⟩) 1 1] FreeT)
    rwa [World.size_alloc] at this
  have b2 : Blk (((w.alloc (.cells #[.int .i64 5, .int .i64 6] IntT)).alloc (.cells #[.int .i64 7] IntT)).alloc (.cells #[.int .u64 2, .slice (some ⟨w.heap.size, 0, none⟩) 2 2, .int .u64 4, .slice (some ⟨w.heap.size + 1, 0, none⟩) 1 1] FreeT)) (w.heap.size + 1 + 1) FreeT #[.int .u64 2, .slice (some ⟨w.heap.size, 0, none⟩) 2 2, .int .u64 4, .slice (some ⟨w.heap.size + 1, 0, none⟩) 1 1] := by
    have := Blk.new ((w.alloc (.cells #[.int .i64 5, .int .i64 6] IntT)).alloc (.cells #[.int .i64 7] IntT)) FreeT #[.int .u64 2, .slice (some ⟨w.heap.size, 0, none⟩) 2 2, .int .u64 4, .slice (some ⟨w.heap.size + 1, 0, none⟩) 1 1]
    rwa [World.size_alloc, World.size_alloc] at this
  generalize ((w.alloc (.cells #[.int .i64 5, .int .i64 6] IntT)).alloc (.cells #[.int .i64 7] IntT)).alloc (.cells #[.int .u64 2, .slice (some ⟨w.heap.size, 0, none⟩) 2 2, .int .u64 4, .slice (some ⟨w.heap.size + 1, 0, none⟩) 1 1] FreeT) = W at *
  have i0 : Ints W NoM (some ⟨w.heap.size, 0, none⟩) [5, 6] := ⟨by simp, .inr ⟨_, 0, rfl, b0.lt, fun h => h, fun j v hv => by
    rw [Nat.zero_add]
    exact (b0.cell j).trans (by simpa [iv] using hv)⟩⟩
  have i1 : Ints W NoM (some ⟨w.heap.size + 1, 0, none⟩) [7] := ⟨by simp, .inr ⟨_, 0, rfl, b1.lt, fun h => h, fun j v hv => by
    rw [Nat.zero_add]
    exact (b1.cell j).trans (by simpa [iv] using hv)⟩⟩
  refine ⟨by decide, .inr ⟨_, 0, rfl, b2.lt, fun h => h, fun k hk => ?_⟩⟩
  have hk : k < 2 := hk
  match k, hk with
  | 0, _ => exact ⟨_, 2, ⟨b2.cell 0, b2.cell 1⟩, i0, by decide, by decide⟩
  | 1, _ => exact ⟨_, 1, ⟨b2.cell 2, b2.cell 3⟩, i1, by decide, by decide⟩
theorem kF_txts (W : World) : Txts (W.alloc (.cells #[.string ⟨#[]⟩, .string ⟨#[]⟩, .string ⟨(Sp.bytes Sp.kP1).toArray⟩, .string ⟨(Sp.bytes Sp.kP2).toArray⟩] StrT)) NoM (some ⟨W.heap.size, 0, none⟩) Sp.kF := by
  have hb := Blk.new W StrT #[.string ⟨#[]⟩, .string ⟨#[]⟩, .string ⟨(Sp.bytes Sp.kP1).toArray⟩, .string ⟨(Sp.bytes Sp.kP2).toArray⟩]
  refine ⟨by simp [Sp.kF], .inr ⟨W.heap.size, 0, rfl, hb.lt, fun h => h, fun j v hv => ?_⟩⟩
  rw [Nat.zero_add]
  refine (hb.cell j).trans ?_
  rcases j with _ | _ | _ | _ | j
  · exact hv
  · exact hv
  · exact hv
  · exact hv
  · simp [Sp.kF] at hv
theorem litI (l : List Int) (hl : l.length ≤ 1000) (W : World) : Ints (W.alloc (.cells (l.map iv).toArray IntT)) NoM (some ⟨W.heap.size, 0, none⟩) l := by
  have hb := Blk.new W IntT (l.map iv).toArray
  refine ⟨by rw [List.length_map]; omega, .inr ⟨W.heap.size, 0, rfl, hb.lt, fun h => h, fun j v hv => ?_⟩⟩
  rw [Nat.zero_add]
  exact (hb.cell j).trans (by simpa using hv)
set_option maxRecDepth 100000 in
set_option maxHeartbeats 1600000 in
theorem known18_any (w : World) : Calls Tryz.prog 15 #[] w fun e w' => e = .returned (.bool true) ∧ Below w.heap.size w w' := by
  have HKL := Lib.hid (kL_at w)
  have HB0 := Lib.hid ((((Below.refl w.heap.size w).alloc (Nat.le_refl _) (.cells #[.int .i64 5, .int .i64 6] IntT)).alloc (by rw [World.size_alloc]; omega) (.cells #[.int .i64 7] IntT)).alloc (by rw [World.size_alloc, World.size_alloc]; omega) (.cells #[.int .u64 2, .slice (some ⟨w.heap.size, 0, none⟩) 2 2, .int .u64 4, .slice (some ⟨w.heap.size + 1, 0, none⟩) 1 1] FreeT))
  go_enter Tryz.func15, Tryz.ntmps15
  go_upto_region 2 with fail
  refine wp_gen (fun W => Frees W NoM (some ⟨w.heap.size + 1 + 1, 0, none⟩) Sp.kL ∧ Below w.heap.size w W) ⟨HKL.out, HB0.out⟩ ?_
  clear HKL HB0
  generalize w.heap.size + 1 + 1 = b at *
  rintro w1 ⟨hkl, hb1⟩
  have KL := Lib.hid hkl
  have HB1 := Lib.hid hb1
  clear hkl hb1
  go_cut [2] (fun z W => ∃ f fv m, z = .pointer (some ⟨f, 0, none⟩) ∧ FileAt W f fv m Sp.kF ∧ Below w1.heap.size w1 W)
  case first =>
    refine wp_region_in 11 9 (fun W => Below w1.heap.size w1 W) (by kernel_rfl) rfl ?_
    refine wpIn_takeV 0 [1, 2, 3, 8, 9] (.slice (some ⟨b, 0, none⟩) 2 2) rfl (by kernel_rfl) (by kernel_rfl) (by kernel_rfl) (by kernel_rfl) (by kernel_rfl) (by kernel_rfl) (by kernel_rfl) (by rfl) (fun _ _ _ h => h) (Below.refl w1.heap.size w1).drew (fun W hW => by go_simp; all_goals first | with_reducible rfl | rfl | omega) ?_
    try simp only [List.getElem_toArray, List.getElem_cons_zero, List.getElem_cons_succ, Act.put, List.setIfInBounds_toArray, List.set_cons_succ, List.set_cons_zero]
    refine wpIn_takeV 1 [2, 3, 8, 9] (.slice (some ⟨b, 0, none⟩) 1 2) rfl (by kernel_rfl) (by kernel_rfl) (by kernel_rfl) (by kernel_rfl) (by kernel_rfl) (by kernel_rfl) (by kernel_rfl) (by rfl) (fun _ _ _ h => h) (Below.refl w1.heap.size w1).drew (fun W hW => by go_simp; all_goals first | with_reducible rfl | rfl | omega) ?_
    try simp only [List.getElem_toArray, List.getElem_cons_zero, List.getElem_cons_succ, Act.put, List.setIfInBounds_toArray, List.set_cons_succ, List.set_cons_zero]
    refine wpIn_takeV 2 [3, 8, 9] (.agg #[.int .i64 5, .slice none 0 0, .slice none 0 0, .slice none 0 0, .string ⟨#[]⟩, .slice none 0 0, .slice (some ⟨b, 0, none⟩) 1 2, .int .i64 3, .int .u64 0, .int .i64 0, .int .i64 0, .int .i64 0, .int .i64 0, .int .i64 0]) rfl (by kernel_rfl) (by kernel_rfl) (by kernel_rfl) (by kernel_rfl) (by kernel_rfl) (by kernel_rfl) (by kernel_rfl) (by rfl) (fun _ _ _ h => h) (Below.refl w1.heap.size w1).drew (fun W hW => by go_simp; all_goals first | with_reducible rfl | rfl | omega) ?_
    try simp only [List.getElem_toArray, List.getElem_cons_zero, List.getElem_cons_succ, Act.put, List.setIfInBounds_toArray, List.set_cons_succ, List.set_cons_zero]
    refine wpIn_takeV 4 [5, 6, 7, 8, 9] (.slice (some ⟨b, 0, none⟩) 2 2) rfl (by kernel_rfl) (by kernel_rfl) (by kernel_rfl) (by kernel_rfl) (by kernel_rfl) (by kernel_rfl) (by kernel_rfl) (by rfl) (fun _ _ _ h => h) (Below.refl w1.heap.size w1).drew (fun W hW => by go_simp; all_goals first | with_reducible rfl | rfl | omega) ?_
    try simp only [List.getElem_toArray, List.getElem_cons_zero, List.getElem_cons_succ, Act.put, List.setIfInBounds_toArray, List.set_cons_succ, List.set_cons_zero]
    refine wpIn_takeV 5 [6, 7, 8, 9] (.slice (some ⟨b, 2, none⟩) 1 1) rfl (by kernel_rfl) (by kernel_rfl) (by kernel_rfl) (by kernel_rfl) (by kernel_rfl) (by kernel_rfl) (by kernel_rfl) (by rfl) (fun _ _ _ h => h) (Below.refl w1.heap.size w1).drew (fun W hW => by go_simp; all_goals first | with_reducible rfl | rfl | omega) ?_
    try simp only [List.getElem_toArray, List.getElem_cons_zero, List.getElem_cons_succ, Act.put, List.setIfInBounds_toArray, List.set_cons_succ, List.set_cons_zero]
    refine wpIn_takeV 6 [7, 8, 9] (.agg #[.int .i64 5, .slice none 0 0, .slice none 0 0, .slice none 0 0, .string ⟨#[]⟩, .slice none 0 0, .slice (some ⟨b, 2, none⟩) 1 1, .int .i64 0, .int .u64 0, .int .i64 0, .int .i64 0, .int .i64 0, .int .i64 0, .int .i64 0]) rfl (by kernel_rfl) (by kernel_rfl) (by kernel_rfl) (by kernel_rfl) (by kernel_rfl) (by kernel_rfl) (by kernel_rfl) (by rfl) (fun _ _ _ h => h) (Below.refl w1.heap.size w1).drew (fun W hW => by go_simp; all_goals first | with_reducible rfl | rfl | omega) ?_
    try simp only [List.getElem_toArray, List.getElem_cons_zero, List.getElem_cons_succ, Act.put, List.setIfInBounds_toArray, List.set_cons_succ, List.set_cons_zero]
    refine wpIn_one 3 rfl (by kernel_rfl) (fun _ => (Below.refl w1.heap.size w1).drew) (by rfl) ?_
    go_simp
    have hdr : Below w1.heap.size w1 w1.drew := (Below.refl w1.heap.size w1).drew
    refine (dBytes_any Sp.kP1 (frRef (some ⟨b, 0, none⟩) 2) w1.drew (frRd 2 3 ((KL.out.go hdr).cut 0 1))).mono ?_
    rintro e w2 ⟨rfl, hb2⟩
    have hB2 := hdr.trans hb2
    try simp only [List.getElem_toArray, List.getElem_cons_zero, List.getElem_cons_succ, Act.put, List.setIfInBounds_toArray, List.set_cons_succ, List.set_cons_zero]
    refine wpIn_one 7 rfl (by kernel_rfl) (fun _ => hB2) (by rfl) ?_
    go_simp
    refine (dBytes_any Sp.kP2 (frRef (some ⟨b, 2, none⟩) 1) w2 (frRd 1 0 ((KL.out.go hB2).cut 1 1))).mono ?_
    rintro e w3 ⟨rfl, hb3⟩
    have hB3 := hB2.trans (hb3.mono hB2.size)
    try simp only [List.getElem_toArray, List.getElem_cons_zero, List.getElem_cons_succ, Act.put, List.setIfInBounds_toArray, List.set_cons_succ, List.set_cons_zero]
    refine wpIn_one 8 rfl (by kernel_rfl) (fun _ => hB3) (by rfl) ?_
    go_simp
    try simp only [List.getElem_toArray, List.getElem_cons_zero, List.getElem_cons_succ, Act.put, List.setIfInBounds_toArray, List.set_cons_succ, List.set_cons_zero]
    have hal := (Below.refl w3.heap.size w3).alloc (Nat.le_refl _) (.cells #[.string ⟨#[]⟩, .string ⟨#[]⟩, .string ⟨(Sp.bytes Sp.kP1).toArray⟩, .string ⟨(Sp.bytes Sp.kP2).toArray⟩] StrT)
    have hB4 := hB3.trans (hal.mono hB3.size)
    refine wpIn_one 9 rfl (by kernel_rfl) (fun _ => hB4) (by rfl) ?_
    go_simp
    refine (fileNew_any Sp.kF w3.heap.size 0 4 _ (kF_txts w3) (by decide) (by decide) Sp.kF_sz).mono ?_
    rintro e w5 ⟨f, fv, m, rfl, hf, _, _, _, hb5⟩
    have HF := Lib.hid hf
    have HB5 := Lib.hid (hB4.trans (hb5.mono hB4.size))
    clear hf hb5 hal hB2 hB3 hB4 hb2 hb3 hdr
    try simp only [List.getElem_toArray, List.getElem_cons_zero, List.getElem_cons_succ, Act.put, List.setIfInBounds_toArray, List.set_cons_succ, List.set_cons_zero]
    refine wpIn_one 10 rfl (by kernel_rfl) (fun h => Bool.noConfusion (show true = false from h)) (by rfl) ?_
    go_simp
    try simp only [List.getElem_toArray, List.getElem_cons_zero, List.getElem_cons_succ, Act.put, List.setIfInBounds_toArray, List.set_cons_succ, List.set_cons_zero]
    refine wpIn_done (by kernel_rfl) (by kernel_rfl) ?_ _
    refine ‹∀ (a' : Act) (w' : World), Met _ a' w' → _› _ _ ?_
    go_meet
    case rel => exact ⟨f, fv, m, rfl, HF.out, HB5.out⟩
  case rest =>
    obtain ⟨f, fv, m, rfl, hf, hb2⟩ := hcut
    obtain ⟨w2, rfl⟩ : ∃ W, W = wc := ⟨_, rfl⟩
    have HF := Lib.hid hf
    have HB2 := Lib.hid hb2
    clear hf hb2
    go_upto_region 4 with (go_at_call 19; refine (fread_any f m fv Sp.kF 2 10 _ HF.out (by decide)).mono ?_; rintro e w3 ⟨ua, va, rfl, hu3, _, hv3, _, hb3⟩; rw [Sp.k18_r1] at hu3 hv3; rw [Sp.k18_r1]; have HU3 := Lib.hid hu3; have HV3 := Lib.hid hv3; have HB3 := Lib.hid hb3; clear hu3 hv3 hb3; simp only [erO])
    obtain ⟨Aa, ca, hua⟩ := HU3.out.form
    subst hua
    obtain ⟨Av, cv, hva⟩ := own_slice HV3.out
    subst hva
    have hlA : Sp.kL.length = 2 := rfl
    have hlV : ([2, 3] : List Int).length = 2 := rfl
    rw [hlA, hlV]
    have HI3 := Lib.hid (own_intsB (M := NoM) HV3.out rfl (by decide) (fun _ _ h => h))
    have HC3 := Lib.hid (HB2.out.trans (HB3.out.mono HB2.out.size))
    have HF3 := Lib.hid (HF.out.chg (S := NoM) (Chg.of_below HB3.out) (fun h => h) (fun h => h) (fun _ _ h => h))
    clear HU3 HV3 hlA hlV HF HB2 HB3
    go_upto_region 5 with (go_at_call 19; refine (fread_any f m fv Sp.kF 9 10 _ HF3.out (by decide)).mono ?_; rintro e w4 ⟨ub, vb, rfl, hu4, _, hv4, _, hb4⟩; rw [Sp.k18_r2]; have HB4 := Lib.hid hb4; clear hu4 hv4 hb4; simp only [erO])
    have HI4 := Lib.hid (HI3.out.go HB4.out)
    have HC4 := Lib.hid (HC3.out.trans (HB4.out.mono HC3.out.size))
    have HF4 := Lib.hid (HF3.out.chg (S := NoM) (Chg.of_below HB4.out) (fun h => h) (fun h => h) (fun _ _ h => h))
    clear HI3 HC3 HF3 HB4
    go_upto_region 6 with (go_at_call 19; refine (fread_any f m fv Sp.kF 10 10 _ HF4.out (by decide)).mono ?_; rintro e w5 ⟨uc, vc, rfl, hu5, _, hv5, _, hb5⟩; rw [Sp.k18_r3]; have HB5 := Lib.hid hb5; clear hu5 hv5 hb5; simp only [erO])
    have HI5 := Lib.hid (HI4.out.go HB5.out)
    have HC5 := Lib.hid (HC4.out.trans (HB5.out.mono HC4.out.size))
    have KL5 := Lib.hid (KL.out.go HC5.out)
    clear HI4 HC4 HF4 HB5
    have hkb : ∀ x ∈ Sp.kL, 1 ≤ x.ids.length ∧ x.ids.length ≤ 1000 := by decide
    have HPK := Lib.hid (fpack_any Sp.kL (some ⟨b, 0, none⟩) 2 2 w5 KL5.out (by decide) (fun x hx => (hkb x hx).2) (by decide) (by decide))
    have HKB := Lib.hid hkb
    clear hkb
    go_upto_region 7 with (go_at_call 17; refine HPK.out.mono ?_; rintro e w6 ⟨br, rfl, hp6, hb6⟩; have HP6 := Lib.hid hp6; have HB6 := Lib.hid hb6; clear hp6 hb6)
    have HI6 := Lib.hid (HI5.out.go HB6.out)
    have HC6 := Lib.hid (HC5.out.trans (HB6.out.mono HC5.out.size))
    have KL6 := Lib.hid (KL.out.go HC6.out)
    obtain ⟨cs, hcs, _, hrr⟩ := HP6.out.bk
    obtain ⟨A0, c0, hq0, _⟩ := hrr 0 (by decide)
    obtain ⟨A1, c1, hq1, _⟩ := hrr 1 (by decide)
    have r0 : w6.cell? ⟨br, 0, none⟩ = some (.slice A0 2 c0) := (hcs.cell 0).trans (by rw [hq0]; rfl)
    have r1 : w6.cell? ⟨br, 1, none⟩ = some (.slice A1 0 c1) := (hcs.cell 1).trans (by rw [hq1]; rfl)
    have HR0 := Lib.hid r0
    have HR1 := Lib.hid r1
    have HRB := Lib.hid hcs.lt
    clear hcs hrr hq0 hq1 r0 r1 HP6 HPK HC5 HI5 KL5 HB6
    go_wp2_with (first
      | (go_at_call_of 21 (Value.slice Av 2 cv); refine (dSameInts [2, 3] [2, 3] Av (some ⟨w6.heap.size, 0, none⟩) cv 2 _ (HI6.out.go ((Below.refl _ _).alloc (Nat.le_refl _) _)) (litI [2, 3] (by decide) w6)).mono ?_; rintro e w7 ⟨rfl, hb7⟩; have HC7 := Lib.hid ((((Below.refl w6.heap.size w6).alloc (Nat.le_refl _) (.cells (([2, 3] : List Int).map iv).toArray IntT))).trans (hb7.mono (by rw [World.size_alloc]; omega))); clear hb7)
      | (go_at_call_of 26 (Value.iface 55 (Value.int IntKind.i64 12)); refine (errIs_same 12 _).mono ?_; rintro e wg ⟨rfl, rfl⟩)
      | (go_at_call_of 26 (Value.iface 55 (Value.int IntKind.i64 14)); refine (errIs_same 14 _).mono ?_; rintro e wg ⟨rfl, rfl⟩)
      | (go_at_call 23; refine (usable_any Sp.kL (some ⟨b, 0, none⟩) 2 4 _ (KL6.out.go HC7.out) (by decide) HKB.out (by decide) (by decide)).mono ?_; rintro e w8 ⟨r8, rfl, ho8, hb8⟩; rw [Sp.k18_u] at ho8; obtain ⟨A8, c8, rfl⟩ := own_slice ho8; have HI8 := Lib.hid (own_intsB (M := NoM) ho8 rfl (by decide) (fun _ _ h => h)); have HC8 := Lib.hid (HC7.out.trans (hb8.mono HC7.out.size)); clear ho8 hb8)
      | (go_at_call_of 21 (Value.slice A8 2 c8); refine (dSameInts [5, 6] [5, 6] A8 (some ⟨w8.heap.size, 0, none⟩) c8 2 _ (HI8.out.go ((Below.refl _ _).alloc (Nat.le_refl _) _)) (litI [5, 6] (by decide) w8)).mono ?_; rintro e w9 ⟨rfl, hb9⟩; have HC9 := Lib.hid (HC8.out.trans (((Below.refl w8.heap.size w8).alloc (Nat.le_refl _) (.cells (([5, 6] : List Int).map iv).toArray IntT)).trans (hb9.mono (by rw [World.size_alloc]; omega)) |>.mono HC8.out.size)); clear hb9)
      | (go_at_call 24; refine (frest_any Sp.kL (some ⟨b, 0, none⟩) 2 4 _ (KL6.out.go HC9.out) (by decide) HKB.out (by decide)).mono ?_; rintro e wa ⟨ra, rfl, hfa, hba⟩; rw [Sp.k18_r] at hfa; obtain ⟨Ar, cr, rfl⟩ := hfa.form; have HCa := Lib.hid (HC9.out.trans (hba.mono HC9.out.size)); clear hfa hba)
      | (go_at_call 16; refine (fcount_any Sp.kL (some ⟨b, 0, none⟩) 2 _ (KL6.out.go HCa.out) (by decide) (fun x hx => (HKB.out x hx).2)).mono ?_; rintro e wb ⟨rfl, hbb⟩; rw [Sp.k18_t]; have HCb := Lib.hid (HCa.out.trans (hbb.mono HCa.out.size)); have r0 := (HCb.out.cell (p := ⟨br, 0, none⟩) HRB.out).trans HR0.out; have r1 := (HCb.out.cell (p := ⟨br, 1, none⟩) HRB.out).trans HR1.out; have hbrb := Nat.lt_of_lt_of_le HRB.out HCb.out.size; clear hbb))
    go_ret
    exact ⟨by simp, HB1.out.trans ((HC6.out.trans (HCb.out.mono HC6.out.size)).mono HB1.out.size)⟩
end Go.Proofs.YtkcfmjlcijhieaaGreat
namespace Go.Proofs.YtkcfmjlcijhieaaGreat
open Go.RowKit
attribute [local go_sem low] mk_extract
attribute [local go_sem] After.cell After.frozen mk_extract_end ByteArray.mk_append_mk
namespace Sp
/-- The page behind the i-th of k. -/
def nxL (k m : Nat) (ov : Bool) (i : Nat) : Int := if i + 1 = k then (if ov then 300 else 2 + (m : Int)) else 3 + (i : Int)
def loopV (k m : Nat) (ov : Bool) (n : Nat) : List Txt := [[], []] ++ (List.range n).map fun i => bytes (frPg [] (nxL k m ov i))
theorem loopV_succ (k m : Nat) (ov : Bool) (n : Nat) : loopV k m ov (n + 1) = loopV k m ov n ++ [bytes (frPg [] (nxL k m ov n))] := by
  unfold loopV
  rw [List.range_succ, List.map_append, List.append_assoc]
  rfl
theorem loopV_len (k m : Nat) (ov : Bool) (n : Nat) : (loopV k m ov n).length = n + 2 := by
  unfold loopV
  rw [List.length_append, List.length_map, List.length_range]
  simp
  omega
theorem loops_is1 : ∀ k, k < 7 → ∀ m, m < k → freesI (loopV k m false k) 200 500 2 [] [] = (([], []), some 12) := by decide +kernel
theorem loops_is2 : ∀ k, k < 7 → ∀ m, m < k → freesI (loopV k m true k) 200 500 2 [] [] = (([], []), some 14) := by decide +kernel
theorem loops_sz : ∀ k, k < 7 → ∀ m, m < k → ∀ ov, ∀ s ∈ loopV k m ov k, s.length ≤ 1000 := by decide +kernel
end Sp
theorem frRd0 {w : World} {M : Nat → Prop} (nx : Int) : PageRd w M (frPg [] nx) refs0 :=
  ⟨Items.nil_, Row.nil_, Row.nil_, Row.nil_, Frees.nil_, by simp [frPg, Sp.mt0]⟩
set_option maxRecDepth 100000 in
set_option maxHeartbeats 1600000 in
theorem loops_walk (n0 t0 : Int) (ov : Bool) (hn0 : 0 ≤ n0) (hn1 : n0 ≤ 255) (ht0 : 0 ≤ t0) (ht1 : t0 ≤ 255) (w : World) :
    Calls Tryz.prog 5 #[.int .u8 n0, .int .u8 t0, .bool ov] w fun e w' => e = .returned (.bool true) ∧ Below w.heap.size w w' := by
  have HKN := Lib.hid (known18_any w)
  obtain ⟨i0, hi0, hz0, hz1, hz2⟩ := info_parts info_str
  obtain ⟨k0, hk0⟩ : ∃ k0 : Nat, n0 % 6 = (k0 : Int) := ⟨(n0 % 6).toNat, by omega⟩
  obtain ⟨k, hk⟩ : ∃ k : Nat, k = k0 + 1 := ⟨_, rfl⟩
  have hk7 : k < 7 := by omega
  have hkk : IntKind.i64.wrap ((k0 : Int) + 1) = (k : Int) := by rw [IntKind.wrap_i64]; omega
  obtain ⟨m, hm⟩ : ∃ m : Nat, t0 % (k : Int) = (m : Int) := ⟨(t0 % (k : Int)).toNat, by have := Int.emod_nonneg t0 (show (k : Int) ≠ 0 by omega); omega⟩
  have hmk : m < k := by have := Int.emod_lt_of_pos t0 (show (0 : Int) < k by omega); omega
  have hk1 : 0 < k := by omega
  clear hk
  go_enter Tryz.func5, Tryz.ntmps5
  go_upto_region 6 with (go_at_call 15; refine HKN.out.mono ?_; rintro e w1 ⟨rfl, hb1⟩; have HB1 := Lib.hid hb1; clear hb1)
  have hO0 := World.ownsRow_lit (base := w.heap.size) (e := StrT) (size := 1) w1 #[.string ⟨#[]⟩, .string ⟨#[]⟩] 2 HB1.out.size (by decide) rfl
  have HO0 := Lib.hid hO0
  have HB2 := Lib.hid (HB1.out.alloc HB1.out.size (.cells #[.string ⟨#[]⟩, .string ⟨#[]⟩] StrT))
  clear hO0 HKN hk0 hkk
  go_loopw [8, 9] (fun u i wr => ∃ n : Nat, n ≤ k ∧ i = .int .i64 n ∧ wr.ownsRow w.heap.size StrT 1 u (n + 2) ((Sp.loopV k m ov n).map tv) ∧ Below w.heap.size w wr) (fun _ i _ => k - (intOf i).toNat)
  case atStart => exact ⟨0, Nat.zero_le _, rfl, HO0.out, HB2.out⟩
  case round =>
    obtain ⟨n, hn, rfl, ho, hb⟩ := hrel
    have HO := Lib.hid ho
    have HB := Lib.hid hb
    clear ho hb HO0 HB2
    by_cases hnk : n < k
    · have hw3 : IntKind.i64.wrap (3 + (n : Int)) = 3 + (n : Int) := by rw [IntKind.wrap_i64]; omega
      have hwk : IntKind.i64.wrap ((k : Int) - 1) = (k : Int) - 1 := by rw [IntKind.wrap_i64]; omega
      go_upto_region 9 with (refine wpList_new PageT _ _ rfl rfl rfl rfl rfl rfl _ rfl (of_decide_eq_true (by kernel_rfl)) (by kernel_rfl) (by kernel_rfl) (by kernel_rfl) ?_)
      simp only [Act.put, List.setIfInBounds_toArray, List.set_cons_succ, List.set_cons_zero]
      have hal := (Below.refl wr.heap.size wr).alloc (Nat.le_refl _) (.cells #[.int .i64 5, .slice none 0 0, .slice none 0 0, .slice none 0 0, .string ⟨#[]⟩, .slice none 0 0, .slice none 0 0, .int .i64 (3 + (n : Int)), .int .u64 0, .int .i64 0, .int .i64 0, .int .i64 0, .int .i64 0, .int .i64 0] PageT)
      refine wp_gen (fun W => (Below w.heap.size w W ∧ W.ownsRow w.heap.size StrT 1 u8 (n + 2) ((Sp.loopV k m ov n).map tv)) ∧ Blk W wr.heap.size PageT #[.int .i64 5, .slice none 0 0, .slice none 0 0, .slice none 0 0, .string ⟨#[]⟩, .slice none 0 0, .slice none 0 0, .int .i64 (3 + (n : Int)), .int .u64 0, .int .i64 0, .int .i64 0, .int .i64 0, .int .i64 0, .int .i64 0]) ⟨⟨HB.out.trans (hal.mono HB.out.size), own_chg2 (S := NoM) HO.out (Chg.of_below hal) (fun _ _ h => h)⟩, Blk.new _ _ _⟩ ?_
      have hz10 : w.heap.size ≤ wr.heap.size := HB.out.size
      clear HO HB hal
      generalize wr.heap.size = b10 at *
      rintro w4 ⟨hs4, hb4⟩
      have S4 := Lib.hid hs4
      have HB4 := Lib.hid hb4
      have c7 : w4.cell? ⟨b10, 7, none⟩ = some (.int .i64 (3 + (n : Int))) := HB4.out.cell 7
      have f7 := HB4.out.frozen 7
      have l7 := HB4.out.lt
      clear hs4 hb4
      by_cases hkn : n + 1 = k
      · have he : ((n : Int) == (k : Int) - 1) = true := by rw [beq_iff_eq]; omega
        rcases ov with _ | _
        · have HNX := Lib.hid (show Sp.nxL k m false n = 2 + (m : Int) from by unfold Sp.nxL; rw [if_pos hkn]; rfl)
          clear hkn
          go_upto_region 13 with fail
          have HS5 := Lib.hid (HB4.out.set_ 7 (.int .i64 (2 + (m : Int))))
          have hs7 := Chg.set1 w4 b10 7 (.int .i64 (2 + (m : Int)))
          refine wp_gen (fun W => (Below w.heap.size w W ∧ W.ownsRow w.heap.size StrT 1 u8 (n + 2) ((Sp.loopV k m false n).map tv)) ∧ Blk W b10 PageT #[.int .i64 5, .slice none 0 0, .slice none 0 0, .slice none 0 0, .string ⟨#[]⟩, .slice none 0 0, .slice none 0 0, .int .i64 (2 + (m : Int)), .int .u64 0, .int .i64 0, .int .i64 0, .int .i64 0, .int .i64 0, .int .i64 0]) ⟨⟨S4.out.1.trans (hs7.below S4.out.1.size fun j _ e => by have e : j = b10 := e; omega), own_chg2 S4.out.2 hs7 (fun j hj e => by
            have e : j = b10 := e
            subst e
            obtain ⟨ds, hd⟩ := own_ty S4.out.2 hj
            exact hd.not_ (by decide) _ HB4.out)⟩, HS5.out⟩ ?_
          clear S4 HB4 HS5 hs7 c7 f7 l7
          obtain ⟨w3', hw3'⟩ : ∃ W, W = w4 := ⟨_, rfl⟩
          clear hw3'
          rintro w4 ⟨hs4, hb4⟩
          have S4 := Lib.hid hs4
          have HBX := Lib.hid (show Blk w4 b10 PageT #[.int .i64 5, .slice none 0 0, .slice none 0 0, .slice none 0 0, .string ⟨#[]⟩, .slice none 0 0, .slice none 0 0, .int .i64 (Sp.nxL k m false n), .int .u64 0, .int .i64 0, .int .i64 0, .int .i64 0, .int .i64 0, .int .i64 0] from HNX.out ▸ hb4)
          clear hs4 hb4
          have HDB := Lib.hid (fun (W : World) => dBytes_any (frPg [] (Sp.nxL k m false n)) refs0 W (frRd0 (M := NoM) (Sp.nxL k m false n)))
          have HSC := Lib.hid (Sp.loopV_succ k m false n)
          go_wp2_with (first
            | (refine wpList_row PageT _ rfl b10 rfl rfl PageT _ (0, 0) _ HBX.out Tryz.underlying39 rfl (by kernel_rfl) ?_)
            | (go_at_call 18; refine (HDB.out _).mono ?_; rintro e w5 ⟨rfl, hb5⟩; have HB5 := Lib.hid hb5; clear hb5; have HOW := Lib.hid (own_chg2 (S := NoM) S4.out.2 (Chg.of_below (HB5.out.trans ((Below.refl w5.heap.size w5).alloc (Nat.le_refl _) (.cells #[.string ⟨(Sp.bytes (frPg [] (Sp.nxL k m false n))).toArray⟩] StrT) |>.mono HB5.out.size))) (fun _ _ h => h)))
            | (at_builtin; refine wpList_append_own _ rfl _ _ 32 rfl w.heap.size StrT i0 _ 1 16 Tryz.underlying32 hi0 hz0 hz1 hz2 rfl (by decide) _ (n + 2) _ rfl HOW.out ⟨w5.heap.size, 0, none⟩ 1 1 [tv (Sp.bytes (frPg [] (Sp.nxL k m false n)))] rfl rfl (cell_one_new _ _ _) (fun u hu => by rw [List.mem_singleton.1 hu]; rfl) ?c3 ?c4 ?c5 ?_))
          case c3 => simp only [maxLen]; omega
          case c4 => omega
          case c5 => rw [World.size_alloc]; have := S4.out.1.size; have := HB5.out.size; omega
          intro v6 w6 ho6 hgr6 _
          have hz4 : w.heap.size ≤ w4.heap.size := S4.out.1.size
          have hb6 : Below w.heap.size w w6 := (S4.out.1.trans (HB5.out.mono hz4)).trans (((Below.refl w5.heap.size w5).alloc (Nat.le_refl _) _).mono (Nat.le_trans hz4 HB5.out.size)) |>.trans (grown_own0 HOW.out (by rw [World.size_alloc]; have := HB5.out.size; omega) hgr6)
          have HB6 := Lib.hid hb6
          have HO6 := Lib.hid (show w6.ownsRow w.heap.size StrT 1 v6 (n + 1 + 2) ((Sp.loopV k m false (n + 1)).map tv) from by rw [HSC.out, List.map_append]; exact ho6)
          clear ho6 hgr6 hb6 HOW HB5
          go_wp2_with fail
          go_roundw
          case rel => exact ⟨n + 1, by omega, by go_num, HO6.out, HB6.out⟩
          case measure => simp [intOf]; omega
        · have HNX := Lib.hid (show Sp.nxL k m true n = 300 from by unfold Sp.nxL; rw [if_pos hkn]; rfl)
          clear hkn
          go_upto_region 11 with fail
          have HS5 := Lib.hid (HB4.out.set_ 7 (.int .i64 (2 + (m : Int))))
          have hs7 := Chg.set1 w4 b10 7 (.int .i64 (2 + (m : Int)))
          refine wp_gen (fun W => (Below w.heap.size w W ∧ W.ownsRow w.heap.size StrT 1 u8 (n + 2) ((Sp.loopV k m true n).map tv)) ∧ Blk W b10 PageT #[.int .i64 5, .slice none 0 0, .slice none 0 0, .slice none 0 0, .string ⟨#[]⟩, .slice none 0 0, .slice none 0 0, .int .i64 (2 + (m : Int)), .int .u64 0, .int .i64 0, .int .i64 0, .int .i64 0, .int .i64 0, .int .i64 0]) ⟨⟨S4.out.1.trans (hs7.below S4.out.1.size fun j _ e => by have e : j = b10 := e; omega), own_chg2 S4.out.2 hs7 (fun j hj e => by
            have e : j = b10 := e
            subst e
            obtain ⟨ds, hd⟩ := own_ty S4.out.2 hj
            exact hd.not_ (by decide) _ HB4.out)⟩, HS5.out⟩ ?_
          clear S4 HB4 HS5 hs7 c7 f7 l7
          obtain ⟨w3', hw3'⟩ : ∃ W, W = w4 := ⟨_, rfl⟩
          clear hw3'
          rintro w4 ⟨hs4, hb4⟩
          have S4 := Lib.hid hs4
          have HB4 := Lib.hid hb4
          have c7 : w4.cell? ⟨b10, 7, none⟩ = some (.int .i64 (2 + (m : Int))) := HB4.out.cell 7
          have f7 := HB4.out.frozen 7
          have l7 := HB4.out.lt
          clear hs4 hb4
          go_upto_region 13 with fail
          have HS5 := Lib.hid (HB4.out.set_ 7 (.int .i64 (300)))
          have hs7 := Chg.set1 w4 b10 7 (.int .i64 (300))
          refine wp_gen (fun W => (Below w.heap.size w W ∧ W.ownsRow w.heap.size StrT 1 u8 (n + 2) ((Sp.loopV k m true n).map tv)) ∧ Blk W b10 PageT #[.int .i64 5, .slice none 0 0, .slice none 0 0, .slice none 0 0, .string ⟨#[]⟩, .slice none 0 0, .slice none 0 0, .int .i64 (300), .int .u64 0, .int .i64 0, .int .i64 0, .int .i64 0, .int .i64 0, .int .i64 0]) ⟨⟨S4.out.1.trans (hs7.below S4.out.1.size fun j _ e => by have e : j = b10 := e; omega), own_chg2 S4.out.2 hs7 (fun j hj e => by
            have e : j = b10 := e
            subst e
            obtain ⟨ds, hd⟩ := own_ty S4.out.2 hj
            exact hd.not_ (by decide) _ HB4.out)⟩, HS5.out⟩ ?_
          clear S4 HB4 HS5 hs7 c7 f7 l7
          obtain ⟨w3', hw3'⟩ : ∃ W, W = w4 := ⟨_, rfl⟩
          clear hw3'
          rintro w4 ⟨hs4, hb4⟩
          have S4 := Lib.hid hs4
          have HBX := Lib.hid (show Blk w4 b10 PageT #[.int .i64 5, .slice none 0 0, .slice none 0 0, .slice none 0 0, .string ⟨#[]⟩, .slice none 0 0, .slice none 0 0, .int .i64 (Sp.nxL k m true n), .int .u64 0, .int .i64 0, .int .i64 0, .int .i64 0, .int .i64 0, .int .i64 0] from HNX.out ▸ hb4)
          clear hs4 hb4
          have HDB := Lib.hid (fun (W : World) => dBytes_any (frPg [] (Sp.nxL k m true n)) refs0 W (frRd0 (M := NoM) (Sp.nxL k m true n)))
          have HSC := Lib.hid (Sp.loopV_succ k m true n)
          go_wp2_with (first
            | (refine wpList_row PageT _ rfl b10 rfl rfl PageT _ (0, 0) _ HBX.out Tryz.underlying39 rfl (by kernel_rfl) ?_)
            | (go_at_call 18; refine (HDB.out _).mono ?_; rintro e w5 ⟨rfl, hb5⟩; have HB5 := Lib.hid hb5; clear hb5; have HOW := Lib.hid (own_chg2 (S := NoM) S4.out.2 (Chg.of_below (HB5.out.trans ((Below.refl w5.heap.size w5).alloc (Nat.le_refl _) (.cells #[.string ⟨(Sp.bytes (frPg [] (Sp.nxL k m true n))).toArray⟩] StrT) |>.mono HB5.out.size))) (fun _ _ h => h)))
            | (at_builtin; refine wpList_append_own _ rfl _ _ 32 rfl w.heap.size StrT i0 _ 1 16 Tryz.underlying32 hi0 hz0 hz1 hz2 rfl (by decide) _ (n + 2) _ rfl HOW.out ⟨w5.heap.size, 0, none⟩ 1 1 [tv (Sp.bytes (frPg [] (Sp.nxL k m true n)))] rfl rfl (cell_one_new _ _ _) (fun u hu => by rw [List.mem_singleton.1 hu]; rfl) ?c3 ?c4 ?c5 ?_))
          case c3 => simp only [maxLen]; omega
          case c4 => omega
          case c5 => rw [World.size_alloc]; have := S4.out.1.size; have := HB5.out.size; omega
          intro v6 w6 ho6 hgr6 _
          have hz4 : w.heap.size ≤ w4.heap.size := S4.out.1.size
          have hb6 : Below w.heap.size w w6 := (S4.out.1.trans (HB5.out.mono hz4)).trans (((Below.refl w5.heap.size w5).alloc (Nat.le_refl _) _).mono (Nat.le_trans hz4 HB5.out.size)) |>.trans (grown_own0 HOW.out (by rw [World.size_alloc]; have := HB5.out.size; omega) hgr6)
          have HB6 := Lib.hid hb6
          have HO6 := Lib.hid (show w6.ownsRow w.heap.size StrT 1 v6 (n + 1 + 2) ((Sp.loopV k m true (n + 1)).map tv) from by rw [HSC.out, List.map_append]; exact ho6)
          clear ho6 hgr6 hb6 HOW HB5
          go_wp2_with fail
          go_roundw
          case rel => exact ⟨n + 1, by omega, by go_num, HO6.out, HB6.out⟩
          case measure => simp [intOf]; omega
      · have he : ((n : Int) == (k : Int) - 1) = false := by rw [beq_eq_false_iff_ne]; omega
        have HNX := Lib.hid (show Sp.nxL k m ov n = 3 + (n : Int) from by unfold Sp.nxL; rw [if_neg hkn])
        clear hkn
        go_upto_region 13 with fail
        have HBX := Lib.hid (show Blk w4 b10 PageT #[.int .i64 5, .slice none 0 0, .slice none 0 0, .slice none 0 0, .string ⟨#[]⟩, .slice none 0 0, .slice none 0 0, .int .i64 (Sp.nxL k m ov n), .int .u64 0, .int .i64 0, .int .i64 0, .int .i64 0, .int .i64 0, .int .i64 0] from HNX.out ▸ HB4.out)
        have HDB := Lib.hid (fun (W : World) => dBytes_any (frPg [] (Sp.nxL k m ov n)) refs0 W (frRd0 (M := NoM) (Sp.nxL k m ov n)))
        have HSC := Lib.hid (Sp.loopV_succ k m ov n)
        go_wp2_with (first
          | (refine wpList_row PageT _ rfl b10 rfl rfl PageT _ (0, 0) _ HBX.out Tryz.underlying39 rfl (by kernel_rfl) ?_)
          | (go_at_call 18; refine (HDB.out _).mono ?_; rintro e w5 ⟨rfl, hb5⟩; have HB5 := Lib.hid hb5; clear hb5; have HOW := Lib.hid (own_chg2 (S := NoM) S4.out.2 (Chg.of_below (HB5.out.trans ((Below.refl w5.heap.size w5).alloc (Nat.le_refl _) (.cells #[.string ⟨(Sp.bytes (frPg [] (Sp.nxL k m ov n))).toArray⟩] StrT) |>.mono HB5.out.size))) (fun _ _ h => h)))
          | (at_builtin; refine wpList_append_own _ rfl _ _ 32 rfl w.heap.size StrT i0 _ 1 16 Tryz.underlying32 hi0 hz0 hz1 hz2 rfl (by decide) _ (n + 2) _ rfl HOW.out ⟨w5.heap.size, 0, none⟩ 1 1 [tv (Sp.bytes (frPg [] (Sp.nxL k m ov n)))] rfl rfl (cell_one_new _ _ _) (fun u hu => by rw [List.mem_singleton.1 hu]; rfl) ?c3 ?c4 ?c5 ?_))
        case c3 => simp only [maxLen]; omega
        case c4 => omega
        case c5 => rw [World.size_alloc]; have := S4.out.1.size; have := HB5.out.size; omega
        intro v6 w6 ho6 hgr6 _
        have hz4 : w.heap.size ≤ w4.heap.size := S4.out.1.size
        have hb6 : Below w.heap.size w w6 := (S4.out.1.trans (HB5.out.mono hz4)).trans (((Below.refl w5.heap.size w5).alloc (Nat.le_refl _) _).mono (Nat.le_trans hz4 HB5.out.size)) |>.trans (grown_own0 HOW.out (by rw [World.size_alloc]; have := HB5.out.size; omega) hgr6)
        have HB6 := Lib.hid hb6
        have HO6 := Lib.hid (show w6.ownsRow w.heap.size StrT 1 v6 (n + 1 + 2) ((Sp.loopV k m ov (n + 1)).map tv) from by rw [HSC.out, List.map_append]; exact ho6)
        clear ho6 hgr6 hb6 HOW HB5
        go_wp2_with fail
        go_roundw
        case rel => exact ⟨n + 1, by omega, by go_num, HO6.out, HB6.out⟩
        case measure => simp [intOf]; omega
    · have hke : n = k := by omega
      subst hke
      obtain ⟨Au, cu, hu⟩ := own_slice HO.out
      subst hu
      rcases own_none HO.out with ⟨_, h0, _⟩ | ⟨g, cur, hA, _, hbg, hcg⟩
      · omega
      · subst hA
        have hlen := Sp.loopV_len n m ov n
        have htx : Txts wr NoM (some ⟨g, 0, none⟩) (Sp.loopV n m ov n) := ⟨by rw [List.length_map, hlen]; omega, .inr ⟨g, 0, rfl, hbg.lt, fun h => h, hcg⟩⟩
        have hcap : n + 2 ≤ cu := by
          rcases HO.out.2 with ⟨h0, _⟩ | ⟨g', cap, cur, hv, _, _, h1, _⟩
          · cases h0
          · injection hv with _ _ hc
            omega
        have HFN := Lib.hid (fileNew_any (Sp.loopV n m ov n) g 0 cu wr htx (by rw [hlen]; omega) (by rw [hlen]; exact hcap) (fun s hs => by have := Sp.loops_sz n hk7 m hmk ov s hs; omega))
        rw [hlen] at HFN
        have hl4 : (Sp.loopV n m ov n).length ≤ 400 := by rw [hlen]; omega
        clear htx hcg hbg HO
        rcases ov with _ | _
        · have HLP := Lib.hid (Sp.loops_is1 n hk7 m hmk)
          go_wp2_with (first
            | (go_at_call 20; refine HFN.out.mono ?_; rintro e w2 ⟨f, fv, fm, rfl, hf, _, _, _, hb2⟩; have HF := Lib.hid hf; have HB2 := Lib.hid hb2; clear hf hb2)
            | (go_at_call 19; refine (fread_any f fm fv (Sp.loopV n m false n) 2 200 _ HF.out hl4).mono ?_; rintro e w3 ⟨ra, va, rfl, hu3, _, hv3, _, hb3⟩; rw [HLP.out] at hu3 hv3; rw [HLP.out]; obtain ⟨Aa, ca, rfl⟩ := hu3.form; obtain ⟨Av, cv, rfl⟩ := own_slice hv3; have HB3 := Lib.hid hb3; clear hu3 hv3 hb3; simp only [erO, List.length_nil])
            | (go_at_call 26; refine (errIs_same 12 _).mono ?_; rintro e wg ⟨rfl, rfl⟩))
          go_ret
          exact ⟨by simp, HB.out.trans ((HB2.out.trans (HB3.out.mono HB2.out.size)).mono HB.out.size)⟩
        · have HLP := Lib.hid (Sp.loops_is2 n hk7 m hmk)
          go_wp2_with (first
            | (go_at_call 20; refine HFN.out.mono ?_; rintro e w2 ⟨f, fv, fm, rfl, hf, _, _, _, hb2⟩; have HF := Lib.hid hf; have HB2 := Lib.hid hb2; clear hf hb2)
            | (go_at_call 19; refine (fread_any f fm fv (Sp.loopV n m true n) 2 200 _ HF.out hl4).mono ?_; rintro e w3 ⟨ra, va, rfl, hu3, _, hv3, _, hb3⟩; rw [HLP.out] at hu3 hv3; rw [HLP.out]; obtain ⟨Aa, ca, rfl⟩ := hu3.form; obtain ⟨Av, cv, rfl⟩ := own_slice hv3; have HB3 := Lib.hid hb3; clear hu3 hv3 hb3; simp only [erO, List.length_nil])
            | (go_at_call 26; refine (errIs_same 14 _).mono ?_; rintro e wg ⟨rfl, rfl⟩))
          go_ret
          exact ⟨by simp, HB.out.trans ((HB2.out.trans (HB3.out.mono HB2.out.size)).mono HB.out.size)⟩
end Go.Proofs.YtkcfmjlcijhieaaGreat
