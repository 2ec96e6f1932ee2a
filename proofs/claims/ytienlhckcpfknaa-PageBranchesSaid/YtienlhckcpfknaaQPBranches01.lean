/- PageBranches: a branch has two to four children, as many keys: the walk. PageBranches: whatever the input: true; the input reads as it did. -/
import Derived.Test.YtienlhckcpfknaaQPBranches00
import Derived.Deep.RegionHeld3
import Derived.Deep.AppendLies
import Derived.SizedLaws
set_option linter.unusedSimpArgs false
set_option linter.unusedVariables false
namespace Go.Proofs.Ytienlhckcpfknaa
open Go.RowKit
attribute [local go_sem low] mk_extract
attribute [local go_sem] After.cell After.frozen mk_extract_end ByteArray.mk_append_mk
namespace Sp
def brKey : Nat → Txt
  | 0 => []
  | j + 1 => keyL (j + 1)
def brK (n : Nat) : List Txt := (List.range n).map brKey
def brD (n : Nat) : List Int := (List.range n).map fun (j : Nat) => 2 + (j : Int)
def pgB (keys : List Txt) (kids : List Int) : Page := ⟨2, [], keys, kids, [], [], [], 0, mt0⟩
theorem brK_len (n : Nat) : (brK n).length = n := by simp [brK]
theorem brD_len (n : Nat) : (brD n).length = n := by simp [brD]
theorem brK_succ (n : Nat) : brK (n + 1) = brK n ++ [brKey n] := by
  unfold brK
  rw [List.range_succ, List.map_append]
  rfl
theorem brD_succ (n : Nat) : brD (n + 1) = brD n ++ [2 + (n : Int)] := by
  unfold brD
  rw [List.range_succ, List.map_append]
  rfl
end Sp
def brC (v2 v3 : Value) : Array Value := #[.int .i64 2, .slice none 0 0, v2, v3, .string ⟨#[]⟩, .slice none 0 0, .slice none 0 0, .int .i64 0, .int .u64 0, .int .i64 0, .int .i64 0, .int .i64 0, .int .i64 0, .int .i64 0]
/-- A page in the making: what its block holds, its rows of keys and of kids. -/
structure BrM (W0 : World) (g : Nat) (cs : Array Value) (v2 : Value) (ks : List Txt) (v3 : Value) (ds : List Int) (w : World) : Prop where
  hb : Below W0.heap.size W0 w
  hg : W0.heap.size ≤ g
  bl : Blk w g PageT cs
  o2 : w.ownsRow (g + 1) StrT 1 v2 ks.length (ks.map tv)
  o3 : w.ownsRow (g + 1) IntT 1 v3 ds.length (ds.map iv)
theorem BrM.step {W0 : World} {g : Nat} {cs : Array Value} {v2 v3 : Value} {ks : List Txt} {ds : List Int} {w w' : World} (h : BrM W0 g cs v2 ks v3 ds w) (hk : Chg NoM w w') : BrM W0 g cs v2 ks v3 ds w' :=
  ⟨h.hb.trans (hk.to_below.mono h.hb.size), h.hg, h.bl.chg hk id, own_chg h.o2 hk (fun _ _ => id), own_chg h.o3 hk (fun _ _ => id)⟩
theorem own_apart {w : World} {base : Nat} {e t : TypeId} {s1 s2 n m : Nat} {v u : Value} {xs ys : List Value} (h : w.ownsRow base e s1 v n xs) (h2 : w.ownsRow base t s2 u m ys) (hne : e ≠ t) : ∀ k, u.ownBlock = some k → ¬ v.ownBlock = some k := fun k e1 e2 => by
  obtain ⟨cs, hb⟩ : ∃ cs, Blk w k t cs := by
    rcases h2.2 with ⟨rfl, _⟩ | ⟨g', cap, cur, rfl, _, hh, _⟩
    · simp [Value.ownBlock] at e1
    · have : g' = k := by simpa [Value.ownBlock] using e1
      subst this
      exact ⟨_, hh⟩
  exact own_not h hne k e2 _ hb
theorem BrM.app2 {W0 : World} {g : Nat} {cs : Array Value} {v2 v2' v3 : Value} {ks : List Txt} {ds : List Int} {w w' : World} {s : Txt} (h : BrM W0 g cs v2 ks v3 ds w) (ho : w'.ownsRow (g + 1) StrT 1 v2' (ks.length + 1) (ks.map tv ++ [tv s])) (hg : w.grownBy w' v2.ownBlock) : BrM W0 g cs v2' (ks ++ [s]) v3 ds w' := by
  have hk : Chg (fun k => v2.ownBlock = some k) w w' := Chg.of_grown hg (fun k hk => .inl hk)
  refine ⟨?_, h.hg, h.bl.grown hg (fun k hk => (h.o2.lt k hk).1) (Nat.lt_succ_self _), by simpa using ho, own_chg2 h.o3 hk (own_apart h.o2 h.o3 (by decide))⟩
  exact h.hb.trans (hk.below h.hb.size (fun k hk e => by have := (h.o2.lt k e).1; have := h.hg; omega))
theorem BrM.app3 {W0 : World} {g : Nat} {cs : Array Value} {v2 v3 v3' : Value} {ks : List Txt} {ds : List Int} {w w' : World} {d : Int} (h : BrM W0 g cs v2 ks v3 ds w) (ho : w'.ownsRow (g + 1) IntT 1 v3' (ds.length + 1) (ds.map iv ++ [iv d])) (hg : w.grownBy w' v3.ownBlock) : BrM W0 g cs v2 ks v3' (ds ++ [d]) w' := by
  have hk : Chg (fun k => v3.ownBlock = some k) w w' := Chg.of_grown hg (fun k hk => .inl hk)
  refine ⟨?_, h.hg, h.bl.grown hg (fun k hk => (h.o3.lt k hk).1) (Nat.lt_succ_self _), own_chg2 h.o2 hk (own_apart h.o3 h.o2 (by decide)), by simpa using ho⟩
  exact h.hb.trans (hk.below h.hb.size (fun k hk e => by have := (h.o3.lt k e).1; have := h.hg; omega))
theorem BrM.store {W0 : World} {g : Nat} {cs : Array Value} {v2 v3 : Value} {ks : List Txt} {ds : List Int} {w : World} (h : BrM W0 g cs v2 ks v3 ds w) (i : Nat) (u : Value) : BrM W0 g (cs.setIfInBounds i u) v2 ks v3 ds (w.setCell ⟨g, i, none⟩ u) :=
  ⟨h.hb.setCell (p := ⟨g, i, none⟩) h.hg u, h.hg, h.bl.set_ i u, own_chg h.o2 (Chg.set1 w g i u) (fun k hk e => by unfold OneM at e; omega), own_chg h.o3 (Chg.set1 w g i u) (fun k hk e => by unfold OneM at e; omega)⟩
/-- A branch in the making, block g. -/
def BrS (W0 : World) (g : Nat) (ks : List Txt) (ds : List Int) (w : World) : Prop := ∃ v2 v3, BrM W0 g (brC v2 v3) v2 ks v3 ds w
theorem BrS.start {W0 w : World} (hb : Below W0.heap.size W0 w) : BrS W0 w.heap.size [] [] (w.alloc (.cells (brC (.slice none 0 0) (.slice none 0 0)) PageT)) :=
  ⟨.slice none 0 0, .slice none 0 0, hb.alloc hb.size _, hb.size, Blk.new w _ _, World.ownsRow_nil _ _ _ _, World.ownsRow_nil _ _ _ _⟩
theorem own_row {w : World} {base : Nat} {e : TypeId} {v : Value} {n : Nat} {xs : List Value} (h : w.ownsRow base e 1 v n xs) (hn : xs.length ≤ 4611686018427387904) : ∃ A c, v = .slice A n c ∧ Row w NoM A xs := by
  obtain ⟨A, c, rfl⟩ := own_form h
  exact ⟨A, c, rfl, (TRow.of_own h hn).row (fun _ _ => id)⟩
theorem BrS.pg {W0 : World} {g : Nat} {ks : List Txt} {ds : List Int} {w : World} (h : BrS W0 g ks ds w) (hk : ks.length ≤ 1000) (hd : ds.length ≤ 1000) : ∃ r, OneS W0 NoM (Sp.pgB ks ds) r g w := by
  obtain ⟨v2, v3, hm⟩ := h
  obtain ⟨A2, c2, rfl, h2⟩ := own_row hm.o2 (by simp; omega)
  obtain ⟨A3, c3, rfl, h3⟩ := own_row hm.o3 (by simp; omega)
  exact ⟨⟨none, A2, A3, none, none, 0, c2, c3, 0, 0⟩, hm.hb, hm.bl, ⟨Items.nil_, h2, h3, Row.nil_, Frees.nil_, by simp [Sp.pgB, Sp.mt0]⟩⟩
theorem BrS.at2 {W0 : World} {g : Nat} {ks : List Txt} {ds : List Int} {w : World} (h : BrS W0 g ks ds w) {i : Nat} (hi : i < ks.length) :
    ∃ b c, w.cell? ⟨g, 2, none⟩ = some (.slice (some ⟨b, 0, none⟩) ks.length c) ∧ w.frozen? ⟨b, i, none⟩ = false ∧ w.cell? ⟨b, i, none⟩ = some (tv (ks.getD i [])) ∧ b < w.heap.size ∧ ∀ (w' : World), Below w.heap.size w w' → ∀ s : Txt, BrS W0 g (ks.set i s) ds (w'.setCell ⟨b, i, none⟩ (tv s)) := by
  obtain ⟨v2, v3, hm⟩ := h
  obtain ⟨b, c, rfl, _, _⟩ := hm.o2.form (by omega)
  have hb := hm.o2.lt b rfl
  have hg := hm.hg
  have hq := hm.hb.size
  refine ⟨b, c, hm.bl.cell 2, hm.o2.frozenAt i, ?_, by omega, fun w' hw s => ⟨_, _, (hm.step (.of_below hw)).hb.setCell (p := ⟨b, i, none⟩) (by show _ ≤ b; omega) _, hm.hg, (hm.step (.of_below hw)).bl.far (p := ⟨b, i, none⟩) (by show g ≠ b; omega) _, ?_, own_chg2 (hm.step (.of_below hw)).o3 (Chg.set1 w' b i _) (fun k hk e => own_apart hm.o2 hm.o3 (by decide) k hk (by unfold OneM at e; rw [e]; rfl))⟩⟩
  · rw [hm.o2.cellAt i (by omega)]
    simp [List.getD, hi]
  · have := ((hm.step (.of_below hw)).o2.stored i (tv s)).1
    rw [show (ks.map tv).set i (tv s) = (ks.set i s).map tv by rw [List.map_set]] at this
    rw [List.length_set]
    exact this
theorem BrS.at3 {W0 : World} {g : Nat} {ks : List Txt} {ds : List Int} {w : World} (h : BrS W0 g ks ds w) {i : Nat} (hi : i < ds.length) :
    ∃ b c, w.cell? ⟨g, 3, none⟩ = some (.slice (some ⟨b, 0, none⟩) ds.length c) ∧ w.frozen? ⟨b, i, none⟩ = false ∧ w.cell? ⟨b, i, none⟩ = some (iv (ds.getD i 0)) ∧ b < w.heap.size ∧ ∀ (w' : World), Below w.heap.size w w' → ∀ d : Int, BrS W0 g ks (ds.set i d) (w'.setCell ⟨b, i, none⟩ (iv d)) := by
  obtain ⟨v2, v3, hm⟩ := h
  obtain ⟨b, c, rfl, _, _⟩ := hm.o3.form (by omega)
  have hb := hm.o3.lt b rfl
  have hg := hm.hg
  have hq := hm.hb.size
  refine ⟨b, c, hm.bl.cell 3, hm.o3.frozenAt i, ?_, by omega, fun w' hw d => ⟨_, _, (hm.step (.of_below hw)).hb.setCell (p := ⟨b, i, none⟩) (by show _ ≤ b; omega) _, hm.hg, (hm.step (.of_below hw)).bl.far (p := ⟨b, i, none⟩) (by show g ≠ b; omega) _, own_chg2 (hm.step (.of_below hw)).o2 (Chg.set1 w' b i _) (fun k hk e => own_apart hm.o3 hm.o2 (by decide) k hk (by unfold OneM at e; rw [e]; rfl)), ?_⟩⟩
  · rw [hm.o3.cellAt i (by omega)]
    simp [List.getD, hi]
  · have := ((hm.step (.of_below hw)).o3.stored i (iv d)).1
    rw [show (ds.map iv).set i (iv d) = (ds.set i d).map iv by rw [List.map_set]] at this
    rw [List.length_set]
    exact this
theorem BrS.below {W0 : World} {g : Nat} {ks : List Txt} {ds : List Int} {w w' : World} (h : BrS W0 g ks ds w) (hb : Below w.heap.size w w') : BrS W0 g ks ds w' := by
  obtain ⟨v2, v3, hm⟩ := h
  exact ⟨v2, v3, hm.step (.of_below hb)⟩
namespace Sp
def brKs (N m : Nat) : List Txt := if m = 1 then brK N ++ [[122, 122]] else brK N
def brDs (N m : Nat) : List Int := if m = 2 ∧ 0 < N then (brD N).set 0 1 else brD N
def brG (N m : Nat) : Bool := if m = 1 then false else if m = 2 ∧ 0 < N then false else decide (2 ≤ N) && decide (N ≤ 4)
def brKt (N m : Nat) (f : Bool) : List Txt := if f = true ∧ 0 < N then (brKs N m).set 0 [97] else brKs N m
def brH (N m : Nat) (f : Bool) : Bool := if f = true ∧ 0 < N then false else brG N m
theorem br_is : ∀ N, N < 7 → ∀ m, m < 3 → ∀ f, isPage (pgB (brKt N m f) (brDs N m)) = brH N m f := by decide +kernel
theorem brKs_len (N m : Nat) : N ≤ (brKs N m).length ∧ (brKs N m).length ≤ N + 1 := by
  unfold brKs
  split <;> simp [brK_len]
theorem brKt_len (N m : Nat) (f : Bool) : (brKt N m f).length ≤ N + 1 := by
  have := brKs_len N m
  unfold brKt
  split <;> simp <;> omega
theorem brDs_len (N m : Nat) : (brDs N m).length = N := by
  unfold brDs
  split <;> simp [brD_len]
end Sp
set_option maxRecDepth 100000 in
set_option maxHeartbeats 12800000 in
theorem branches_walk (a0 a1 : Int) (a2 : Bool) (h00 : 0 ≤ a0) (h01 : a0 ≤ 255) (h10 : 0 ≤ a1) (h11 : a1 ≤ 255) (w : World) :
    Calls Try.prog 7 #[.int .u8 a0, .int .u8 a1, .bool a2] w fun e w' => e = .returned (.bool true) ∧ Below w.heap.size w w' := by
  obtain ⟨i0, hi0, hz0, hz1, hz2⟩ := info_parts info_str
  obtain ⟨i2, hi2, hy0, hy1, hy2⟩ := info_parts info_int
  obtain ⟨N, hN⟩ : ∃ N : Nat, a0 % 7 = (N : Int) := ⟨(a0 % 7).toNat, by omega⟩
  have hN6 : N ≤ 6 := by omega
  have HN := Lib.hid hN
  clear hN
  go_enter Try.func7, Try.ntmps7
  go_upto_region 3 with (go_at_call 13; refine (known_any _).mono ?_; rintro e w1 ⟨rfl, hb1⟩)
  have HB1 := Lib.hid hb1
  clear hb1
  go_cut [7] (fun s7 W => s7 = .int .i64 (N : Int) ∧ Below w.heap.size w W)
  case first =>
    go_wp2_with fail
    go_meet
    case rel => exact ⟨by rw [HN.out], HB1.out⟩
  case rest =>
    obtain ⟨rfl, hb⟩ := hcut
    obtain ⟨w2, rfl⟩ : ∃ W, W = wc := ⟨_, rfl⟩
    have HB := Lib.hid hb
    clear hb HB1 HN
    go_upto_region 4 with fail
    go_cut [8] (fun s8 W => s8 = .pointer (some ⟨w2.heap.size, 0, none⟩) ∧ BrS w w2.heap.size [] [] W)
    case first =>
      go_wp2_with (refine wpList_new PageT _ _ rfl rfl rfl rfl rfl rfl _ rfl (of_decide_eq_true (by kernel_rfl)) (by kernel_rfl) (by kernel_rfl) (by kernel_rfl) ?_)
      go_meet
      case rel => exact ⟨rfl, BrS.start HB.out⟩
    case rest =>
      obtain ⟨rfl, hs⟩ := hcut
      obtain ⟨w3, rfl⟩ : ∃ W, W = wc := ⟨_, rfl⟩
      have S := Lib.hid hs
      clear hs HB
      generalize w2.heap.size = g at *
      go_wp2_with fail
      go_loopw [9] (fun i wr => ∃ k : Nat, k ≤ N ∧ i = .int .i64 k ∧ BrS w g (Sp.brK k) (Sp.brD k) wr) (fun i _ => N - (intOf i).toNat)
      case atStart => exact ⟨0, Nat.zero_le _, rfl, S.out⟩
      case round =>
        obtain ⟨k, hk, rfl, hs⟩ := hrel
        clear S
        by_cases hkn : k < N
        · obtain ⟨v2, v3, hm⟩ := hs
          have q2 : wr.cell? ⟨g, 2, none⟩ = some v2 := hm.bl.cell 2
          have q3 : wr.cell? ⟨g, 3, none⟩ = some v3 := hm.bl.cell 3
          have f2 := hm.bl.frozen 2
          have f3 := hm.bl.frozen 3
          have hgw := hm.bl.lt
          have HM := Lib.hid hm
          have HKL := Lib.hid (Sp.brK_len k)
          have HDL := Lib.hid (Sp.brD_len k)
          clear hm
          have hwr := Lib.hid (show IntKind.i64.wrap (2 + (k : Int)) = 2 + (k : Int) by rw [IntKind.wrap_i64]; omega)
          go_upto_region 8 with fail
          go_cut [8] (fun s8 W => s8 = .pointer (some ⟨g, 0, none⟩) ∧ BrS w g (Sp.brK k ++ [[]]) (Sp.brD (k + 1)) W)
          case first =>
            go_region_law (first
              | (refine step_append_lies _ rfl (.tmp 23) (.tmp 26) _ rfl (g + 1) IntT i2 _ 1 8 Try.underlying24 hi2 hy0 hy1 hy2 rfl (by omega) v3 (Sp.brD k).length ((Sp.brD k).map iv) rfl ?_ _ 1 1 [iv (IntKind.i64.wrap (2 + (k : Int)))] rfl rfl ?_ ?_ (by omega) ?_ ?_ ?_ _ rfl ?_; (exact own_chg HM.out.o3 (by (repeat (first | exact Chg.refl _ _ | assumption | refine Chg.alloc ?_ _ | refine Chg.drew ?_))) (fun _ _ => id)); ((first | exact cell_one_new _ _ _ | exact cell_one_at NB.out | exact cell_one_at (Blk.drew ((Blk.new _ _ _).alloc _)) | exact cell_one_at (Blk.drew (blk_second _ _ _ _)) | exact cell_one_at ((Blk.new _ _ _).alloc _) | exact cell_one_at (blk_second _ _ _ _))); (exact fun u hu => by rw [List.mem_singleton.1 hu]; rfl); (rw [HDL.out]; simp only [maxLen]; omega); (rw [HDL.out]; omega); (have hq := HM.out.bl.lt; first | omega | (simp; omega)); (intro g6 cap6 w6 hown6 hgr6 hat6 hlt6; (first | (have NB := Lib.hid (nb_grown (cs := #[tv []]) (b := wr.heap.size + 1) (t := StrT) (Blk.drew (blk_second _ _ _ _)) (own_chg HM.out.o3 (by (repeat (first | exact Chg.refl _ _ | assumption | refine Chg.alloc ?_ _ | refine Chg.drew ?_))) (fun _ _ => id)) hgr6 (by decide))) | (have NB := Lib.hid (nb_grown (cs := #[tv []]) (b := wr.heap.size) (t := StrT) (Blk.drew ((Blk.new _ _ _).alloc _)) (own_chg HM.out.o3 (by (repeat (first | exact Chg.refl _ _ | assumption | refine Chg.alloc ?_ _ | refine Chg.drew ?_))) (fun _ _ => id)) hgr6 (by decide))) | skip); replace HM := Lib.hid (BrM.app3 (HM.out.step (by (repeat (first | exact Chg.refl _ _ | assumption | refine Chg.alloc ?_ _ | refine Chg.drew ?_)))) hown6 hgr6); clear hown6 hgr6 hat6 hlt6 hgw q2 q3 f2 f3; have hgw := HM.out.bl.lt; have q2 : w6.cell? ⟨g, 2, none⟩ = some v2 := HM.out.bl.cell 2; have q3 : w6.cell? ⟨g, 3, none⟩ = some v3 := HM.out.bl.cell 3; have f2 := HM.out.bl.frozen 2; have f3 := HM.out.bl.frozen 3))
              | (refine step_append_lies _ rfl (.tmp 29) (.tmp 30) _ rfl (g + 1) StrT i0 _ 1 16 Try.underlying23 hi0 hz0 hz1 hz2 rfl (by omega) v2 (Sp.brK k).length ((Sp.brK k).map tv) rfl ?_ _ 1 1 [tv []] rfl rfl ?_ ?_ (by omega) ?_ ?_ ?_ _ rfl ?_; (exact own_chg HM.out.o2 (by (repeat (first | exact Chg.refl _ _ | assumption | refine Chg.alloc ?_ _ | refine Chg.drew ?_))) (fun _ _ => id)); ((first | exact cell_one_new _ _ _ | exact cell_one_at NB.out | exact cell_one_at (Blk.drew ((Blk.new _ _ _).alloc _)) | exact cell_one_at (Blk.drew (blk_second _ _ _ _)) | exact cell_one_at ((Blk.new _ _ _).alloc _) | exact cell_one_at (blk_second _ _ _ _))); (exact fun u hu => by rw [List.mem_singleton.1 hu]; rfl); (rw [HKL.out]; simp only [maxLen]; omega); (rw [HKL.out]; omega); (have hq := HM.out.bl.lt; first | omega | (simp; omega)); (intro g7 cap7 w7 hown7 hgr7 hat7 hlt7; replace HM := Lib.hid (BrM.app2 (HM.out.step (by (repeat (first | exact Chg.refl _ _ | assumption | refine Chg.alloc ?_ _ | refine Chg.drew ?_)))) hown7 hgr7); clear hown7 hgr7 hat7 hlt7 hgw q2 q3 f2 f3; have hgw := HM.out.bl.lt; have q2 : w7.cell? ⟨g, 2, none⟩ = some v2 := HM.out.bl.cell 2; have q3 : w7.cell? ⟨g, 3, none⟩ = some v3 := HM.out.bl.cell 3; have f2 := HM.out.bl.frozen 2; have f3 := HM.out.bl.frozen 3)))
            all_goals
              go_wp2_with fail
              go_meet
              case rel =>
                have h5 := HM.out
                rw [hwr.out, ← Sp.brD_succ] at h5
                first
                  | exact ⟨rfl, _, _, (h5.store 3 _).store 2 _⟩
                  | exact ⟨rfl, _, _, (h5.store 2 _).store 3 _⟩
          case rest =>
            obtain ⟨rfl, hs⟩ := hcut
            obtain ⟨w4, rfl⟩ : ∃ W, W = wc := ⟨_, rfl⟩
            have S := Lib.hid hs
            clear hs
            have HDK := Lib.hid hkn
            by_cases hk0 : 0 < k
            · have hKS : k < (Sp.brK k ++ [[]]).length := by simp [Sp.brK_len]
              obtain ⟨b, c, p2, fz, pc, hbl, hset⟩ := S.out.at2 hKS
              have hlen2 : (Sp.brK k ++ [[]]).length = k + 1 := by simp [Sp.brK_len]
              rw [hlen2] at p2
              have HSET := Lib.hid hset
              have hbb := byte97 k (by omega)
              have HBB := Lib.hid hbb
              clear hset hlen2 hKS hbb
              go_wp2_with (refine wpList_from_bytes 48 9 5 _ rfl rfl w4.heap.size 1 1 [97 + UInt8.ofNat k] rfl rfl Try.underlying48 Try.underlying5 Try.underlying9 ?_ ?_; (refine ByS.of_blk (Blk.new w4 _ _) ?_; rw [List.map_cons, List.map_nil, ← HBB.out]))
              go_roundw
              case rel =>
                have h7 := (HSET.out w4 (Below.refl _ _) (Sp.keyL k)).below ((Below.refl _ _).alloc (Nat.le_refl _) (.cells #[.int .u8 (97 + (k : Int))] 5))
                have hks : (Sp.brK k ++ [[]]).set k (Sp.keyL k) = Sp.brK (k + 1) := by
                  rw [List.set_append_right _ _ (by rw [Sp.brK_len]; exact Nat.le_refl _), Sp.brK_len, Nat.sub_self, Sp.brK_succ]
                  obtain ⟨j, rfl⟩ : ∃ j, k = j + 1 := ⟨k - 1, by omega⟩
                  rfl
                rw [hks] at h7
                exact ⟨k + 1, by have := HDK.out; omega, by go_num, h7⟩
              case measure => have := HDK.out; simp [intOf]; omega
            · have hk00 : k = 0 := by omega
              subst hk00
              go_wp2_with fail
              go_roundw
              case rel => exact ⟨1, by have := HDK.out; omega, by go_num, S.out⟩
              case measure => have := HDK.out; simp [intOf]; omega
        · have hkk : k = N := by omega
          subst hkk
          have S := Lib.hid hs
          clear hs
          obtain ⟨m, hm3, hmm⟩ : ∃ m : Nat, m < 3 ∧ a1 % 3 = (m : Int) := ⟨(a1 % 3).toNat, by omega, by omega⟩
          go_upto_region 11 with fail
          go_cut [10] (fun s10 W => s10 = .bool (decide (2 ≤ k) && decide (k ≤ 4)) ∧ BrS w g (Sp.brK k) (Sp.brD k) W)
          case first =>
            by_cases hk2 : 2 ≤ k
            all_goals
              go_wp2_with fail
              go_meet
              case rel => exact ⟨congrArg Value.bool (by rw [Bool.eq_iff_iff]; simp only [Bool.and_eq_true, decide_eq_true_eq, Bool.false_eq_true]; first | omega | (constructor <;> intro hh <;> first | exact hh.elim | omega)), S.out⟩
          case rest =>
            obtain ⟨rfl, hs⟩ := hcut
            obtain ⟨w4, rfl⟩ : ∃ W, W = wc := ⟨_, rfl⟩
            replace S := Lib.hid hs
            clear hs
            go_upto_region 12 with fail
            go_cut [54] (fun s54 W => s54 = .bool (decide (m = 1)) ∧ W = w4)
            case first =>
              by_cases hm1 : m = 1
              all_goals
                go_wp2_with fail
                go_meet
                case rel => exact ⟨congrArg Value.bool (by first | (simp [hm1]; done) | (simp [hm1]; omega)), rfl⟩
            case rest =>
              obtain ⟨rfl, rfl⟩ := hcut
              go_upto_if 54 with fail
              go_cut [10] (fun s10 W => s10 = .bool (Sp.brG k m) ∧ BrS w g (Sp.brKs k m) (Sp.brDs k m) W)
              case first =>
                rcases (by omega : m = 0 ∨ m = 1 ∨ m = 2) with rfl | rfl | rfl
                · go_wp2_with fail
                  go_meet
                  case rel => exact ⟨congrArg Value.bool (by simp [Sp.brG]), by simpa [Sp.brKs, Sp.brDs] using S.out⟩
                · obtain ⟨v2, v3, hm⟩ := S.out
                  have q2 : wc.cell? ⟨g, 2, none⟩ = some v2 := hm.bl.cell 2
                  have f2 := hm.bl.frozen 2
                  have hgw := hm.bl.lt
                  have HM := Lib.hid hm
                  have HKL := Lib.hid (Sp.brK_len k)
                  clear hm
                  go_wp2_with (at_builtin; refine wpList_append_own _ rfl _ _ 23 rfl (g + 1) StrT i0 _ 1 16 Try.underlying23 hi0 hz0 hz1 hz2 rfl (by decide) v2 (Sp.brK k).length ((Sp.brK k).map tv) rfl ?c0 ⟨wc.heap.size, 0, none⟩ 1 1 [tv [122, 122]] rfl rfl ?c1 ?c2 ?c3 ?c4 ?c5 ?_)
                  case c0 => exact HM.out.o2.alloc _
                  case c1 => exact news_of wc [tv [122, 122]].toArray StrT
                  case c2 => exact fun u hu => by rw [List.mem_singleton.1 hu]; rfl
                  case c3 => rw [HKL.out]; simp only [maxLen]; omega
                  case c4 => rw [HKL.out]; omega
                  case c5 => have := HM.out.bl.lt; simp; omega
                  intro v' w' hown' hgr' _
                  obtain ⟨A', c', hv'⟩ := own_form hown'
                  subst hv'
                  replace HM := Lib.hid (BrM.app2 (HM.out.step (.of_below ((Below.refl _ _).alloc (Nat.le_refl _) _))) hown' hgr')
                  have q2 : w'.cell? ⟨g, 2, none⟩ = some v2 := HM.out.bl.cell 2
                  have f2 := HM.out.bl.frozen 2
                  have hgw := HM.out.bl.lt
                  clear hown' hgr'
                  go_wp2_with fail
                  go_meet
                  case rel => exact ⟨congrArg Value.bool (by simp [Sp.brG]), by rw [show Sp.brKs k 1 = Sp.brK k ++ [[122, 122]] from rfl, show Sp.brDs k 1 = Sp.brD k from rfl]; exact ⟨_, _, HM.out.store 2 _⟩⟩
                · by_cases hk0 : 0 < k
                  · obtain ⟨b, c, p3, fz, pc, hbl, hset⟩ := S.out.at3 (i := 0) (by rw [Sp.brD_len]; exact hk0)
                    rw [Sp.brD_len] at p3
                    have HSET := Lib.hid (hset _ (Below.refl _ _) 1)
                    clear hset
                    go_wp2_with fail
                    go_meet
                    case rel => exact ⟨congrArg Value.bool (by simp [Sp.brG, hk0]), by rw [show Sp.brKs k 2 = Sp.brK k from rfl, show Sp.brDs k 2 = (Sp.brD k).set 0 1 from if_pos ⟨rfl, hk0⟩]; exact HSET.out⟩
                  · go_wp2_with fail
                    go_meet
                    case rel => exact ⟨congrArg Value.bool (by simp [Sp.brG, hk0]), by simpa [Sp.brKs, Sp.brDs, hk0] using S.out⟩
              case rest =>
                obtain ⟨rfl, hs⟩ := hcut
                obtain ⟨w5, rfl⟩ : ∃ W, W = wc := ⟨_, rfl⟩
                replace S := Lib.hid hs
                clear hs
                go_upto_region 18 with fail
                go_cut [74] (fun s74 W => s74 = .bool (a2 && decide (0 < k)) ∧ W = w5)
                case first =>
                  rcases a2 with _ | _
                  · go_wp2_with fail
                    go_meet
                    case rel => exact ⟨rfl, rfl⟩
                  · by_cases hk0 : 0 < k
                    all_goals
                      go_wp2_with fail
                      go_meet
                      case rel => exact ⟨congrArg Value.bool (by first | (simp [hk0]; done) | (simp [hk0]; omega)), rfl⟩
                case rest =>
                  obtain ⟨rfl, rfl⟩ := hcut
                  go_upto_if 74 with fail
                  go_cut [10] (fun s10 W => s10 = .bool (Sp.brH k m a2) ∧ BrS w g (Sp.brKt k m a2) (Sp.brDs k m) W)
                  case first =>
                    by_cases hf : a2 = true ∧ 0 < k
                    · obtain ⟨rfl, hk0⟩ := hf
                      have hkl := Sp.brKs_len k m
                      obtain ⟨b, c, p2, fz, pc, hbl, hset⟩ := S.out.at2 (i := 0) (by omega)
                      have HSET := Lib.hid (hset _ (Below.refl _ _) [97])
                      clear hset
                      rw [show (true && decide (0 < k)) = true by simp [hk0]]
                      go_wp2_with fail
                      go_meet
                      case rel => exact ⟨congrArg Value.bool (by simp [Sp.brH, hk0]), by rw [show Sp.brKt k m true = (Sp.brKs k m).set 0 [97] from if_pos ⟨rfl, hk0⟩]; exact HSET.out⟩
                    · have hff : (a2 && decide (0 < k)) = false := by
                        rcases a2 with _ | _
                        · rfl
                        · simpa using hf
                      rw [hff]
                      go_wp2_with fail
                      go_meet
                      case rel => exact ⟨congrArg Value.bool (by simp only [Sp.brH]; rw [if_neg hf]), by simp only [Sp.brKt]; rw [if_neg hf]; exact S.out⟩
                  case rest =>
                    obtain ⟨rfl, hs⟩ := hcut
                    obtain ⟨w6, rfl⟩ : ∃ W, W = wc := ⟨_, rfl⟩
                    have hkt := Sp.brKt_len k m a2
                    obtain ⟨r, ho⟩ := hs.pg (by omega) (by rw [Sp.brDs_len]; omega)
                    have hii := Sp.br_is k (by omega) m hm3 a2
                    clear S hs hkt
                    have P := Lib.hid ho
                    have HI := Lib.hid hii
                    clear ho hii
                    generalize Sp.brH k m a2 = gd at *
                    generalize Sp.pgB (Sp.brKt k m a2) (Sp.brDs k m) = p at *
                    rcases gd with _ | _
                    · go_wp2_with (first
                        | (refine wpList_row PageT _ rfl g rfl rfl PageT _ (0, 0) _ P.out.bp Try.underlying32 rfl rfl ?_)
                        | (go_at_call 16; refine (isPage_any (M := NoM) p r _ P.out.rp).mono ?_; rintro e w7 ⟨rfl, hb2⟩; rw [HI.out]; replace P := Lib.hid (P.out.go hb2); clear hb2)
                        | (go_at_call 20; refine (bytes_any (M := NoM) p r _ P.out.rp).mono ?_; rintro e w7 ⟨rfl, hb2⟩; rw [Sp.bytes_no HI.out]; replace P := Lib.hid (P.out.go hb2); clear hb2))
                      go_ret
                      exact ⟨rfl, P.out.hb⟩
                    · obtain ⟨b0, s0, hbx⟩ : ∃ b0 s0, Sp.bytes p = b0 :: s0 := by
                        have := Sp.bytes_len HI.out
                        rcases hq : Sp.bytes p with _ | ⟨b0, s0⟩
                        · rw [hq] at this; simp at this
                        · exact ⟨b0, s0, rfl⟩
                      have HBX := Lib.hid hbx
                      clear hbx
                      go_wp2_with (first
                        | (refine wpList_row PageT _ rfl g rfl rfl PageT _ (0, 0) _ P.out.bp Try.underlying32 rfl rfl ?_)
                        | (go_at_call 16; refine (isPage_any (M := NoM) p r _ P.out.rp).mono ?_; rintro e w7 ⟨rfl, hb2⟩; rw [HI.out]; replace P := Lib.hid (P.out.go hb2); clear hb2)
                        | (go_at_call 20; refine (bytes_any (M := NoM) p r _ P.out.rp).mono ?_; rintro e w7 ⟨rfl, hb2⟩; rw [HBX.out]; replace P := Lib.hid (P.out.go hb2); clear hb2))
                      go_ret
                      exact ⟨rfl, P.out.hb⟩
end Go.Proofs.Ytienlhckcpfknaa
namespace Go.Proofs.Ytienlhckcpfknaa.pageBranches
open Go.ChangeShapes Go.WideShapes Go.ChangeAt Go.RowKit
set_option maxRecDepth 100000 in
theorem lifted (os : Os) (started : os.Started) (H : Type) (enc : TypeId × Value → H) :
    ReturnsInHanded {} Try.checked os 7 .any (Rows.pageBranchesSpec.pre6 enc Try.prog Try.f7 Rows.pageBranchesRow.domain false) (Rows.pageBranchesSpec.post enc Try.prog Try.f7 false true false false) := by
  refine returnsInHanded_of_change (C := Try.checked) ownKn started (by kernel_rfl) Try.func7
    (ChangeSpec.witness6 (enc := enc) (C := Try.checked) false ⟨#[], #[.int .u8 0, .int .u8 0, .bool false], []⟩ 8 (by kernel_rfl) (by kernel_rfl) (by kernel_rfl) (by kernel_rfl)) ?_
  intro W base args ds gs before hval0 hW hcnd _
  have hval : ∀ (j : Nat) t v, Try.f7.params[j]? = some t → args[j]? = some v → Value.okWide Try.prog W .any base t v := hval0
  have hW' := hW
  obtain ⟨p, q, hA0, hV, rfl, hfz, hnd⟩ := hW
  have hA : DataW.TrodAll enc Try.prog W 0 (fun _ => true) true Try.f7.params.toList args.toList ds p := hA0
  rw [Try.params7] at hA hval
  obtain ⟨v0, vs0, d0, ds0, p0, q0, hargs, rfl, rfl, h0, rr0⟩ := trodAll_cons hA
  obtain ⟨v1, vs1, d1, ds1, p1, q1, rfl, rfl, rfl, h1, rr1⟩ := trodAll_cons rr0
  obtain ⟨v2, vs2, d2, ds2, p2, q2, rfl, rfl, rfl, h2, rr2⟩ := trodAll_cons rr1
  obtain ⟨rfl, rfl, rfl⟩ := trodAll_nil rr2
  obtain rfl : args = #[v0, v1, v2] := by cases args; simp_all
  obtain ⟨rfl, rfl⟩ := trodVars_none hV
  obtain ⟨a0, rfl, rfl, rfl, w0⟩ := open_int Try.underlying5 (hval 0 5 v0 rfl rfl) h0
  obtain ⟨a1, rfl, rfl, rfl, w1⟩ := open_int Try.underlying5 (hval 1 5 v1 rfl rfl) h1
  obtain ⟨a2, rfl, rfl, rfl⟩ := open_bool Try.underlying4 (hval 2 4 v2 rfl rfl) h2
  clear hA0 hval0
  simp only [List.append_nil] at hW'
  refine (branches_walk a0 a1 a2 (bounds_u8 w0).1 (bounds_u8 w0).2 (bounds_u8 w1).1 (bounds_u8 w1).2 W).mono fun e W' ⟨he, hg⟩ => ?_
  subst he
  exact ⟨_, rfl, post_of_below (pa := []) (pv := []) hW' (fun _ _ _ => (trodAll_cons_mk (shut_bool Try.underlying4 _) trodAll_mk0)) (fun sp hsp => (trodAll_cons_mk (shut_int Try.underlying5 w0) (trodAll_cons_mk (shut_int Try.underlying5 w1) (trodAll_cons_mk (shut_bool Try.underlying4 a2) trodAll_mk0)))) (fun _ _ => rfl) (by simp)
    hg (ok_one (by kernel_rfl) rfl (okWide_bool_mk Try.underlying4 _))⟩
theorem over : Rows.pageBranchesRow.holds Try.pinned (OpenSpec.ofChange Rows.pageBranchesSpec) :=
  OpenClaim.holds_of_wide 7 Try.f7 rfl rfl rfl rfl rfl rfl rfl ⟨rfl, rfl, rfl, rfl, rfl⟩ rfl rfl rfl rfl rfl (by kernel_rfl) Try.func7 (by kernel_rfl)
    (of_decide_eq_true (by kernel_rfl)) (by unfold Func.isWrapper; first | (rw [if_pos (by decide +kernel)]; kernel_rfl) | (rw [if_neg (by decide +kernel)]; exact ⟨rfl, rfl⟩))
    (fun os started H enc _ => lifted os started H enc)
theorem proved : Rows.PageBranchesSaid :=
  over
#print axioms proved
end Go.Proofs.Ytienlhckcpfknaa.pageBranches
