/- PageLeafs: a leaf has one to four items, whose keys rise: the walk. The document's readers: texts. The document's readers: items. -/
import Derived.Test.YtienlhckcpfknaaQB10
set_option linter.unusedSimpArgs false
set_option linter.unusedVariables false
namespace Go.Proofs.Ytienlhckcpfknaa
open Go.RowKit
attribute [local go_sem low] mk_extract
attribute [local go_sem] After.cell After.frozen mk_extract_end ByteArray.mk_append_mk
namespace Sp
def itL (k : Txt) : Item := ⟨k, 1, [], 0, 0, [], 0, root0⟩
def keyL (j : Nat) : Txt := [107, 97 + UInt8.ofNat j]
def leafL (n : Nat) : List Item := (List.range n).map fun j => itL (keyL j)
def pgL (l : List Item) : Page := ⟨1, l, [], [], [], [], [], 0, mt0⟩
def zL (j : Nat) : Txt := List.replicate j 122
theorem zL_len (j : Nat) : (zL j).length = j := by simp [zL]
theorem zL_succ (j : Nat) : zL (j + 1) = zL j ++ [122] := by unfold zL; rw [List.replicate_succ']
def gdN (k : Nat) : Bool := decide (1 ≤ k ∧ k ≤ 4)
def gdM (n m : Nat) : Bool := decide (n + 1 ≤ 4) && decide (1 ≤ m ∧ m ≤ 8)
def leafA : Nat → Nat → List Item
  | 0, _ => []
  | n + 1, m => leafL n ++ [itL (zL m)]
theorem leafA_is : ∀ n, n < 6 → ∀ m, m < 12 → isPage (pgL (leafA (n + 1) m)) = gdM n m := by decide +kernel
theorem leafB_no : ∀ n, n < 6 → isPage (pgL (leafL (n + 1) ++ [itL (keyL n)])) = false := by decide +kernel
theorem leaf0_no : isPage (pgL []) = false := by decide +kernel
end Sp
def lfC (v : Value) : Array Value := #[.int .i64 1, v, .slice none 0 0, .slice none 0 0, .string ⟨#[]⟩, .slice none 0 0, .slice none 0 0, .int .i64 0, .int .u64 0, .int .i64 0, .int .i64 0, .int .i64 0, .int .i64 0, .int .i64 0]
/-- A leaf in the making, block g. -/
structure LeafI (W0 : World) (g : Nat) (l : List Sp.Item) (w : World) : Prop where
  hb : Below W0.heap.size W0 w
  hg : W0.heap.size ≤ g
  ex : ∃ v xs, Blk w g PageT (lfC v) ∧ w.ownsRow (g + 1) ItemT 10 v l.length xs ∧ ItCells w (g + 1) l xs
theorem LeafI.below {W0 : World} {g : Nat} {l : List Sp.Item} {w w' : World} (h : LeafI W0 g l w) (hb : Below w.heap.size w w') : LeafI W0 g l w' := by
  have hk : Chg NoM w w' := .of_below hb
  refine ⟨h.hb.trans (hb.mono h.hb.size), h.hg, ?_⟩
  obtain ⟨v, xs, hL, ho, hi⟩ := h.ex
  exact ⟨v, xs, hL.chg hk id, own_chg ho hk (fun _ _ => id), hi.chg hk (fun _ _ h => h.elim)⟩
theorem LeafI.pg {W0 : World} {g : Nat} {l : List Sp.Item} {w : World} (h : LeafI W0 g l w) (hl : l.length ≤ 1000) : ∃ r, Blk w g PageT (pageV (Sp.pgL l) r).toArray ∧ PageRd w NoM (Sp.pgL l) r := by
  obtain ⟨v, xs, hL, ho, hi⟩ := h.ex
  obtain ⟨A, c, rfl⟩ := own_form ho
  have hx := hi.len
  refine ⟨⟨A, none, none, none, none, c, 0, 0, 0, 0⟩, hL, ⟨Items.of_cells (TRow.of_own ho (by omega)) hi (fun _ _ => id) (by show l.length ≤ _; omega), Row.nil_, Row.nil_, Row.nil_, Frees.nil_, by simp [Sp.pgL, Sp.mt0]⟩⟩
theorem LeafI.start {W0 w : World} (hb : Below W0.heap.size W0 w) : LeafI W0 w.heap.size [] (w.alloc (.cells (lfC (.slice none 0 0)) PageT)) :=
  ⟨hb.alloc hb.size _, hb.size, .slice none 0 0, [], Blk.new w _ _, World.ownsRow_nil _ _ _ _, rfl⟩
theorem LeafI.next {W0 w W2 w' : World} {g : Nat} {l : List Sp.Item} {v v' : Value} {xs : List Value} {x : Sp.Item} (hb : Below W0.heap.size W0 w) (hg : W0.heap.size ≤ g) (hL : Blk w g PageT (lfC v)) (ho : w.ownsRow (g + 1) ItemT 10 v l.length xs) (hi : ItCells w (g + 1) l xs)
    (hk : Below w.heap.size w W2) (hown : w'.ownsRow (g + 1) ItemT 10 v' (l.length + 1) (xs ++ itemV x none 0)) (hgr : W2.grownBy w' v.ownBlock) (hx : x.vals = []) : LeafI W0 g (l ++ [x]) (w'.setCell ⟨g, 1, none⟩ v') := by
  have hkm : Chg NoM w W2 := .of_below hk
  have ho2 := own_chg ho hkm (fun _ _ => id)
  have hbk : ∀ k, v.ownBlock = some k → g + 1 ≤ k := fun k hk => (ho2.lt k hk).1
  have hL2 : Blk W2 g PageT (lfC v) := hL.chg hkm id
  have hc2 : Chg (fun k => v.ownBlock = some k) W2 w' := Chg.of_grown hgr (fun k hk => .inl hk)
  have hL3 : Blk w' g PageT (lfC v) := hL2.grown hgr hbk (by omega)
  have hs1 := Chg.set1 w' g 1 v'
  refine ⟨?_, hg, v', xs ++ itemV x none 0, ?_, ?_, ?_⟩
  · have h1 : Below W0.heap.size W0 W2 := hb.trans (hk.mono hb.size)
    have h2 : Below W0.heap.size W2 w' := hc2.below h1.size (fun k hk e => by have := hbk k e; omega)
    exact (h1.trans h2).setCell (p := ⟨g, 1, none⟩) hg v'
  · have := hL3.set_ 1 v'
    simpa [lfC] using this
  · have := own_chg hown hs1 (fun k hk e => by unfold OneM at e; omega)
    simpa using this
  · have h1 : ItCells W2 (g + 1) l xs := hi.chg hkm (fun _ _ h => h.elim)
    have h2 : ItCells w' (g + 1) l xs := h1.chg hc2 (fun k hk e => own_not ho2 (by decide) k e)
    have h3 : ItCells (w'.setCell ⟨g, 1, none⟩ v') (g + 1) l xs := h2.chg hs1 (fun k hk e => by unfold OneM at e; omega)
    refine h3.snoc ?_
    rw [hx]
    exact ⟨by simp, .inl rfl⟩
theorem Sp.leafL_succ (k : Nat) : Sp.leafL (k + 1) = Sp.leafL k ++ [Sp.itL (Sp.keyL k)] := by
  unfold Sp.leafL
  rw [List.range_succ, List.map_append]
  rfl
theorem getD_map' {α : Type} (F : Nat → α) (d : α) {n k : Nat} (h : k < n) : ((List.range n).map F).getD k d = F k := by
  simp [List.getD, h]
theorem Sp.leafL_len (k : Nat) : (Sp.leafL k).length = k := by simp [Sp.leafL]
theorem ItCells.split {w : World} {b0 : Nat} {x : Sp.Item} : ∀ {l : List Sp.Item} {xs : List Value}, ItCells w b0 (l ++ [x]) xs → ∃ ys V c, xs = ys ++ itemV x V c ∧ ItCells w b0 l ys ∧ TRow w b0 StrT V (x.vals.map tv)
  | [], xs, ⟨V, c, ys, e, ht, h⟩ => ⟨[], V, c, by rw [e, show ys = [] from h]; simp, rfl, ht⟩
  | y :: l, xs, ⟨V, c, ys, e, ht, h⟩ => by
    obtain ⟨zs, V', c', e', hz, ht'⟩ := ItCells.split (l := l) h
    exact ⟨itemV y V c ++ zs, V', c', by rw [e, e']; simp, ⟨V, c, zs, rfl, ht, hz⟩, ht'⟩
theorem LeafI.last {W0 : World} {g : Nat} {l : List Sp.Item} {x : Sp.Item} {w : World} (h : LeafI W0 g (l ++ [x]) w) :
    ∃ b c, w.cell? ⟨g, 1, none⟩ = some (.slice (some ⟨b, 0, none⟩) (l.length + 1) c) ∧ w.frozen? ⟨g, 1, none⟩ = false ∧ w.cell? ⟨b, l.length * 10, none⟩ = some (.string ⟨x.key.toArray⟩) ∧ w.frozen? ⟨b, l.length * 10, none⟩ = false ∧
      (∀ j, j < l.length → w.cell? ⟨b, j * 10, none⟩ = some (.string ⟨(l.getD j Sp.item0).key.toArray⟩)) ∧ ∀ s : Txt, LeafI W0 g (l ++ [{ x with key := s }]) (w.setCell ⟨b, l.length * 10, none⟩ (.string ⟨s.toArray⟩)) := by
  obtain ⟨v, xs, hL, ho, hi⟩ := h.ex
  have hll : (l ++ [x]).length = l.length + 1 := by simp
  rw [hll] at ho
  obtain ⟨b, c, rfl, _, _⟩ := ho.form (by omega)
  obtain ⟨ys, V, c', rfl, hy, ht⟩ := hi.split
  have hyl := hy.len
  have hxl : (ys ++ itemV x V c').length = (l.length + 1) * 10 := by rw [List.length_append, hyl]; simp [itemV]; omega
  have hb := ho.lt b rfl
  have hset : ∀ u : Value, (ys ++ itemV x V c').set (l.length * 10) u = ys ++ (itemV x V c').set 0 u := fun u => by
    rw [List.set_append_right _ _ (by omega), hyl, Nat.sub_self]
  refine ⟨b, c, hL.cell 1, hL.frozen 1, ?_, ho.frozenAt _, fun j hj => ?_, fun s => ?_⟩
  · rw [ho.cellAt _ (by omega), List.getElem?_append_right (by omega), hyl, Nat.sub_self]
    rfl
  · obtain ⟨V2, c2, _, hc2⟩ := hy.at_ j hj
    have := hc2 0 _ rfl
    rw [Nat.add_zero] at this
    rw [ho.cellAt _ (by omega), List.getElem?_append_left (by omega), this]
  · have hst := ho.stored (l.length * 10) (.string ⟨s.toArray⟩)
    have hk : Chg (OneM b) w (w.setCell ⟨b, l.length * 10, none⟩ (.string ⟨s.toArray⟩)) := Chg.set1 w b _ _
    rw [hset] at hst
    have hbi := h.hb.size
    refine ⟨h.hb.setCell (p := ⟨b, l.length * 10, none⟩) (by have := h.hg; show _ ≤ b; omega) _, h.hg, .slice (some ⟨b, 0, none⟩) (l.length + 1) c, ys ++ itemV { x with key := s } V c', hL.far (p := ⟨b, l.length * 10, none⟩) (by show g ≠ b; omega) _, ?_, ?_⟩
    · have e2 : (l ++ [{ x with key := s }]).length = l.length + 1 := by simp
      rw [e2]
      exact hst.1
    · have hno : ∀ k, g + 1 ≤ k → OneM b k → ∀ cs, ¬ Blk w k StrT cs := fun k _ e => by
        unfold OneM at e
        subst e
        exact own_not ho (by decide) k rfl
      exact ItCells.snoc (x := { x with key := s }) (ht.chg hk hno) (hy.chg hk hno)
set_option maxRecDepth 100000 in
set_option maxHeartbeats 1600000 in
theorem leafs_walk (a0 a1 : Int) (a2 : Bool) (h00 : 0 ≤ a0) (h01 : a0 ≤ 255) (h10 : 0 ≤ a1) (h11 : a1 ≤ 255) (w : World) :
    Calls Try.prog 5 #[.int .u8 a0, .int .u8 a1, .bool a2] w fun e w' => e = .returned (.bool true) ∧ Below w.heap.size w w' := by
  obtain ⟨i0, hi0, hz0, hz1, hz2⟩ := info_parts info_item
  obtain ⟨N, hN⟩ : ∃ N : Nat, a0 % 7 = (N : Int) := ⟨(a0 % 7).toNat, by omega⟩
  have hN6 : N ≤ 6 := by omega
  have HN := Lib.hid hN
  clear hN
  go_enter Try.func5, Try.ntmps5
  go_upto_region 3 with (go_at_call 13; refine (known_any _).mono ?_; rintro e w1 ⟨rfl, hb1⟩)
  have HB1 := Lib.hid hb1
  clear hb1
  go_cut [7] (fun s7 W => s7 = .int .i64 (N : Int) ∧ Below w.heap.size w W)
  case first =>
    go_wp2_with fail
    go_meet
    case rel => exact ⟨by rw [HN.out], HB1.out⟩
  case rest =>
    obtain ⟨rfl, hb⟩ := hcut
    obtain ⟨w2, rfl⟩ : ∃ W, W = wc := ⟨_, rfl⟩
    have HB := Lib.hid hb
    clear hb HB1
    go_upto_region 4 with fail
    go_cut [8] (fun s8 W => s8 = .pointer (some ⟨w2.heap.size, 0, none⟩) ∧ LeafI w w2.heap.size [] W)
    case first =>
      go_wp2_with (refine wpList_new PageT _ _ rfl rfl rfl rfl rfl rfl _ rfl (of_decide_eq_true (by kernel_rfl)) (by kernel_rfl) (by kernel_rfl) (by kernel_rfl) ?_)
      go_meet
      case rel => exact ⟨rfl, LeafI.start HB.out⟩
    case rest =>
      obtain ⟨rfl, hs⟩ := hcut
      obtain ⟨w3, rfl⟩ : ∃ W, W = wc := ⟨_, rfl⟩
      have S := Lib.hid hs
      clear hs HB
      generalize w2.heap.size = g at *
      go_wp2_with fail
      go_loopw [9] (fun i wr => ∃ k : Nat, k ≤ N ∧ i = .int .i64 k ∧ LeafI w g (Sp.leafL k) wr) (fun i _ => N - (intOf i).toNat)
      case atStart => exact ⟨0, Nat.zero_le _, rfl, S.out⟩
      case round =>
        obtain ⟨k, hk, rfl, hs⟩ := hrel
        have R := Lib.hid hs
        clear hs S
        by_cases hkn : k < N
        · obtain ⟨v, xs, hL, ho, hi⟩ := R.out.ex
          have hv : wr.cell? ⟨g, 1, none⟩ = some v := hL.cell 1
          have fv := hL.frozen 1
          have HL := Lib.hid hL
          have HO := Lib.hid ho
          have HI := Lib.hid hi
          clear hL ho hi
          have hbb := byte97 k (by omega)
          have HBB := Lib.hid hbb
          clear hbb
          have hll := Sp.leafL_len k
          have HLL := Lib.hid hll
          clear hll
          go_wp2_with (first
            | (refine wpList_from_bytes 48 9 5 _ rfl rfl wr.heap.size 1 1 [97 + UInt8.ofNat k] rfl rfl Try.underlying48 Try.underlying5 Try.underlying9 ?_ ?_; (refine ByS.of_blk (Blk.new wr _ _) ?_; rw [List.map_cons, List.map_nil, ← HBB.out]))
            | (at_builtin; refine wpList_append_own _ rfl _ _ 22 rfl (g + 1) ItemT i0 _ 10 112 Try.underlying22 hi0 hz0 hz1 hz2 rfl (by decide) v (Sp.leafL k).length xs rfl ?c0 ⟨wr.heap.size + 1, 0, none⟩ 1 1 (itemV (Sp.itL (Sp.keyL k)) none 0) rfl rfl ?c1 ?c2 ?c3 ?c4 ?c5 ?_))
          case c0 => exact (HO.out.alloc _).alloc _
          case c1 =>
            have h := news_of (wr.alloc (.cells #[.int .u8 (97 + (k : Int))] 5)) (itemV (Sp.itL (Sp.keyL k)) none 0).toArray ItemT
            simp only [World.size_alloc] at h
            exact h
          case c2 => exact fun u hu => by simp only [itemV, List.mem_cons, List.not_mem_nil, or_false] at hu; rcases hu with rfl | rfl | rfl | rfl | rfl | rfl | rfl | rfl | rfl | rfl <;> rfl
          case c3 => rw [HLL.out]; simp only [maxLen]; omega
          case c4 => rw [HLL.out]; omega
          case c5 => have := HL.out.lt; simp; omega
          intro v' w' hown' hgr' _
          obtain ⟨A', c', hv'⟩ := own_form hown'
          subst hv'
          have hk2 : Below wr.heap.size wr ((wr.alloc (.cells #[.int .u8 (97 + (k : Int))] 5)).alloc (.cells (itemV (Sp.itL (Sp.keyL k)) none 0).toArray ItemT)) := ((Below.refl _ _).alloc (Nat.le_refl _) _).alloc (by simp) _
          have hnx := LeafI.next (x := Sp.itL (Sp.keyL k)) R.out.hb R.out.hg HL.out HO.out HI.out hk2 hown' hgr' rfl
          rw [← Sp.leafL_succ] at hnx
          have HNX := Lib.hid hnx
          have hbk : ∀ i, v.ownBlock = some i → g + 1 ≤ i := fun i hi => (HO.out.lt i hi).1
          have hL3 : Blk w' g PageT (lfC v) := (HL.out.chg (.of_below hk2 : Chg NoM _ _) id).grown hgr' hbk (by omega)
          have hv3 : w'.cell? ⟨g, 1, none⟩ = some v := hL3.cell 1
          have fv3 := hL3.frozen 1
          clear hnx hL3 hown' hgr' hk2 hbk
          go_wp2_with fail
          go_roundw
          case rel => exact ⟨k + 1, by omega, by go_num, HNX.out⟩
          case measure => simp [intOf]; omega
        · have hkk : k = N := by omega
          subst hkk
          clear HN
          go_upto_region 9 with fail
          go_cut [10] (fun s10 W => s10 = .bool (Sp.gdN k) ∧ LeafI w g (Sp.leafL k) W)
          case first =>
            by_cases hk1 : 1 ≤ k
            all_goals
              go_wp2_with fail
              go_meet
              case rel => exact ⟨congrArg Value.bool (by unfold Sp.gdN; rw [Bool.eq_iff_iff]; simp only [decide_eq_true_eq, Bool.false_eq_true]; constructor <;> intro hh <;> first | exact hh.elim | omega), R.out⟩
          case rest =>
            obtain ⟨rfl, hs⟩ := hcut
            obtain ⟨w4, rfl⟩ : ∃ W, W = wc := ⟨_, rfl⟩
            have S := Lib.hid hs
            clear hs R
            go_upto_if 45 with fail
            go_cut [10] (fun s10 W => ∃ M, M < 12 ∧ s10 = .bool (Sp.isPage (Sp.pgL (Sp.leafA k M))) ∧ LeafI w g (Sp.leafA k M) W)
            case first =>
              rcases k with _ | n
              · go_wp2_with fail
                go_meet
                case rel => exact ⟨0, by omega, congrArg Value.bool Sp.leaf0_no.symm, S.out⟩
              · have hS := S.out
                rw [Sp.leafL_succ] at hS
                obtain ⟨b, c, hv, fv, hc, fc, hpr, hset⟩ := hS.last
                rw [Sp.leafL_len] at hv hc fc hset
                have HS := Lib.hid hset
                clear hset hpr hS
                obtain ⟨M, hM⟩ : ∃ M : Nat, a1 % 12 = (M : Int) := ⟨(a1 % 12).toNat, by omega⟩
                have hM12 : M < 12 := by omega
                have HM := Lib.hid hM
                clear hM
                go_upto_region 11 with fail
                go_cut [11] (fun s11 W => s11 = .int .i64 (M : Int) ∧ W = w4)
                case first =>
                  go_wp2_with fail
                  go_meet
                  case rel => exact ⟨by rw [HM.out], rfl⟩
                case rest =>
                  obtain ⟨rfl, rfl⟩ := hcut
                  clear HM
                  go_wp2_with fail
                  go_loop [12] (fun s => ∃ j : Nat, j ≤ M ∧ s = .string ⟨(Sp.zL j).toArray⟩) (fun s => match s with | .string b => M - b.size | _ => 0)
                  case atStart => exact ⟨0, Nat.zero_le _, rfl⟩
                  case round =>
                    obtain ⟨j, hj, rfl⟩ := hrel
                    have hlz := Sp.zL_len j
                    by_cases hjm : j < M
                    · have HZ := Lib.hid (Sp.zL_succ j)
                      go_wp2_with fail
                      refine ⟨⟨j + 1, by omega, by rw [HZ.out]⟩, ?_⟩
                      show M - ByteArray.size _ < M - ByteArray.size _
                      simp only [ByteArray.size, List.size_toArray, List.length_append, List.length_cons, List.length_nil, hlz]
                      omega
                    · have hjj : j = M := by omega
                      clear hlz
                      subst hjj
                      have hlz := Sp.zL_len j
                      go_upto_region 16 with fail
                      refine wp_gen (fun W => LeafI w g (Sp.leafA (n + 1) j) W) ?_ ?_
                      · exact HS.out (Sp.zL j)
                      intro w5 hs5
                      go_cut [10] (fun s10 W => s10 = .bool (Sp.gdM n j) ∧ W = w5)
                      case first =>
                        have hgd : Sp.gdN (n + 1) = decide (n + 1 ≤ 4) := by unfold Sp.gdN; rw [Bool.eq_iff_iff]; simp
                        have hgm : Sp.gdM n j = (decide (n + 1 ≤ 4) && decide (1 ≤ j ∧ j ≤ 8)) := rfl
                        have HGM := Lib.hid hgm
                        clear hgm
                        rw [hgd]
                        clear hgd
                        by_cases hn4 : n + 1 ≤ 4
                        · have hnd : decide (n + 1 ≤ 4) = true := decide_eq_true hn4
                          rw [hnd] at HGM ⊢
                          by_cases hj1 : 1 ≤ j
                          all_goals
                            go_wp2_with fail
                            go_meet
                            case rel => exact ⟨congrArg Value.bool (by rw [HGM.out, Bool.true_and, Bool.eq_iff_iff]; simp only [decide_eq_true_eq, Bool.false_eq_true]; constructor <;> intro hh <;> first | exact hh.elim | omega), rfl⟩
                        · have hnd : decide (n + 1 ≤ 4) = false := decide_eq_false hn4
                          rw [hnd] at HGM ⊢
                          go_wp2_with fail
                          go_meet
                          case rel => exact ⟨congrArg Value.bool (by rw [HGM.out, Bool.false_and]), rfl⟩
                      case rest =>
                        obtain ⟨rfl, rfl⟩ := hcut
                        go_wp2_with fail
                        go_meet
                        case rel => exact ⟨j, hM12, congrArg Value.bool (Sp.leafA_is n (by omega) j hM12).symm, hs5⟩
            case rest =>
              obtain ⟨M, hM12, rfl, hs⟩ := hcut
              obtain ⟨w5, rfl⟩ : ∃ W, W = wc := ⟨_, rfl⟩
              clear S
              have S := Lib.hid hs
              clear hs
              go_upto_region 17 with fail
              have hcb : ∃ cb : Bool, cb = (a2 && decide (2 ≤ k)) := ⟨_, rfl⟩
              obtain ⟨cb, hcb⟩ := hcb
              have HCB := Lib.hid hcb
              clear hcb
              go_cut [75] (fun s75 W => s75 = .bool cb ∧ W = w5)
              case first =>
                rcases a2 with _ | _
                · go_wp2_with fail
                  go_meet
                  case rel => exact ⟨congrArg Value.bool (by rw [HCB.out, Bool.false_and]), rfl⟩
                · go_wp2_with fail
                  go_meet
                  case rel => exact ⟨congrArg Value.bool (by rw [HCB.out, Bool.true_and, Bool.eq_iff_iff]; simp only [decide_eq_true_eq]; constructor <;> intro hh <;> omega), rfl⟩
              case rest =>
                obtain ⟨rfl, rfl⟩ := hcut
                have hlA : (Sp.leafA k M).length ≤ 6 := by
                  rcases k with _ | n
                  · simp [Sp.leafA]
                  · simp [Sp.leafA, Sp.leafL_len]; omega
                have HLA := Lib.hid hlA
                clear hlA
                go_upto_if 75 with fail
                go_cut [10] (fun s10 W => ∃ l : List Sp.Item, l.length ≤ 6 ∧ s10 = .bool (Sp.isPage (Sp.pgL l)) ∧ LeafI w g l W)
                case first =>
                  rcases hcbq : cb with _ | _
                  · go_wp2_with fail
                    go_meet
                    case rel => exact ⟨Sp.leafA k M, HLA.out, rfl, S.out⟩
                  · have hk2 : 2 ≤ k := by
                      have h := HCB.out
                      rw [hcbq] at h
                      have h2 := h.symm
                      simp only [Bool.and_eq_true, decide_eq_true_eq] at h2
                      exact h2.2
                    clear hcbq
                    obtain ⟨n, rfl⟩ : ∃ n, k = n + 2 := ⟨k - 2, by omega⟩
                    have hS : LeafI w g (Sp.leafL (n + 1) ++ [Sp.itL (Sp.zL M)]) wc := S.out
                    obtain ⟨b, c, hv, fv, hc, fc, hpr, hset⟩ := hS.last
                    have hp2 := hpr n (by rw [Sp.leafL_len]; omega)
                    rw [Sp.leafL_len] at hv hc fc hset
                    have hkn : ((Sp.leafL (n + 1)).getD n Sp.item0).key = Sp.keyL n := by
                      unfold Sp.leafL
                      rw [getD_map' _ _ (by omega)]
                      rfl
                    rw [hkn] at hp2
                    have HS := Lib.hid (hset (Sp.keyL n))
                    clear hset hpr hkn hS
                    go_upto_region 18 with fail
                    go_cut [8] (fun s8 W => s8 = .pointer (some ⟨g, 0, none⟩) ∧ LeafI w g (Sp.leafL (n + 1) ++ [Sp.itL (Sp.keyL n)]) W)
                    case first =>
                      go_region
                      all_goals
                        go_wp2_with fail
                        go_meet
                        case rel => exact ⟨rfl, HS.out.below ((Below.refl _ _).drew)⟩
                    case rest =>
                      obtain ⟨rfl, hs⟩ := hcut
                      go_wp2_with fail
                      go_meet
                      case rel => exact ⟨_, by simp [Sp.leafL_len]; omega, congrArg Value.bool (Sp.leafB_no n (by omega)).symm, hs⟩
                case rest =>
                  obtain ⟨l, hl6, rfl, hs⟩ := hcut
                  obtain ⟨w6, rfl⟩ : ∃ W, W = wc := ⟨_, rfl⟩
                  obtain ⟨r, hbp, hrp⟩ := hs.pg (by omega)
                  have hrng := hrp.rng
                  have S := Lib.hid (⟨hs.hb, hbp, hrp⟩ : OneS w NoM (Sp.pgL l) r g w6)
                  clear hs hbp hrp
                  go_upto_region 20 with fail
                  rcases hgb : Sp.isPage (Sp.pgL l) with _ | _
                  · have HP := Lib.hid hgb
                    clear hgb
                    go_cut [13, 14] (fun s13 s14 W => s14 = .iface 44 (.int .i64 12) ∧ OneS w NoM (Sp.pgL l) r g W)
                    case first =>
                      go_wp2_with (first
                        | (refine wpList_row PageT _ rfl g rfl rfl PageT _ (0, 0) _ S.out.bp Try.underlying32 rfl rfl ?_)
                        | (go_at_call 20; refine (bytes_any (M := NoM) (Sp.pgL l) r _ S.out.rp).mono ?_; rintro e w7 ⟨rfl, hb2⟩; rw [Sp.bytes_no HP.out]; replace S := Lib.hid (S.out.go hb2); clear hb2)
                        | (go_at_call 14; refine (read_any [] _ (by simp)).mono ?_; rintro e w8 ⟨x, rfl, hx, hb2⟩; rw [kn_readV0]; replace S := Lib.hid (S.out.go hb2); clear hb2 hx)
                        | (refine wpList_new PageT _ _ rfl rfl rfl rfl rfl rfl _ rfl (of_decide_eq_true (by kernel_rfl)) (by kernel_rfl) (by kernel_rfl) (by kernel_rfl) ?_))
                      go_meet
                      case rel => exact ⟨rfl, S.out.go ((Below.refl _ _).alloc (Nat.le_refl _) _)⟩
                    case rest =>
                      obtain ⟨rfl, hs⟩ := hcut
                      obtain ⟨w9, rfl⟩ : ∃ W, W = wc := ⟨_, rfl⟩
                      replace S := Lib.hid hs
                      clear hs
                      go_wp2_with (first
                        | (refine wpList_row PageT _ rfl g rfl rfl PageT _ (0, 0) _ S.out.bp Try.underlying32 rfl rfl ?_)
                        | (go_at_call 16; refine (isPage_any (M := NoM) (Sp.pgL l) r _ S.out.rp).mono ?_; rintro e w7 ⟨rfl, hb2⟩; rw [HP.out]; replace S := Lib.hid (S.out.go hb2); clear hb2)
                        | (go_at_call 22; refine (errIs_same 12 _).mono ?_; rintro e w7 ⟨rfl, rfl⟩))
                      go_ret
                      exact ⟨rfl, S.out.hb⟩
                  · have HP := Lib.hid hgb
                    have HOK := Lib.hid (Sp.readOk_bytes hgb hrng)
                    have HPB := Lib.hid (Sp.parse_bytes hgb hrng)
                    have hbl := Sp.bytes_le hgb
                    clear hgb
                    go_cut [13, 14] (fun s13 s14 W => ∃ k x, s13 = .pointer (some ⟨k, 0, none⟩) ∧ s14 = .nilIface ∧ TwoS w NoM (Sp.pgL l) (Sp.pgL l) r x g k W)
                    case first =>
                      go_wp2_with (first
                        | (refine wpList_row PageT _ rfl g rfl rfl PageT _ (0, 0) _ S.out.bp Try.underlying32 rfl rfl ?_)
                        | (go_at_call 20; refine (bytes_any (M := NoM) (Sp.pgL l) r _ S.out.rp).mono ?_; rintro e w7 ⟨rfl, hb2⟩; replace S := Lib.hid (S.out.go hb2); clear hb2)
                        | (go_at_call 14; refine (read_any (Sp.bytes (Sp.pgL l)) _ (by omega)).mono ?_; rintro e w8 ⟨x, rfl, hx, hb2⟩; rw [readV_yes HOK.out, HPB.out]; replace S := Lib.hid (S.out.go hb2); have X := Lib.hid (hx NoM (fun _ _ h => h)); clear hb2 hx)
                        | (refine wpList_new PageT _ _ rfl rfl rfl rfl rfl rfl _ rfl (of_decide_eq_true (by kernel_rfl)) (by kernel_rfl) (by kernel_rfl) (by kernel_rfl) ?_))
                      go_meet
                      case rel =>
                        have hx := X.out
                        rw [readPg_yes HOK.out, HPB.out] at hx
                        exact ⟨_, x, rfl, rfl, TwoS.read S.out hx⟩
                    case rest =>
                      obtain ⟨k', x, rfl, rfl, ht⟩ := hcut
                      obtain ⟨w9, rfl⟩ : ∃ W, W = wc := ⟨_, rfl⟩
                      have T := Lib.hid ht
                      clear ht S
                      go_wp2_with (first
                        | (refine wpList_row PageT _ rfl g rfl rfl PageT _ (0, 0) _ T.out.s.bp Try.underlying32 rfl rfl ?_)
                        | (refine wpList_row PageT _ rfl k' rfl rfl PageT _ (0, 0) _ T.out.bx Try.underlying32 rfl rfl ?_)
                        | (go_at_call 16; refine (isPage_any (M := NoM) (Sp.pgL l) r _ T.out.s.rp).mono ?_; rintro e w7 ⟨rfl, hb2⟩; rw [HP.out]; replace T := Lib.hid (T.out.go hb2); clear hb2)
                        | (go_at_call 18; refine (samePage_any (M := NoM) (N := NoM) (Sp.pgL l) (Sp.pgL l) r x _ T.out.s.rp T.out.rx).mono ?_; rintro e w7 ⟨rfl, hb2⟩; rw [show Sp.samePage (Sp.pgL l) (Sp.pgL l) = true from decide_eq_true rfl]; replace T := Lib.hid (T.out.go hb2); clear hb2))
                      go_ret
                      exact ⟨rfl, T.out.s.hb⟩
end Go.Proofs.Ytienlhckcpfknaa
namespace Go.Proofs.Ytienlhckcpfknaa
open Go.RowKit
attribute [local go_sem low] mk_extract
attribute [local go_sem] After.cell After.frozen mk_extract_end ByteArray.mk_append_mk
namespace Sp
def Cut.dtexts (most : Int) (c : Cut) : List Txt × Cut := eachN textStep (Cut.int most c).1.toNat ([], (Cut.int most c).2)
theorem textStep_len (a : List Txt) (c : Cut) : (textStep a c).2.s.length ≤ c.s.length := c.text_len
theorem Cut.dtexts_len (most : Int) (c : Cut) : (Cut.dtexts most c).2.s.length ≤ c.s.length := Nat.le_trans (eachN_len textStep_len _ _) (Cut.int_len _ _)
end Sp
/-- Values that were read. -/
structure TxI (w : World) (g : Nat) (l : List Txt) (c : Sp.Cut) (v : Value) (W : World) : Prop where
  dc : DCut W g c.s c.bad
  ck : Chg (OneM g) w W
  own : W.ownsRow w.heap.size StrT 1 v l.length (l.map tv)
  hg : g < w.heap.size
  hl : c.s.length ≤ 4611686018427387904
theorem TxI.call {w W W' : World} {g : Nat} {l : List Txt} {c c' : Sp.Cut} {v : Value} (h : TxI w g l c v W) (hc : DCut W' g c'.s c'.bad) (hk : Chg (OneM g) W W') (hl : c'.s.length ≤ c.s.length) : TxI w g l c' v W' :=
  ⟨hc, h.ck.trans hk, own_chg h.own hk (fun k hk e => by unfold OneM at e; have := h.hg; omega), h.hg, Nat.le_trans hl h.hl⟩
theorem TxI.al {w W : World} {g : Nat} {l : List Txt} {c : Sp.Cut} {v : Value} (h : TxI w g l c v W) (o : Obj) : TxI w g l c v (W.alloc o) :=
  ⟨Blk.alloc h.dc _, h.ck.alloc _, h.own.alloc _, h.hg, h.hl⟩
theorem TxI.app {w W W' : World} {g : Nat} {l : List Txt} {c : Sp.Cut} {v v' : Value} {s : Txt} (h : TxI w g l c v W) (ho : W'.ownsRow w.heap.size StrT 1 v' (l.length + 1) (l.map tv ++ [tv s])) (hg : W.grownBy W' v.ownBlock) : TxI w g (l ++ [s]) c v' W' := by
  have hk : Chg (fun k => v.ownBlock = some k) W W' := Chg.of_grown hg (fun k hk => .inl hk)
  exact ⟨DCut.chg h.dc hk (fun e => by have := (h.own.lt _ e).1; have := h.hg; omega), Chg.step hk (fun i hi => .inr (h.own.lt i hi).1) h.ck, by simpa using ho, h.hg, h.hl⟩
set_option maxRecDepth 100000 in
set_option maxHeartbeats 1600000 in
theorem dTexts_any (most : Int) (hm : 0 ≤ most) (hm2 : most ≤ 1000) (g : Nat) (c : Sp.Cut) (w : World) (hs : c.s.length ≤ 4611686018427387904) (hc : DCut w g c.s c.bad) :
    Calls Try.prog 89 #[.pointer (some ⟨g, 0, none⟩), .int .i64 most] w fun e w' => ∃ A cp, e = .returned (.slice A (Sp.Cut.dtexts most c).1.length cp) ∧ TRow w' w.heap.size StrT A ((Sp.Cut.dtexts most c).1.map tv) ∧ DCut w' g (Sp.Cut.dtexts most c).2.s (Sp.Cut.dtexts most c).2.bad ∧ Chg (OneM g) w w' := by
  obtain ⟨i0, hi0, hz0, hz1, hz2⟩ := info_parts info_str
  have hgw := hc.lt
  have hr := Sp.Cut.int_rng most hm c
  have HD := Lib.hid (fun l d' (h : Sp.eachN Sp.textStep (Sp.Cut.int most c).1.toNat ([], (Sp.Cut.int most c).2) = (l, d')) => (show Sp.Cut.dtexts most c = (l, d') from h))
  have Hc := Lib.hid hc
  have HS := Lib.hid hs
  have HIL := Lib.hid (Sp.Cut.int_len most c)
  have HIN := Lib.hid (fun w h => dInt_any most hm (by omega) g c.s c.bad w hs h)
  clear hc hs
  rw [show (⟨c.s, c.bad⟩ : Sp.Cut) = c from rfl] at HIN
  generalize Sp.Cut.int most c = nd at *
  obtain ⟨n, d⟩ := nd
  dsimp only at hr HIL HIN HD
  obtain ⟨hn0, hn1⟩ := hr
  go_enter Try.func89, Try.ntmps89
  go_wp2_with (go_at_call 86; refine (HIN.out _ Hc.out).mono ?_; rintro e w1 ⟨rfl, hc1, hk1⟩; have T0 := Lib.hid (show TxI w g [] d (.slice none 0 0) w1 from ⟨hc1, hk1, World.ownsRow_nil _ _ _ _, hgw, Nat.le_trans HIL.out HS.out⟩); clear hc1 hk1)
  go_loopw [5, 7] (fun v i wr => ∃ (k : Nat) (l : List Txt) (c' : Sp.Cut), (k : Int) ≤ n ∧ i = .int .i64 k ∧ Hid (Sp.eachN Sp.textStep k ([], d) = (l, c') ∧ l.length ≤ k) ∧ TxI w g l c' v wr) (fun _ i _ => (n - intOf i).toNat)
  case atStart => exact ⟨0, [], d, hn0, rfl, ⟨rfl, Nat.le_refl _⟩, T0.out⟩
  case round =>
    obtain ⟨k, l, c', hk, rfl, he, ht⟩ := hrel
    have T := Lib.hid ht
    have q1 := ht.dc.cell 1
    simp at q1
    clear ht T0
    by_cases hlt : (k : Int) < n
    · rcases hb : c'.bad with _ | _
      · rw [hb] at q1
        have HB := Lib.hid hb
        clear hb
        go_wp2_with (first
          | (go_at_call 88; refine (dCutText_any g c'.s c'.bad _ T.out.hl T.out.dc).mono ?_; rintro e w3 ⟨rfl, hc3, hk3⟩; rw [show (⟨c'.s, c'.bad⟩ : Sp.Cut) = c' from rfl] at *; replace T := Lib.hid (T.out.call (c' := c'.text.2) hc3 hk3 c'.text_len); clear hc3 hk3)
          | (at_builtin; refine wpList_append_own _ rfl _ _ 23 rfl w.heap.size StrT i0 _ 1 16 Try.underlying23 hi0 hz0 hz1 hz2 rfl (by decide) _ l.length (l.map tv) rfl ?c0 ⟨w3.heap.size, 0, none⟩ 1 1 [tv c'.text.1] rfl rfl ?c1 ?c2 ?c3 ?c4 ?c5 ?_))
        case c0 => exact (T.out.al _).own
        case c1 => exact news_of w3 [tv c'.text.1].toArray StrT
        case c2 => exact fun u hu => by rw [List.mem_singleton.1 hu]; rfl
        case c3 => have := he.out.2; simp only [maxLen]; omega
        case c4 => have := he.out.2; omega
        case c5 => have := T.out.ck.size; simp; omega
        intro v' w' hown' hgr' _
        obtain ⟨A', cc', hv'⟩ := own_form hown'
        subst hv'
        have hnx := (T.out.al _).app hown' hgr'
        have HNX := Lib.hid hnx
        clear hnx hown' hgr'
        go_wp2_with fail
        go_roundw
        case rel =>
          refine ⟨k + 1, l ++ [c'.text.1], c'.text.2, by omega, by go_num, ⟨?_, ?_⟩, HNX.out⟩
          · rw [Sp.eachN_succ _ _ _ (by rw [he.out.1]; exact HB.out), he.out.1]
            rfl
          · have := he.out.2; simp; omega
        case measure => simp [intOf]; omega
      · rw [hb] at q1
        have HB := Lib.hid hb
        clear hb
        go_wp2_with fail
        obtain ⟨A, cp, hv⟩ := own_form T.out.own
        subst hv
        go_ret
        have hdt := HD.out l c' ((Sp.eachN_end (f := Sp.textStep) (s := ([], d)) (k := k) (n := n.toNat) (by omega) (.inr (by rw [he.out.1]; exact HB.out))).trans he.out.1)
        have hT : TRow wr w.heap.size StrT A ((Sp.Cut.dtexts most c).1.map tv) := by rw [hdt]; exact TRow.of_own T.out.own (by have := he.out.2; simp; omega)
        have hC : DCut wr g (Sp.Cut.dtexts most c).2.s (Sp.Cut.dtexts most c).2.bad := by rw [hdt]; exact T.out.dc
        first
          | exact ⟨A, cp, by rw [hdt]; rfl, hT, hC, T.out.ck⟩
          | exact ⟨A, ⟨cp, by rw [hdt]; rfl⟩, hT, hC, T.out.ck⟩
    · go_wp2_with fail
      obtain ⟨A, cp, hv⟩ := own_form T.out.own
      subst hv
      go_ret
      have hdt := HD.out l c' ((Sp.eachN_end (f := Sp.textStep) (s := ([], d)) (k := k) (n := n.toNat) (by omega) (.inl (by omega))).trans he.out.1)
      have hT : TRow wr w.heap.size StrT A ((Sp.Cut.dtexts most c).1.map tv) := by rw [hdt]; exact TRow.of_own T.out.own (by have := he.out.2; simp; omega)
      have hC : DCut wr g (Sp.Cut.dtexts most c).2.s (Sp.Cut.dtexts most c).2.bad := by rw [hdt]; exact T.out.dc
      first
        | exact ⟨A, cp, by rw [hdt]; rfl, hT, hC, T.out.ck⟩
        | exact ⟨A, ⟨cp, by rw [hdt]; rfl⟩, hT, hC, T.out.ck⟩
end Go.Proofs.Ytienlhckcpfknaa
namespace Go.Proofs.Ytienlhckcpfknaa
open Go.RowKit
attribute [local go_sem low] mk_extract
attribute [local go_sem] After.cell After.frozen mk_extract_end ByteArray.mk_append_mk
namespace Sp
def Cut.ditem (c : Cut) : Item × Cut :=
  if (Cut.int 4 c.text.2).1 = 1 then (⟨c.text.1, (Cut.int 4 c.text.2).1, (Cut.int 4 c.text.2).2.text.1, 0, 0, [], 0, root0⟩, (Cut.int 4 c.text.2).2.text.2)
  else if (Cut.int 4 c.text.2).1 = 2 then (⟨c.text.1, (Cut.int 4 c.text.2).1, [], (Cut.int 400 (Cut.int 4 c.text.2).2).1, (Cut.int 1000 (Cut.int 400 (Cut.int 4 c.text.2).2).2).1, [], 0, root0⟩, (Cut.int 1000 (Cut.int 400 (Cut.int 4 c.text.2).2).2).2)
  else if (Cut.int 4 c.text.2).1 = 3 then (⟨c.text.1, (Cut.int 4 c.text.2).1, [], 0, 0, (Cut.dtexts 3 (Cut.int 4 c.text.2).2).1, (Cut.int 400 (Cut.dtexts 3 (Cut.int 4 c.text.2).2).2).1, root0⟩, (Cut.int 400 (Cut.dtexts 3 (Cut.int 4 c.text.2).2).2).2)
  else if (Cut.int 4 c.text.2).1 = 4 then (⟨c.text.1, (Cut.int 4 c.text.2).1, [], 0, 0, [], 0, (Cut.int 4 c.text.2).2.droot.1⟩, (Cut.int 4 c.text.2).2.droot.2)
  else (⟨c.text.1, (Cut.int 4 c.text.2).1, [], 0, 0, [], 0, root0⟩, (Cut.int 4 c.text.2).2)
theorem Cut.ditem_len (c : Cut) : c.ditem.2.s.length ≤ c.s.length := by
  have h1 : (Cut.int 4 c.text.2).2.s.length ≤ c.s.length := Nat.le_trans (Cut.int_len _ _) c.text_len
  unfold Cut.ditem
  split
  · exact Nat.le_trans (Cut.text_len _) h1
  split
  · exact Nat.le_trans (Cut.int_len _ _) (Nat.le_trans (Cut.int_len _ _) h1)
  split
  · exact Nat.le_trans (Cut.int_len _ _) (Nat.le_trans (Cut.dtexts_len _ _) h1)
  split
  · exact Nat.le_trans (Cut.droot_len _) h1
  · exact h1
end Sp
theorem TRow.keep1 {W W' : World} {base k : Nat} {e t : TypeId} {A : Option Addr} {xs : List Value} {cs : Array Value} (h : TRow W base e A xs) (hk : Chg (OneM k) W W') (hb : Blk W k t cs) (hne : t ≠ e) : TRow W' base e A xs :=
  h.chg hk (fun i _ s cs' hcs => by unfold OneM at s; subst s; exact Blk.not_ hb hne cs' hcs)
theorem chg_setRow1 (w : World) (k : Nat) (cs : Array Value) : Chg (OneM k) w (w.setRow k cs) :=
  ⟨rfl, rfl, rfl, by simp, fun i _ hs => setRow_other w k i cs (fun e => hs e)⟩
set_option maxRecDepth 100000 in
set_option maxHeartbeats 1600000 in
theorem dItem_any (g : Nat) (c : Sp.Cut) (w : World) (hs : c.s.length ≤ 4611686018427387904) (hc : DCut w g c.s c.bad) :
    Calls Try.prog 87 #[.pointer (some ⟨g, 0, none⟩)] w fun e w' => ∃ V cv, e = .returned (.agg (itemV c.ditem.1 V cv).toArray) ∧ TRow w' w.heap.size StrT V (c.ditem.1.vals.map tv) ∧ DCut w' g c.ditem.2.s c.ditem.2.bad ∧ Chg (OneM g) w w' := by
  have hgw := hc.lt
  have hsz0 : w.heap.size < w.heap.size + 1 := by omega
  have P := Lib.hid (show PreS w g c ItemT w.heap.size #[.string ⟨#[]⟩, .int .i64 0, .string ⟨#[]⟩, .int .i64 0, .int .i64 0, .slice none 0 0, .int .i64 0, .int .i64 0, .int .i64 0, .int .i64 0] (w.alloc (.cells #[.string ⟨#[]⟩, .int .i64 0, .string ⟨#[]⟩, .int .i64 0, .int .i64 0, .slice none 0 0, .int .i64 0, .int .i64 0, .int .i64 0, .int .i64 0] ItemT)) from ⟨Blk.alloc hc _, (Chg.refl _ _).alloc _, Blk.new _ _ _, Nat.le_refl _, hgw, hs⟩)
  clear hc hs
  have hkr := Sp.Cut.int_rng 4 (by omega) c.text.2
  have hmk : ∀ (x : Sp.Item) (d : Sp.Cut), c.ditem = (x, d) → ∀ (V : Option Addr) (cv : Nat) (e : Ending) (w' : World), e = .returned (.agg (itemV x V cv).toArray) → TRow w' w.heap.size StrT V (x.vals.map tv) → DCut w' g d.s d.bad → Chg (OneM g) w w' → (∃ V cv, e = .returned (.agg (itemV c.ditem.1 V cv).toArray) ∧ TRow w' w.heap.size StrT V (c.ditem.1.vals.map tv) ∧ DCut w' g c.ditem.2.s c.ditem.2.bad ∧ Chg (OneM g) w w') := fun x d h V cv e w' he ht hd hk => by
    rw [h]
    exact ⟨V, cv, he, ht, hd, hk⟩
  have HMK := Lib.hid hmk
  have hnil : ∀ W, TRow W w.heap.size StrT none [] := fun W => ⟨by simp, .inl rfl⟩
  have HNIL := Lib.hid hnil
  clear hmk hnil
  go_enter Try.func87, Try.ntmps87
  go_upto_region 1 with fail
  go_cut [3] (fun s3 W => ∃ b3, s3 = .pointer (some ⟨b3, 0, none⟩) ∧ MkS w g c.text.2 ItemT w.heap.size #[.string ⟨#[]⟩, .int .i64 0, .string ⟨#[]⟩, .int .i64 0, .int .i64 0, .slice none 0 0, .int .i64 0, .int .i64 0, .int .i64 0, .int .i64 0] b3 #[.string ⟨c.text.1.toArray⟩, .int .i64 0, .string ⟨#[]⟩, .int .i64 0, .int .i64 0, .slice none 0 0, .int .i64 0, .int .i64 0, .int .i64 0, .int .i64 0] W)
  case first =>
    go_wp2_with (first
      | (go_at_call 88; refine (dCutText_any g c.s c.bad _ P.out.hl P.out.dc).mono ?_; rintro e w1 ⟨rfl, hc1, hk1⟩; replace P := Lib.hid (P.out.call (c' := c.text.2) hc1 hk1 c.text_len); clear hc1 hk1)
      | (refine wpList_new ItemT _ _ rfl rfl rfl rfl rfl rfl _ rfl (of_decide_eq_true (by kernel_rfl)) (by kernel_rfl) (by kernel_rfl) (by kernel_rfl) ?_))
    go_meet
    case rel => exact ⟨_, rfl, P.out.new _⟩
  case rest =>
    obtain ⟨b3, rfl, hm⟩ := hcut
    have S := Lib.hid hm
    clear hm P
    obtain ⟨W1, rfl⟩ : ∃ W, W = wc := ⟨_, rfl⟩
    go_upto_region 2 with fail
    go_cut [3] (fun s3 W => s3 = .pointer (some ⟨b3, 0, none⟩) ∧ MkS w g (Sp.Cut.int 4 c.text.2).2 ItemT w.heap.size #[.string ⟨#[]⟩, .int .i64 0, .string ⟨#[]⟩, .int .i64 0, .int .i64 0, .slice none 0 0, .int .i64 0, .int .i64 0, .int .i64 0, .int .i64 0] b3 #[.string ⟨c.text.1.toArray⟩, .int .i64 (Sp.Cut.int 4 c.text.2).1, .string ⟨#[]⟩, .int .i64 0, .int .i64 0, .slice none 0 0, .int .i64 0, .int .i64 0, .int .i64 0, .int .i64 0] W)
    case first =>
      go_wp2_with (go_at_call 86; refine (dInt_any 4 (by omega) (by omega) g _ _ _ S.out.p.hl S.out.p.dc).mono ?_; rintro e w1 ⟨rfl, hc1, hk1⟩; replace S := Lib.hid (S.out.call (c' := (Sp.Cut.int 4 c.text.2).2) hc1 hk1 (Sp.Cut.int_len _ _)); have q1 := S.out.z3.cell 1; have f1 := S.out.z3.frozen 1; simp at q1; clear hc1 hk1)
      go_meet
      case rel => exact ⟨rfl, S.out.set 1 _⟩
    case rest =>
      obtain ⟨rfl, hm⟩ := hcut
      replace S := Lib.hid hm
      clear hm
      obtain ⟨W2, rfl⟩ : ∃ W, W = wc := ⟨_, rfl⟩
      have hdef : c.ditem = c.ditem := rfl
      unfold Sp.Cut.ditem at hdef
      have q0 := S.out.z3.cell 1
      simp at q0
      generalize hkd : Sp.Cut.int 4 c.text.2 = kdc at *
      obtain ⟨kd, c2⟩ := kdc
      clear hdef
      dsimp only at *
      rcases (by omega : kd = 1 ∨ kd = 2 ∨ kd = 3 ∨ kd = 4 ∨ kd = 0) with hk | hk | hk | hk | hk
      · have e1 : (kd == 1) = true := beq_iff_eq.2 hk
        have HDF := Lib.hid (show c.ditem = (⟨c.text.1, kd, c2.text.1, 0, 0, [], 0, Sp.root0⟩, c2.text.2) by unfold Sp.Cut.ditem; rw [if_pos (by rw [hkd]; exact hk)]; rw [hkd])
        clear hk hkd
        go_upto_region 14 with (go_at_call 88; refine (dCutText_any g c2.s c2.bad _ S.out.p.hl S.out.p.dc).mono ?_; rintro e w1 ⟨rfl, hc1, hk1⟩; rw [show (⟨c2.s, c2.bad⟩ : Sp.Cut) = c2 from rfl] at *; replace S := Lib.hid (S.out.call (c' := c2.text.2) hc1 hk1 c2.text_len); have q1 := S.out.z3.cell 2; have f1 := S.out.z3.frozen 2; simp at q1; clear hc1 hk1)
        refine wp_gen (fun W => MkS w g c2.text.2 ItemT w.heap.size #[.string ⟨#[]⟩, .int .i64 0, .string ⟨#[]⟩, .int .i64 0, .int .i64 0, .slice none 0 0, .int .i64 0, .int .i64 0, .int .i64 0, .int .i64 0] b3 #[.string ⟨c.text.1.toArray⟩, .int .i64 kd, .string ⟨c2.text.1.toArray⟩, .int .i64 0, .int .i64 0, .slice none 0 0, .int .i64 0, .int .i64 0, .int .i64 0, .int .i64 0] W) (S.out.set 2 _) ?_
        intro W3 hm
        clear S q0
        try clear q1 f1
        have S := Lib.hid hm
        clear hm
        go_wp2_with (first
          | (refine wpList_row ItemT _ rfl b3 rfl rfl ItemT _ (0, 0) _ S.out.z3 Try.underlying51 rfl rfl ?_)
          | (refine wpList_store_row rfl ItemT _ _ rfl w.heap.size _ rfl rfl ItemT _ S.out.p.z2 (by kernel_rfl) rfl (by kernel_rfl) ?_))
        have hD := S.out.done
        obtain ⟨z0, z1, z2, z3, z4, z5, z6, z7, z8, z9⟩ := hD.2.2.at10.1
        refine bodyPost_ret (v := .agg #[.string ⟨c.text.1.toArray⟩, .int .i64 kd, .string ⟨c2.text.1.toArray⟩, .int .i64 0, .int .i64 0, .slice none 0 0, .int .i64 0, .int .i64 0, .int .i64 0, .int .i64 0]) (by simp [results, Try.results87, go_sem, z0, z1, z2, z3, z4, z5, z6, z7, z8, z9]) rfl (HMK.out _ _ HDF.out none 0 _ _ rfl (HNIL.out _) hD.1 hD.2.1)
      · have e1 : (kd == 1) = false := by rw [beq_eq_false_iff_ne]; omega
        have e2 : (kd == 2) = true := beq_iff_eq.2 hk
        have HDF := Lib.hid (show c.ditem = (⟨c.text.1, kd, [], (Sp.Cut.int 400 c2).1, (Sp.Cut.int 1000 (Sp.Cut.int 400 c2).2).1, [], 0, Sp.root0⟩, (Sp.Cut.int 1000 (Sp.Cut.int 400 c2).2).2) by unfold Sp.Cut.ditem; rw [if_neg (by rw [hkd]; dsimp only; omega), if_pos (by rw [hkd]; exact hk)]; rw [hkd])
        clear hk hkd
        go_upto_region 8 with (go_at_call 86; refine (dInt_any 400 (by omega) (by omega) g _ _ _ S.out.p.hl S.out.p.dc).mono ?_; rintro e w1 ⟨rfl, hc1, hk1⟩; replace S := Lib.hid (S.out.call (c' := (Sp.Cut.int 400 c2).2) hc1 hk1 (Sp.Cut.int_len _ _)); have q1 := S.out.z3.cell 3; have f1 := S.out.z3.frozen 3; simp at q1; clear hc1 hk1)
        refine wp_gen (fun W => MkS w g ((Sp.Cut.int 400 c2).2) ItemT w.heap.size #[.string ⟨#[]⟩, .int .i64 0, .string ⟨#[]⟩, .int .i64 0, .int .i64 0, .slice none 0 0, .int .i64 0, .int .i64 0, .int .i64 0, .int .i64 0] b3 #[.string ⟨c.text.1.toArray⟩, .int .i64 kd, .string ⟨#[]⟩, .int .i64 (Sp.Cut.int 400 c2).1, .int .i64 0, .slice none 0 0, .int .i64 0, .int .i64 0, .int .i64 0, .int .i64 0] W) (S.out.set 3 _) ?_
        intro W3 hm
        clear S
        try clear q0
        try clear q1 f1
        have S := Lib.hid hm
        clear hm
        go_upto_region 14 with (go_at_call 86; refine (dInt_any 1000 (by omega) (by omega) g _ _ _ S.out.p.hl S.out.p.dc).mono ?_; rintro e w1 ⟨rfl, hc1, hk1⟩; replace S := Lib.hid (S.out.call (c' := (Sp.Cut.int 1000 (Sp.Cut.int 400 c2).2).2) hc1 hk1 (Sp.Cut.int_len _ _)); have q1 := S.out.z3.cell 4; have f1 := S.out.z3.frozen 4; simp at q1; clear hc1 hk1)
        refine wp_gen (fun W => MkS w g ((Sp.Cut.int 1000 (Sp.Cut.int 400 c2).2).2) ItemT w.heap.size #[.string ⟨#[]⟩, .int .i64 0, .string ⟨#[]⟩, .int .i64 0, .int .i64 0, .slice none 0 0, .int .i64 0, .int .i64 0, .int .i64 0, .int .i64 0] b3 #[.string ⟨c.text.1.toArray⟩, .int .i64 kd, .string ⟨#[]⟩, .int .i64 (Sp.Cut.int 400 c2).1, .int .i64 (Sp.Cut.int 1000 (Sp.Cut.int 400 c2).2).1, .slice none 0 0, .int .i64 0, .int .i64 0, .int .i64 0, .int .i64 0] W) (S.out.set 4 _) ?_
        intro W3 hm
        clear S
        try clear q0
        try clear q1 f1
        have S := Lib.hid hm
        clear hm
        go_wp2_with (first
          | (refine wpList_row ItemT _ rfl b3 rfl rfl ItemT _ (0, 0) _ S.out.z3 Try.underlying51 rfl rfl ?_)
          | (refine wpList_store_row rfl ItemT _ _ rfl w.heap.size _ rfl rfl ItemT _ S.out.p.z2 (by kernel_rfl) rfl (by kernel_rfl) ?_))
        have hD := S.out.done
        obtain ⟨z0, z1, z2, z3, z4, z5, z6, z7, z8, z9⟩ := hD.2.2.at10.1
        refine bodyPost_ret (v := .agg #[.string ⟨c.text.1.toArray⟩, .int .i64 kd, .string ⟨#[]⟩, .int .i64 (Sp.Cut.int 400 c2).1, .int .i64 (Sp.Cut.int 1000 (Sp.Cut.int 400 c2).2).1, .slice none 0 0, .int .i64 0, .int .i64 0, .int .i64 0, .int .i64 0]) (by simp [results, Try.results87, go_sem, z0, z1, z2, z3, z4, z5, z6, z7, z8, z9]) rfl (HMK.out _ _ HDF.out none 0 _ _ rfl (HNIL.out _) hD.1 hD.2.1)
      · have e1 : (kd == 1) = false := by rw [beq_eq_false_iff_ne]; omega
        have e2 : (kd == 2) = false := by rw [beq_eq_false_iff_ne]; omega
        have e3 : (kd == 3) = true := beq_iff_eq.2 hk
        have HDF := Lib.hid (show c.ditem = (⟨c.text.1, kd, [], 0, 0, (Sp.Cut.dtexts 3 c2).1, (Sp.Cut.int 400 (Sp.Cut.dtexts 3 c2).2).1, Sp.root0⟩, (Sp.Cut.int 400 (Sp.Cut.dtexts 3 c2).2).2) by unfold Sp.Cut.ditem; rw [if_neg (by rw [hkd]; dsimp only; omega), if_neg (by rw [hkd]; dsimp only; omega), if_pos (by rw [hkd]; exact hk)]; rw [hkd])
        clear hk hkd
        go_upto_region 11 with (go_at_call 89; refine (dTexts_any 3 (by omega) (by omega) g c2 _ S.out.p.hl S.out.p.dc).mono ?_; rintro e w1 ⟨A, cp, rfl, htr, hc1, hk1⟩; have HTR := Lib.hid (htr.less S.out.p.ck.size); replace S := Lib.hid (S.out.call (c' := (Sp.Cut.dtexts 3 c2).2) hc1 hk1 (Sp.Cut.dtexts_len _ _)); have q1 := S.out.z3.cell 5; have f1 := S.out.z3.frozen 5; simp at q1; clear hc1 hk1 htr)
        refine wp_gen (fun W => MkS w g (Sp.Cut.dtexts 3 c2).2 ItemT w.heap.size #[.string ⟨#[]⟩, .int .i64 0, .string ⟨#[]⟩, .int .i64 0, .int .i64 0, .slice none 0 0, .int .i64 0, .int .i64 0, .int .i64 0, .int .i64 0] b3 #[.string ⟨c.text.1.toArray⟩, .int .i64 kd, .string ⟨#[]⟩, .int .i64 0, .int .i64 0, .slice A (Sp.Cut.dtexts 3 c2).1.length cp, .int .i64 0, .int .i64 0, .int .i64 0, .int .i64 0] W ∧ TRow W w.heap.size StrT A ((Sp.Cut.dtexts 3 c2).1.map tv)) ⟨S.out.set 5 _, HTR.out.keep1 (Chg.set1 _ b3 5 _) S.out.z3 (by decide)⟩ ?_
        intro W3 hm
        clear S q0 q1 f1 HTR
        have S := Lib.hid hm.1
        have HTR := Lib.hid hm.2
        clear hm
        go_upto_region 14 with (go_at_call 86; refine (dInt_any 400 (by omega) (by omega) g _ _ _ S.out.p.hl S.out.p.dc).mono ?_; rintro e w1 ⟨rfl, hc1, hk1⟩; have HTR := Lib.hid (HTR.out.chg hk1 (fun k hk e => by unfold OneM at e; omega)); replace S := Lib.hid (S.out.call (c' := (Sp.Cut.int 400 (Sp.Cut.dtexts 3 c2).2).2) hc1 hk1 (Sp.Cut.int_len _ _)); have q1 := S.out.z3.cell 6; have f1 := S.out.z3.frozen 6; simp at q1; clear hc1 hk1)
        refine wp_gen (fun W => MkS w g (Sp.Cut.int 400 (Sp.Cut.dtexts 3 c2).2).2 ItemT w.heap.size #[.string ⟨#[]⟩, .int .i64 0, .string ⟨#[]⟩, .int .i64 0, .int .i64 0, .slice none 0 0, .int .i64 0, .int .i64 0, .int .i64 0, .int .i64 0] b3 #[.string ⟨c.text.1.toArray⟩, .int .i64 kd, .string ⟨#[]⟩, .int .i64 0, .int .i64 0, .slice A (Sp.Cut.dtexts 3 c2).1.length cp, .int .i64 (Sp.Cut.int 400 (Sp.Cut.dtexts 3 c2).2).1, .int .i64 0, .int .i64 0, .int .i64 0] W ∧ TRow W w.heap.size StrT A ((Sp.Cut.dtexts 3 c2).1.map tv)) ⟨S.out.set 6 _, HTR.out.keep1 (Chg.set1 _ b3 6 _) S.out.z3 (by decide)⟩ ?_
        intro W4 hm
        clear S q1 f1 HTR
        have S := Lib.hid hm.1
        have HTR := Lib.hid hm.2
        clear hm
        go_wp2_with (first
          | (refine wpList_row ItemT _ rfl b3 rfl rfl ItemT _ (0, 0) _ S.out.z3 Try.underlying51 rfl rfl ?_)
          | (refine wpList_store_row rfl ItemT _ _ rfl w.heap.size _ rfl rfl ItemT _ S.out.p.z2 (by kernel_rfl) rfl (by kernel_rfl) ?_))
        have hD := S.out.done
        obtain ⟨z0, z1, z2, z3, z4, z5, z6, z7, z8, z9⟩ := hD.2.2.at10.1
        refine bodyPost_ret (v := .agg #[.string ⟨c.text.1.toArray⟩, .int .i64 kd, .string ⟨#[]⟩, .int .i64 0, .int .i64 0, .slice A (Sp.Cut.dtexts 3 c2).1.length cp, .int .i64 (Sp.Cut.int 400 (Sp.Cut.dtexts 3 c2).2).1, .int .i64 0, .int .i64 0, .int .i64 0]) (by simp [results, Try.results87, go_sem, z0, z1, z2, z3, z4, z5, z6, z7, z8, z9]) rfl (HMK.out _ _ HDF.out A cp _ _ rfl (HTR.out.keep1 (chg_setRow1 _ _ _) S.out.p.z2 (by decide)) hD.1 hD.2.1)
      · have e1 : (kd == 1) = false := by rw [beq_eq_false_iff_ne]; omega
        have e2 : (kd == 2) = false := by rw [beq_eq_false_iff_ne]; omega
        have e3 : (kd == 3) = false := by rw [beq_eq_false_iff_ne]; omega
        have e4 : (kd == 4) = true := beq_iff_eq.2 hk
        have HDF := Lib.hid (show c.ditem = (⟨c.text.1, kd, [], 0, 0, [], 0, c2.droot.1⟩, c2.droot.2) by unfold Sp.Cut.ditem; rw [if_neg (by rw [hkd]; dsimp only; omega), if_neg (by rw [hkd]; dsimp only; omega), if_neg (by rw [hkd]; dsimp only; omega), if_pos (by rw [hkd]; exact hk)]; rw [hkd])
        clear hk hkd
        go_upto_region 14 with (go_at_call 91; refine (dRoot_any g c2 _ S.out.p.hl S.out.p.dc).mono ?_; rintro e w1 ⟨rfl, hc1, hk1⟩; replace S := Lib.hid (S.out.call (c' := c2.droot.2) hc1 hk1 (Sp.Cut.droot_len _)); have q1 := S.out.z3.cell 7; have f1 := S.out.z3.frozen 7; have q2 := S.out.z3.cell 8; have f2 := S.out.z3.frozen 8; have q3 := S.out.z3.cell 9; have f3 := S.out.z3.frozen 9; simp at q1 q2 q3; clear hc1 hk1; simp only [rootV])
        refine wp_gen (fun W => MkS w g (c2.droot.2) ItemT w.heap.size #[.string ⟨#[]⟩, .int .i64 0, .string ⟨#[]⟩, .int .i64 0, .int .i64 0, .slice none 0 0, .int .i64 0, .int .i64 0, .int .i64 0, .int .i64 0] b3 #[.string ⟨c.text.1.toArray⟩, .int .i64 kd, .string ⟨#[]⟩, .int .i64 0, .int .i64 0, .slice none 0 0, .int .i64 0, .int .i64 c2.droot.1.page, .int .i64 c2.droot.1.count, .int .i64 c2.droot.1.flags] W) (((S.out.set 7 _).set 8 _).set 9 _) ?_
        intro W3 hm
        clear S
        try clear q0
        try clear q1 f1 q2 f2 q3 f3
        have S := Lib.hid hm
        clear hm
        go_wp2_with (first
          | (refine wpList_row ItemT _ rfl b3 rfl rfl ItemT _ (0, 0) _ S.out.z3 Try.underlying51 rfl rfl ?_)
          | (refine wpList_store_row rfl ItemT _ _ rfl w.heap.size _ rfl rfl ItemT _ S.out.p.z2 (by kernel_rfl) rfl (by kernel_rfl) ?_))
        have hD := S.out.done
        obtain ⟨z0, z1, z2, z3, z4, z5, z6, z7, z8, z9⟩ := hD.2.2.at10.1
        refine bodyPost_ret (v := .agg #[.string ⟨c.text.1.toArray⟩, .int .i64 kd, .string ⟨#[]⟩, .int .i64 0, .int .i64 0, .slice none 0 0, .int .i64 0, .int .i64 c2.droot.1.page, .int .i64 c2.droot.1.count, .int .i64 c2.droot.1.flags]) (by simp [results, Try.results87, go_sem, z0, z1, z2, z3, z4, z5, z6, z7, z8, z9]) rfl (HMK.out _ _ HDF.out none 0 _ _ rfl (HNIL.out _) hD.1 hD.2.1)
      · have e1 : (kd == 1) = false := by rw [beq_eq_false_iff_ne]; omega
        have e2 : (kd == 2) = false := by rw [beq_eq_false_iff_ne]; omega
        have e3 : (kd == 3) = false := by rw [beq_eq_false_iff_ne]; omega
        have e4 : (kd == 4) = false := by rw [beq_eq_false_iff_ne]; omega
        have HDF := Lib.hid (show c.ditem = (⟨c.text.1, kd, [], 0, 0, [], 0, Sp.root0⟩, c2) by unfold Sp.Cut.ditem; rw [if_neg (by rw [hkd]; dsimp only; omega), if_neg (by rw [hkd]; dsimp only; omega), if_neg (by rw [hkd]; dsimp only; omega), if_neg (by rw [hkd]; dsimp only; omega)]; rw [hkd])
        clear hk hkd
        go_upto_region 14 with fail
        go_wp2_with (first
          | (refine wpList_row ItemT _ rfl b3 rfl rfl ItemT _ (0, 0) _ S.out.z3 Try.underlying51 rfl rfl ?_)
          | (refine wpList_store_row rfl ItemT _ _ rfl w.heap.size _ rfl rfl ItemT _ S.out.p.z2 (by kernel_rfl) rfl (by kernel_rfl) ?_))
        have hD := S.out.done
        obtain ⟨z0, z1, z2, z3, z4, z5, z6, z7, z8, z9⟩ := hD.2.2.at10.1
        refine bodyPost_ret (v := .agg #[.string ⟨c.text.1.toArray⟩, .int .i64 kd, .string ⟨#[]⟩, .int .i64 0, .int .i64 0, .slice none 0 0, .int .i64 0, .int .i64 0, .int .i64 0, .int .i64 0]) (by simp [results, Try.results87, go_sem, z0, z1, z2, z3, z4, z5, z6, z7, z8, z9]) rfl (HMK.out _ _ HDF.out none 0 _ _ rfl (HNIL.out _) hD.1 hD.2.1)
end Go.Proofs.Ytienlhckcpfknaa
