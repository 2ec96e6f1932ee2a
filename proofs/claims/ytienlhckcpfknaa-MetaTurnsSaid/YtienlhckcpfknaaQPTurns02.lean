/- MetaLater: of two right metas in their places the later one counts: the walk. A meta, a text, a row of bools that come in. MetaTurns: versions are written by turns: the walk. MetaTurns: whatever the input: true; the input reads as it did. -/
import Derived.Test.YtienlhckcpfknaaQPTurns01
import Derived.Deep.Grids
import Derived.SizedLaws
set_option linter.unusedSimpArgs false
set_option linter.unusedVariables false
namespace Go.Proofs.Ytienlhckcpfknaa
open Go.RowKit
attribute [local go_sem low] mk_extract
attribute [local go_sem] After.cell After.frozen mk_extract_end ByteArray.mk_append_mk
structure LtS (W0 : World) (m n : Sp.Mt) (w : World) : Prop where
  hb : Below W0.heap.size W0 w
  bm : Blk w W0.heap.size MetaT (mtV m).toArray
  bn : Blk w (W0.heap.size + 1) MetaT (mtV n).toArray
theorem LtS.go {W0 : World} {m n : Sp.Mt} {w w' : World} (k : LtS W0 m n w) (hb : Below w.heap.size w w') : LtS W0 m n w' :=
  ⟨k.hb.trans (hb.mono k.hb.size), k.bm.below hb k.bm.lt, k.bn.below hb k.bn.lt⟩
theorem LtS.start (m n : Sp.Mt) (w : World) : LtS w m n ((w.alloc (.cells (mtV m).toArray MetaT)).alloc (.cells (mtV n).toArray MetaT)) :=
  ⟨((Below.refl _ _).alloc (Nat.le_refl _) _).alloc (by simp) _, (Blk.new w _ _).alloc _, blk_second w _ _ _⟩
theorem LtS.al {W0 : World} {m n : Sp.Mt} {w : World} (k : LtS W0 m n w) (o : Obj) : LtS W0 m n (w.alloc o) := k.go ((Below.refl _ _).alloc (Nat.le_refl _) _)
structure LtT (W0 : World) (m n x : Sp.Mt) (g : Nat) (w : World) : Prop where
  s : LtS W0 m n w
  bx : Blk w g MetaT (mtV x).toArray
  hg : W0.heap.size + 2 ≤ g
theorem LtT.go {W0 : World} {m n x : Sp.Mt} {g : Nat} {w w' : World} (k : LtT W0 m n x g w) (hb : Below w.heap.size w w') : LtT W0 m n x g w' :=
  ⟨k.s.go hb, k.bx.below hb k.bx.lt, k.hg⟩
theorem LtT.al {W0 : World} {m n x : Sp.Mt} {g : Nat} {w : World} (k : LtT W0 m n x g w) (o : Obj) : LtT W0 m n x g (w.alloc o) := k.go ((Below.refl _ _).alloc (Nat.le_refl _) _)
theorem LtT.new {W0 : World} {m n : Sp.Mt} {w : World} (k : LtS W0 m n w) (x : Sp.Mt) : LtT W0 m n x w.heap.size (w.alloc (.cells (mtV x).toArray MetaT)) :=
  ⟨k.al _, Blk.new _ _ _, by have := k.bn.lt; omega⟩
theorem LtT.put {W0 : World} {m n x : Sp.Mt} {g : Nat} {w : World} (k : LtT W0 m n x g w) (y : Sp.Mt) : LtT W0 m n y g (w.setRow g (mtV y).toArray) := by
  have hm := k.s.bm
  have hn := k.s.bn
  have hg := k.hg
  unfold Blk at hm hn
  exact ⟨⟨below_setRow k.s.hb (by omega) _, (setRow_other w g _ _ (by omega)).trans hm, (setRow_other w g _ _ (by omega)).trans hn⟩, k.bx.row, k.hg⟩
theorem LtT.put6 {W0 : World} {m n x : Sp.Mt} {g : Nat} {w : World} (k : LtT W0 m n x g w) (y : Sp.Mt) : LtT W0 m n y g ((((((w.setCell ⟨g, 0, none⟩ (.int .u64 y.txn)).setCell ⟨g, 1, none⟩ (.int .i64 y.main.page)).setCell ⟨g, 2, none⟩ (.int .i64 y.main.count)).setCell ⟨g, 3, none⟩ (.int .i64 y.main.flags)).setCell ⟨g, 4, none⟩ (.int .i64 y.free)).setCell ⟨g, 5, none⟩ (.int .i64 y.last)) := by
  have hg := k.hg
  have h1 : ∀ {W : World} (i : Nat) (v : Value), Below W0.heap.size W0 W → Below W0.heap.size W0 (W.setCell ⟨g, i, none⟩ v) := fun i v h => h.setCell (p := ⟨g, i, none⟩) (by show _ ≤ g; omega) v
  have h2 : ∀ {W : World} (i : Nat) (v : Value) {q : Nat} {cs : Array Value}, q ≠ g → Blk W q MetaT cs → Blk (W.setCell ⟨g, i, none⟩ v) q MetaT cs := fun i v _ _ hq h => Blk.far h (p := ⟨g, i, none⟩) hq v
  refine ⟨⟨?_, ?_, ?_⟩, ?_, hg⟩
  · exact h1 _ _ (h1 _ _ (h1 _ _ (h1 _ _ (h1 _ _ (h1 _ _ k.s.hb)))))
  · exact h2 _ _ (by omega) (h2 _ _ (by omega) (h2 _ _ (by omega) (h2 _ _ (by omega) (h2 _ _ (by omega) (h2 _ _ (by omega) k.s.bm)))))
  · exact h2 _ _ (by omega) (h2 _ _ (by omega) (h2 _ _ (by omega) (h2 _ _ (by omega) (h2 _ _ (by omega) (h2 _ _ (by omega) k.s.bn)))))
  · exact (((((k.bx.set_ 0 _).set_ 1 _).set_ 2 _).set_ 3 _).set_ 4 _).set_ 5 _
namespace Sp
theorem metaB_le (m : Mt) : (metaB m).length ≤ 100 := by
  rcases h : isMt m with _ | _
  · rw [metaB_no h]; simp
  · rw [metaB, bytes_of (pgM_is h)]
    simp [body, partsB, pgM, mtB, le8_length, rootB_len]
theorem metaB_cons {m : Mt} (h : isMt m = true) : ∃ b s, metaB m = b :: s := by
  rcases hq : metaB m with _ | ⟨b, s⟩
  · exact absurd hq (metaB_ne h)
  · exact ⟨b, s, rfl⟩
end Sp
set_option maxRecDepth 100000 in
set_option maxHeartbeats 6400000 in
theorem later_walk (m n : Sp.Mt) (a2 : Int) (hm : 0 ≤ m.txn ∧ m.txn < 18446744073709551616) (hn : 0 ≤ n.txn ∧ n.txn < 18446744073709551616) (h2 : 0 ≤ a2 ∧ a2 ≤ 255) (w : World) :
    Calls Try.prog 10 #[.agg (mtV m).toArray, .agg (mtV n).toArray, .int .u8 a2] w fun e w' => e = .returned (.bool true) ∧ Below w.heap.size w w' := by
  have S := Lib.hid (LtS.start m n w)
  have HM := Lib.hid hm
  have HN := Lib.hid hn
  clear hm hn
  simp only [mtV] at *
  go_enter Try.func10, Try.ntmps10
  go_upto_region 3 with (go_at_call 25; refine (known3_any _).mono ?_; rintro e w1 ⟨rfl, hb1⟩; replace S := Lib.hid (S.out.go hb1); clear hb1)
  go_cut [7, 8] (fun s7 s8 W => s7 = .string ⟨(Sp.metaB m).toArray⟩ ∧ s8 = .string ⟨(Sp.metaB n).toArray⟩ ∧ LtS w m n W)
  case first =>
    have C1 := Lib.hid (fun (w' : World) => metaBytes_any m w' HM.out)
    have C2 := Lib.hid (fun (w' : World) => metaBytes_any n w' HN.out)
    refine wp_region_row (by kernel_rfl) (by kernel_rfl) ?_
    repeat (first | go_big_quiet_skip | (refine wpQuiet_row MetaT _ rfl w.heap.size rfl rfl MetaT _ (0, 0) _ (blk_after S.out.bm) Try.underlying30 rfl rfl ?_; simp only [Act.put, List.setIfInBounds_toArray, List.set_cons_succ, List.set_cons_zero]) | (refine wpQuiet_row MetaT _ rfl (w.heap.size + 1) rfl rfl MetaT _ (0, 0) _ (blk_after S.out.bn) Try.underlying30 rfl rfl ?_; simp only [Act.put, List.setIfInBounds_toArray, List.set_cons_succ, List.set_cons_zero]) | (go_big_quiet_step (first | (go_at_call_of 28 m; exact after_call (Nat.le_refl _) (C1.out _)) | (go_at_call_of 28 n; exact after_call (Nat.le_refl _) (C2.out _)))))
    refine wpQuiet_nil ?_
    intro w2 hb2
    go_wp2_with fail
    go_meet
    case rel => exact ⟨rfl, rfl, S.out.go hb2⟩
  case rest =>
    obtain ⟨rfl, rfl, hs⟩ := hcut
    replace S := Lib.hid hs
    clear hs
    obtain ⟨W, rfl⟩ : ∃ W, W = wc := ⟨_, rfl⟩
    rcases him : Sp.isMt m with _ | _
    · rw [Sp.metaB_no him]
      go_wp2_with fail
      go_ret
      exact ⟨rfl, S.out.hb⟩
    rcases hin : Sp.isMt n with _ | _
    · rw [Sp.metaB_no hin]
      obtain ⟨b0, s0, hbs⟩ := Sp.metaB_cons him
      rw [hbs]
      go_wp2_with fail
      go_ret
      exact ⟨rfl, S.out.hb⟩
    have hea : (Sp.metaB m).isEmpty = false := List.isEmpty_eq_false_iff.2 (Sp.metaB_ne him)
    have heb : (Sp.metaB n).isEmpty = false := List.isEmpty_eq_false_iff.2 (Sp.metaB_ne hin)
    go_upto_region 6 with fail
    clear hea heb
    have hla : (Sp.metaB m).length ≤ 100 := Sp.metaB_le m
    have hlb : (Sp.metaB n).length ≤ 100 := Sp.metaB_le n
    have hra := fun i => Sp.right_metaB him HM.out i
    have hrb := fun i => Sp.right_metaB hin HN.out i
    have HRA := Lib.hid hra
    have HRB := Lib.hid hrb
    have HDA := Lib.hid (Sp.right_drop him 0)
    have HMB := Lib.hid (Sp.right_more hin HN.out (t := [122]) (by simp) 1)
    have HLA1 := Lib.hid (Sp.metaB_len him)
    clear hra hrb him hin
    generalize Sp.metaB m = a at *
    generalize Sp.metaB n = b at *
    have cm0 : W.cell? ⟨w.heap.size, 0, none⟩ = some (.int .u64 m.txn) := S.out.bm.cell 0
    have cn0 : W.cell? ⟨w.heap.size + 1, 0, none⟩ = some (.int .u64 n.txn) := S.out.bn.cell 0
    have hm0 := HM.out.1
    have hn0 := HN.out.1
    by_cases hmo : m.txn % 2 = 0
    · have hmo1 : (m.txn % 2 == 0) = true := beq_iff_eq.2 hmo
      by_cases hno : n.txn % 2 = 1
      · have hno1 : (n.txn % 2 == 1) = true := beq_iff_eq.2 hno
        go_upto_region 13 with fail
        clear cm0 cn0
        have hA : Sp.right a 0 = some m := by rw [HRA.out, if_pos hmo]
        have hB : Sp.right b 1 = some n := by rw [HRB.out, if_pos hno]
        have HA := Lib.hid hA
        have HB := Lib.hid hB
        clear hA hB hmo hno hmo1 hno1 HRA HRB
        go_cut [15] (fun s15 W => ∃ g, s15 = .pointer (some ⟨g, 0, none⟩) ∧ LtT w m n m g W)
        case first =>
          go_wp2_with (first
            | (refine wpList_row MetaT _ rfl w.heap.size rfl rfl MetaT _ (0, 0) _ S.out.bm Try.underlying30 rfl rfl ?_)
            | (refine wpList_new MetaT _ _ rfl rfl rfl rfl rfl rfl _ rfl (of_decide_eq_true (by kernel_rfl)) (by kernel_rfl) (by kernel_rfl) (by kernel_rfl) ?_))
          go_meet
          case rel => exact ⟨_, rfl, LtT.new S.out _⟩
        case rest =>
          obtain ⟨g, rfl, ht⟩ := hcut
          have T := Lib.hid ht
          clear ht S
          obtain ⟨W2, rfl⟩ : ∃ W, W = wc := ⟨_, rfl⟩
          have cm0 : W2.cell? ⟨w.heap.size, 0, none⟩ = some (.int .u64 m.txn) := T.out.s.bm.cell 0
          have cn0 : W2.cell? ⟨w.heap.size + 1, 0, none⟩ = some (.int .u64 n.txn) := T.out.s.bn.cell 0
          by_cases hgt : m.txn < n.txn
          · have HX := Lib.hid (show Sp.two (some m) (some n) = some n by simp [Sp.two, hgt])
            go_upto_region 16 with (first
              | (refine wpList_row MetaT _ rfl (w.heap.size + 1) rfl rfl MetaT _ (0, 0) _ T.out.s.bn Try.underlying30 rfl rfl ?_)
              | (refine wpList_store_row rfl MetaT _ _ rfl g _ rfl rfl MetaT _ T.out.bx (by kernel_rfl) rfl (by kernel_rfl) ?_))
            replace T := Lib.hid (T.out.put n)
            clear cm0 cn0 hgt
            generalize W2.setRow g (mtV n).toArray = W3 at *
            rcases (by omega : a2 % 3 = 0 ∨ a2 % 3 = 1 ∨ a2 % 3 = 2) with h3 | h3 | h3
            · have HCH := Lib.hid (show Sp.choose a b = some n by rw [Sp.choose_eq, HA.out, HB.out]; exact HX.out)
              go_upto_region 20 with fail
              go_cut [16, 17] (fun s16 s17 W => ∃ k, s16 = .pointer (some ⟨k, 0, none⟩) ∧ s17 = .nilIface ∧ LtT w m n (n) g W ∧ Blk W k MetaT (mtV (n)).toArray)
              case first =>
                go_wp2_with (first
                  | (go_at_call 26; refine (choose_any (a) (b) _ (by omega) (by omega)).mono ?_; rintro e w7 ⟨rfl, hb2⟩; rw [HCH.out, chooseV]; replace T := Lib.hid (T.out.go hb2); clear hb2)
                  | (refine wpList_new MetaT _ _ rfl rfl rfl rfl rfl rfl _ rfl (of_decide_eq_true (by kernel_rfl)) (by kernel_rfl) (by kernel_rfl) (by kernel_rfl) ?_))
                go_meet
                case rel => exact ⟨_, rfl, rfl, T.out.al _, Blk.new _ _ _⟩
              case rest =>
                obtain ⟨k, rfl, rfl, ht, hbk⟩ := hcut
                replace T := Lib.hid ht
                have K := Lib.hid hbk
                clear ht hbk HCH
                obtain ⟨W5, rfl⟩ : ∃ W, W = wc := ⟨_, rfl⟩
                have hq := fun W => (eqMt (n) (n) W).trans (by rw [decide_eq_true rfl])
                go_wp2_with (first
                  | (refine wpList_row MetaT _ rfl g rfl rfl MetaT _ (0, 0) _ T.out.bx Try.underlying30 rfl rfl ?_)
                  | (refine wpList_row MetaT _ rfl k rfl rfl MetaT _ (0, 0) _ K.out Try.underlying30 rfl rfl ?_))
                go_ret
                exact ⟨rfl, T.out.s.hb⟩

            · have HCH := Lib.hid (show Sp.choose (a.tail) b = some n by rw [← List.drop_one, Sp.choose_eq, HDA.out, HB.out]; rfl)
              go_upto_region 17 with fail
              obtain ⟨x0, x1, x2, x3, x4, x5⟩ := T.out.s.bn.at6
              have ⟨z0, z1, z2, z3, z4, z5⟩ := T.out.bx.at6
              have f0 := T.out.bx.frozen
              have hl1 := HLA1.out
              go_region
              replace T := Lib.hid ((T.out.put6 n).go ((Below.refl _ _).drew))
              clear x0 x1 x2 x3 x4 x5 z0 z1 z2 z3 z4 z5 f0 hl1
              go_upto_region 20 with fail
              go_cut [16, 17] (fun s16 s17 W => ∃ k, s16 = .pointer (some ⟨k, 0, none⟩) ∧ s17 = .nilIface ∧ LtT w m n (n) g W ∧ Blk W k MetaT (mtV (n)).toArray)
              case first =>
                go_wp2_with (first
                  | (go_at_call 26; refine (choose_any (a.tail) (b) _ (by simp; omega) (by omega)).mono ?_; rintro e w7 ⟨rfl, hb2⟩; rw [HCH.out, chooseV]; replace T := Lib.hid (T.out.go hb2); clear hb2)
                  | (refine wpList_new MetaT _ _ rfl rfl rfl rfl rfl rfl _ rfl (of_decide_eq_true (by kernel_rfl)) (by kernel_rfl) (by kernel_rfl) (by kernel_rfl) ?_))
                go_meet
                case rel => exact ⟨_, rfl, rfl, T.out.al _, Blk.new _ _ _⟩
              case rest =>
                obtain ⟨k, rfl, rfl, ht, hbk⟩ := hcut
                replace T := Lib.hid ht
                have K := Lib.hid hbk
                clear ht hbk HCH
                obtain ⟨W5, rfl⟩ : ∃ W, W = wc := ⟨_, rfl⟩
                have hq := fun W => (eqMt (n) (n) W).trans (by rw [decide_eq_true rfl])
                go_wp2_with (first
                  | (refine wpList_row MetaT _ rfl g rfl rfl MetaT _ (0, 0) _ T.out.bx Try.underlying30 rfl rfl ?_)
                  | (refine wpList_row MetaT _ rfl k rfl rfl MetaT _ (0, 0) _ K.out Try.underlying30 rfl rfl ?_))
                go_ret
                exact ⟨rfl, T.out.s.hb⟩

            · have HCH := Lib.hid (show Sp.choose a (b ++ [122]) = some m by rw [Sp.choose_eq, HA.out, HMB.out]; rfl)
              go_upto_region 19 with fail
              obtain ⟨x0, x1, x2, x3, x4, x5⟩ := T.out.s.bm.at6
              have ⟨z0, z1, z2, z3, z4, z5⟩ := T.out.bx.at6
              have f0 := T.out.bx.frozen
              have hl1 := HLA1.out
              go_region
              replace T := Lib.hid ((T.out.put6 m).go ((Below.refl _ _).drew))
              clear x0 x1 x2 x3 x4 x5 z0 z1 z2 z3 z4 z5 f0 hl1
              go_upto_region 20 with fail
              go_cut [16, 17] (fun s16 s17 W => ∃ k, s16 = .pointer (some ⟨k, 0, none⟩) ∧ s17 = .nilIface ∧ LtT w m n (m) g W ∧ Blk W k MetaT (mtV (m)).toArray)
              case first =>
                go_wp2_with (first
                  | (go_at_call 26; refine (choose_any (a) (b ++ [122]) _ (by omega) (by simp; omega)).mono ?_; rintro e w7 ⟨rfl, hb2⟩; rw [HCH.out, chooseV]; replace T := Lib.hid (T.out.go hb2); clear hb2)
                  | (refine wpList_new MetaT _ _ rfl rfl rfl rfl rfl rfl _ rfl (of_decide_eq_true (by kernel_rfl)) (by kernel_rfl) (by kernel_rfl) (by kernel_rfl) ?_))
                go_meet
                case rel => exact ⟨_, rfl, rfl, T.out.al _, Blk.new _ _ _⟩
              case rest =>
                obtain ⟨k, rfl, rfl, ht, hbk⟩ := hcut
                replace T := Lib.hid ht
                have K := Lib.hid hbk
                clear ht hbk HCH
                obtain ⟨W5, rfl⟩ : ∃ W, W = wc := ⟨_, rfl⟩
                have hq := fun W => (eqMt (m) (m) W).trans (by rw [decide_eq_true rfl])
                go_wp2_with (first
                  | (refine wpList_row MetaT _ rfl g rfl rfl MetaT _ (0, 0) _ T.out.bx Try.underlying30 rfl rfl ?_)
                  | (refine wpList_row MetaT _ rfl k rfl rfl MetaT _ (0, 0) _ K.out Try.underlying30 rfl rfl ?_))
                go_ret
                exact ⟨rfl, T.out.s.hb⟩

          · have HX := Lib.hid (show Sp.two (some m) (some n) = some m by simp [Sp.two, hgt])
            go_upto_region 16 with fail
            clear cm0 cn0 hgt
            rcases (by omega : a2 % 3 = 0 ∨ a2 % 3 = 1 ∨ a2 % 3 = 2) with h3 | h3 | h3
            · have HCH := Lib.hid (show Sp.choose a b = some m by rw [Sp.choose_eq, HA.out, HB.out]; exact HX.out)
              go_upto_region 20 with fail
              go_cut [16, 17] (fun s16 s17 W => ∃ k, s16 = .pointer (some ⟨k, 0, none⟩) ∧ s17 = .nilIface ∧ LtT w m n (m) g W ∧ Blk W k MetaT (mtV (m)).toArray)
              case first =>
                go_wp2_with (first
                  | (go_at_call 26; refine (choose_any (a) (b) _ (by omega) (by omega)).mono ?_; rintro e w7 ⟨rfl, hb2⟩; rw [HCH.out, chooseV]; replace T := Lib.hid (T.out.go hb2); clear hb2)
                  | (refine wpList_new MetaT _ _ rfl rfl rfl rfl rfl rfl _ rfl (of_decide_eq_true (by kernel_rfl)) (by kernel_rfl) (by kernel_rfl) (by kernel_rfl) ?_))
                go_meet
                case rel => exact ⟨_, rfl, rfl, T.out.al _, Blk.new _ _ _⟩
              case rest =>
                obtain ⟨k, rfl, rfl, ht, hbk⟩ := hcut
                replace T := Lib.hid ht
                have K := Lib.hid hbk
                clear ht hbk HCH
                obtain ⟨W5, rfl⟩ : ∃ W, W = wc := ⟨_, rfl⟩
                have hq := fun W => (eqMt (m) (m) W).trans (by rw [decide_eq_true rfl])
                go_wp2_with (first
                  | (refine wpList_row MetaT _ rfl g rfl rfl MetaT _ (0, 0) _ T.out.bx Try.underlying30 rfl rfl ?_)
                  | (refine wpList_row MetaT _ rfl k rfl rfl MetaT _ (0, 0) _ K.out Try.underlying30 rfl rfl ?_))
                go_ret
                exact ⟨rfl, T.out.s.hb⟩

            · have HCH := Lib.hid (show Sp.choose (a.tail) b = some n by rw [← List.drop_one, Sp.choose_eq, HDA.out, HB.out]; rfl)
              go_upto_region 17 with fail
              obtain ⟨x0, x1, x2, x3, x4, x5⟩ := T.out.s.bn.at6
              have ⟨z0, z1, z2, z3, z4, z5⟩ := T.out.bx.at6
              have f0 := T.out.bx.frozen
              have hl1 := HLA1.out
              go_region
              replace T := Lib.hid ((T.out.put6 n).go ((Below.refl _ _).drew))
              clear x0 x1 x2 x3 x4 x5 z0 z1 z2 z3 z4 z5 f0 hl1
              go_upto_region 20 with fail
              go_cut [16, 17] (fun s16 s17 W => ∃ k, s16 = .pointer (some ⟨k, 0, none⟩) ∧ s17 = .nilIface ∧ LtT w m n (n) g W ∧ Blk W k MetaT (mtV (n)).toArray)
              case first =>
                go_wp2_with (first
                  | (go_at_call 26; refine (choose_any (a.tail) (b) _ (by simp; omega) (by omega)).mono ?_; rintro e w7 ⟨rfl, hb2⟩; rw [HCH.out, chooseV]; replace T := Lib.hid (T.out.go hb2); clear hb2)
                  | (refine wpList_new MetaT _ _ rfl rfl rfl rfl rfl rfl _ rfl (of_decide_eq_true (by kernel_rfl)) (by kernel_rfl) (by kernel_rfl) (by kernel_rfl) ?_))
                go_meet
                case rel => exact ⟨_, rfl, rfl, T.out.al _, Blk.new _ _ _⟩
              case rest =>
                obtain ⟨k, rfl, rfl, ht, hbk⟩ := hcut
                replace T := Lib.hid ht
                have K := Lib.hid hbk
                clear ht hbk HCH
                obtain ⟨W5, rfl⟩ : ∃ W, W = wc := ⟨_, rfl⟩
                have hq := fun W => (eqMt (n) (n) W).trans (by rw [decide_eq_true rfl])
                go_wp2_with (first
                  | (refine wpList_row MetaT _ rfl g rfl rfl MetaT _ (0, 0) _ T.out.bx Try.underlying30 rfl rfl ?_)
                  | (refine wpList_row MetaT _ rfl k rfl rfl MetaT _ (0, 0) _ K.out Try.underlying30 rfl rfl ?_))
                go_ret
                exact ⟨rfl, T.out.s.hb⟩

            · have HCH := Lib.hid (show Sp.choose a (b ++ [122]) = some m by rw [Sp.choose_eq, HA.out, HMB.out]; rfl)
              go_upto_region 19 with fail
              obtain ⟨x0, x1, x2, x3, x4, x5⟩ := T.out.s.bm.at6
              have ⟨z0, z1, z2, z3, z4, z5⟩ := T.out.bx.at6
              have f0 := T.out.bx.frozen
              have hl1 := HLA1.out
              go_region
              replace T := Lib.hid ((T.out.put6 m).go ((Below.refl _ _).drew))
              clear x0 x1 x2 x3 x4 x5 z0 z1 z2 z3 z4 z5 f0 hl1
              go_upto_region 20 with fail
              go_cut [16, 17] (fun s16 s17 W => ∃ k, s16 = .pointer (some ⟨k, 0, none⟩) ∧ s17 = .nilIface ∧ LtT w m n (m) g W ∧ Blk W k MetaT (mtV (m)).toArray)
              case first =>
                go_wp2_with (first
                  | (go_at_call 26; refine (choose_any (a) (b ++ [122]) _ (by omega) (by simp; omega)).mono ?_; rintro e w7 ⟨rfl, hb2⟩; rw [HCH.out, chooseV]; replace T := Lib.hid (T.out.go hb2); clear hb2)
                  | (refine wpList_new MetaT _ _ rfl rfl rfl rfl rfl rfl _ rfl (of_decide_eq_true (by kernel_rfl)) (by kernel_rfl) (by kernel_rfl) (by kernel_rfl) ?_))
                go_meet
                case rel => exact ⟨_, rfl, rfl, T.out.al _, Blk.new _ _ _⟩
              case rest =>
                obtain ⟨k, rfl, rfl, ht, hbk⟩ := hcut
                replace T := Lib.hid ht
                have K := Lib.hid hbk
                clear ht hbk HCH
                obtain ⟨W5, rfl⟩ : ∃ W, W = wc := ⟨_, rfl⟩
                have hq := fun W => (eqMt (m) (m) W).trans (by rw [decide_eq_true rfl])
                go_wp2_with (first
                  | (refine wpList_row MetaT _ rfl g rfl rfl MetaT _ (0, 0) _ T.out.bx Try.underlying30 rfl rfl ?_)
                  | (refine wpList_row MetaT _ rfl k rfl rfl MetaT _ (0, 0) _ K.out Try.underlying30 rfl rfl ?_))
                go_ret
                exact ⟨rfl, T.out.s.hb⟩

      · have hno1 : (n.txn % 2 == 1) = false := beq_eq_false_iff_ne.2 hno
        go_upto_region 11 with fail
        have hch : Sp.choose [] b = none := by rw [Sp.choose_eq, Sp.right_nil, HRB.out, if_neg hno]; rfl
        have HCH := Lib.hid hch
        clear hch hno hno1 hmo hmo1 cm0 cn0
        go_wp2_with (first
          | (go_at_call 26; refine (choose_any ([]) (b) _ (by simp) (by omega)).mono ?_; rintro e w7 ⟨rfl, hb2⟩; rw [HCH.out, chooseV]; replace S := Lib.hid (S.out.go hb2); clear hb2)
          | (refine wpList_new MetaT _ _ rfl rfl rfl rfl rfl rfl _ rfl (of_decide_eq_true (by kernel_rfl)) (by kernel_rfl) (by kernel_rfl) (by kernel_rfl) ?_)
          | (go_at_call 22; refine (errIs_same 12 _).mono ?_; rintro e w7 ⟨rfl, rfl⟩))
        go_ret
        exact ⟨rfl, (S.out.al _).hb⟩
    · have hmo1 : (m.txn % 2 == 0) = false := beq_eq_false_iff_ne.2 hmo
      have hm1 : m.txn % 2 = 1 := by omega
      have hch : Sp.choose a [] = none := by rw [Sp.choose_eq, Sp.right_nil, HRA.out, if_neg hmo]; rfl
      have hch2 : Sp.choose [] a = some m := by rw [Sp.choose_eq, Sp.right_nil, HRA.out, if_pos hm1]; rfl
      have HCH := Lib.hid hch
      have HCH2 := Lib.hid hch2
      clear hch hch2
      go_upto_region 7 with fail
      clear hmo hmo1 hm1 cm0 cn0
      go_cut [9, 10] (fun s9 s10 W => s10 = .iface ErrT (.int .i64 12) ∧ LtS w m n W)
      case first =>
        go_wp2_with (first
          | (go_at_call 26; refine (choose_any (a) ([]) _ (by omega) (by simp)).mono ?_; rintro e w7 ⟨rfl, hb2⟩; rw [HCH.out, chooseV]; replace S := Lib.hid (S.out.go hb2); clear hb2)
          | (refine wpList_new MetaT _ _ rfl rfl rfl rfl rfl rfl _ rfl (of_decide_eq_true (by kernel_rfl)) (by kernel_rfl) (by kernel_rfl) (by kernel_rfl) ?_))
        go_meet
        case rel => exact ⟨rfl, S.out.al _⟩
      case rest =>
        obtain ⟨rfl, hs⟩ := hcut
        replace S := Lib.hid hs
        clear hs
        obtain ⟨W2, rfl⟩ : ∃ W, W = wc := ⟨_, rfl⟩
        go_upto_region 8 with fail
        go_cut [11, 12] (fun s11 s12 W => ∃ g, s11 = .pointer (some ⟨g, 0, none⟩) ∧ s12 = .nilIface ∧ LtT w m n m g W)
        case first =>
          go_wp2_with (first
            | (go_at_call 26; refine (choose_any ([]) (a) _ (by simp) (by omega)).mono ?_; rintro e w7 ⟨rfl, hb2⟩; rw [HCH2.out, chooseV]; replace S := Lib.hid (S.out.go hb2); clear hb2)
            | (refine wpList_new MetaT _ _ rfl rfl rfl rfl rfl rfl _ rfl (of_decide_eq_true (by kernel_rfl)) (by kernel_rfl) (by kernel_rfl) (by kernel_rfl) ?_))
          go_meet
          case rel => exact ⟨_, rfl, rfl, LtT.new S.out _⟩
        case rest =>
          obtain ⟨g, rfl, rfl, ht⟩ := hcut
          have T := Lib.hid ht
          clear ht S
          obtain ⟨W3, rfl⟩ : ∃ W, W = wc := ⟨_, rfl⟩
          have hq := fun W => (eqMt m m W).trans (by rw [decide_eq_true rfl])
          go_wp2_with (first
            | (go_at_call 22; refine (errIs_same 12 _).mono ?_; rintro e w7 ⟨rfl, rfl⟩)
            | (refine wpList_row MetaT _ rfl g rfl rfl MetaT _ (0, 0) _ T.out.bx Try.underlying30 rfl rfl ?_)
            | (refine wpList_row MetaT _ rfl w.heap.size rfl rfl MetaT _ (0, 0) _ T.out.s.bm Try.underlying30 rfl rfl ?_))
          go_ret
          exact ⟨rfl, T.out.s.hb⟩
end Go.Proofs.Ytienlhckcpfknaa
namespace Go.Proofs.Ytienlhckcpfknaa
open Go.RowKit Go.WideShapes Go.ChangeShapes Go.Deep
/-- A slice that reads as a list of bools. -/
def Bools (w : World) (A : Option Addr) (l : List Bool) : Prop :=
  l.length ≤ 9223372036854775807 ∧ (l = [] ∨ ∃ b off, A = some ⟨b, off, none⟩ ∧ b < w.heap.size ∧ ∀ j, j < l.length → w.cell? ⟨b, off + j, none⟩ = some (.bool (l.getD j false)))
theorem Bools.go {w w' : World} {A : Option Addr} {l : List Bool} (h : Bools w A l) (hb : Below w.heap.size w w') : Bools w' A l := by
  refine ⟨h.1, ?_⟩
  rcases h.2 with h | ⟨b, off, e, hl, hc⟩
  · exact .inl h
  · exact .inr ⟨b, off, e, Nat.lt_of_lt_of_le hl hb.size, fun j hj => (hb.cell (p := ⟨b, off + j, none⟩) hl).trans (hc j hj)⟩
section
variable {H : Type} {enc : TypeId × Value → H} {w : World} {base : Nat} {spare : Nat → Bool} {held : Bool}
set_option maxRecDepth 100000 in
theorem open_meta {r : Reach} {b0 : Nat} {v : Value} {d : DataW H} {ps : List MemPlace} (hv : Value.okWide Try.prog w r b0 30 v) (h : DataW.Trod enc Try.prog w base spare held 30 v d ps) :
    ∃ m : Sp.Mt, v = .agg (mtV m).toArray ∧ 0 ≤ m.txn ∧ m.txn < 18446744073709551616 := by
  obtain ⟨cs, rfl, hsz⟩ := okWide_struct Try.underlying30 hv
  obtain ⟨fuel, hf⟩ := h
  obtain ⟨l⟩ := cs
  simp only [Value.cells] at hf
  obtain ⟨m, hm, hr⟩ := tr_meta hf
  exact ⟨m, by rw [hm], hr⟩
set_option maxRecDepth 100000 in
theorem open_txt {r : Reach} {b0 : Nat} {v : Value} {d : DataW H} {ps : List MemPlace} (hv : Value.okWide Try.prog w r b0 9 v) (h : DataW.Trod enc Try.prog w base spare held 9 v d ps) :
    ∃ s : Txt, v = .string ⟨s.toArray⟩ ∧ s.length ≤ 9223372036854775807 := by
  obtain ⟨s, rfl⟩ := okWide_string Try.underlying9 hv
  obtain ⟨fuel, hf⟩ := h
  simp only [Value.cells] at hf
  obtain ⟨s', hs, hl⟩ := tr_str hf
  exact ⟨s', hs, hl⟩
set_option maxRecDepth 100000 in
theorem open_bls {r : Reach} {b0 : Nat} {v : Value} {d : DataW H} {ps : List MemPlace} (hv : Value.okWide Try.prog w r b0 67 v) (h : DataW.Trod enc Try.prog w base (fun _ => true) held 67 v d ps) :
    ∃ (l : List Bool) (A : Option Addr) (c : Nat), v = .slice A l.length c ∧ Bools w A l := by
  obtain ⟨a, n, c, rfl⟩ := okWide_slice Try.underlying67 hv
  obtain ⟨fuel, hf⟩ := h
  rcases open_bools Try.underlying67 Try.underlying4 (by kernel_rfl) hf with ⟨hc, _⟩ | ⟨a', len, cap, B, hc, _, hl, hm, _, hcell⟩
  · simp only [Value.cells, List.cons.injEq, and_true] at hc
    exact ⟨[], none, 0, hc, by simp, .inl rfl⟩
  · simp only [Value.cells, List.cons.injEq, and_true] at hc
    unfold maxLen at hm
    refine ⟨(List.range len).map B, some a', cap, by rw [hc]; simp, by simp; omega, ?_⟩
    rcases Nat.eq_zero_or_pos len with h0 | h0
    · left; rw [h0]; rfl
    · right
      obtain ⟨b, off, rfl, hbl⟩ := addr_of (hcell 0 (by omega))
      refine ⟨b, off, rfl, hbl, fun j hj => ?_⟩
      rw [List.length_map, List.length_range] at hj
      have := hcell j (by omega)
      rw [Go.WideShapes.add_plain] at this
      rw [this, List.getD_eq_getElem?_getD, List.getElem?_map, List.getElem?_range hj]
      rfl
end
end Go.Proofs.Ytienlhckcpfknaa
namespace Go.Proofs.Ytienlhckcpfknaa
open Go.RowKit
attribute [local go_sem low] mk_extract
attribute [local go_sem] After.cell After.frozen mk_extract_end ByteArray.mk_append_mk
namespace Sp
/-- The place of a version holds its meta. -/
def Good (s0 s1 : Txt) (x : Nat) : Prop := ∃ m, right (if x % 2 = 0 then s0 else s1) ((x : Int) % 2) = some m ∧ m.txn = x
def nm (x i : Nat) : Mt := mt2 ((x : Int) + 1) (2 + (i : Int))
theorem nm_is {x i : Nat} (hi : i ≤ 60) : isMt (nm x i) = true := mt2_is (by omega)
theorem nm_rng {x i : Nat} (hx : x ≤ 100) : 0 ≤ (nm x i).txn ∧ (nm x i).txn < 18446744073709551616 := by
  show 0 ≤ (x : Int) + 1 ∧ (x : Int) + 1 < _
  omega
theorem nm_right {x i : Nat} (hi : i ≤ 60) (hx : x ≤ 100) : right (metaB (nm x i)) (((x : Int) + 1) % 2) = some (nm x i) := by
  rw [right_metaB (nm_is hi) (nm_rng hx)]
  exact if_pos rfl
theorem nm_half {x i : Nat} (hi : i ≤ 60) (hx : x ≤ 100) (j : Int) : right ((metaB (nm x i)).take ((metaB (nm x i)).length / 2)) j = none := by
  have := metaB_len (nm_is (x := x) hi)
  exact right_less (nm_is hi) (nm_rng hx) (by omega) j
theorem even_yes {s0 s1 : Txt} {x i : Nat} (h : Good s0 s1 x) (hx : x % 2 = 0) (hx1 : x ≤ 100) (hi : i ≤ 60) : choose s0 (metaB (nm x i)) = some (nm x i) ∧ Good s0 (metaB (nm x i)) (x + 1) := by
  obtain ⟨m, hm, hmt⟩ := h
  rw [if_pos hx, show (x : Int) % 2 = 0 by omega] at hm
  have hr := nm_right (x := x) hi hx1
  have e : (((x : Int) + 1) % 2) = 1 := by omega
  rw [e] at hr
  refine ⟨?_, nm x i, ?_, by show (x : Int) + 1 = _; omega⟩
  · rw [choose_eq, hm, hr]
    have : m.txn < (nm x i).txn := by show m.txn < (x : Int) + 1; omega
    simp [two, this]
  · rw [if_neg (by omega), show ((x + 1 : Nat) : Int) % 2 = 1 by omega]
    exact hr
theorem odd_yes {s0 s1 : Txt} {x i : Nat} (h : Good s0 s1 x) (hx : x % 2 = 1) (hx1 : x ≤ 100) (hi : i ≤ 60) : choose (metaB (nm x i)) s1 = some (nm x i) ∧ Good (metaB (nm x i)) s1 (x + 1) := by
  obtain ⟨m, hm, hmt⟩ := h
  rw [if_neg (by omega), show (x : Int) % 2 = 1 by omega] at hm
  have hr := nm_right (x := x) hi hx1
  have e : (((x : Int) + 1) % 2) = 0 := by omega
  rw [e] at hr
  refine ⟨?_, nm x i, ?_, by show (x : Int) + 1 = _; omega⟩
  · rw [choose_eq, hm, hr]
    have : ¬ (nm x i).txn < m.txn := by show ¬ (x : Int) + 1 < m.txn; omega
    simp [two, this]
  · rw [if_pos (by omega), show ((x + 1 : Nat) : Int) % 2 = 0 by omega]
    exact hr
theorem even_no {s0 s1 : Txt} {x i : Nat} (h : Good s0 s1 x) (hx : x % 2 = 0) (hx1 : x ≤ 100) (hi : i ≤ 60) : ∃ m, choose s0 ((metaB (nm x i)).take ((metaB (nm x i)).length / 2)) = some m ∧ m.txn = x ∧ Good s0 ((metaB (nm x i)).take ((metaB (nm x i)).length / 2)) x := by
  obtain ⟨m, hm, hmt⟩ := h
  have h0 := hm
  rw [if_pos hx, show (x : Int) % 2 = 0 by omega] at hm
  refine ⟨m, ?_, hmt, m, ?_, hmt⟩
  · rw [choose_eq, hm, nm_half hi hx1]
    rfl
  · rw [if_pos hx] at h0 ⊢
    exact h0
theorem odd_no {s0 s1 : Txt} {x i : Nat} (h : Good s0 s1 x) (hx : x % 2 = 1) (hx1 : x ≤ 100) (hi : i ≤ 60) : ∃ m, choose ((metaB (nm x i)).take ((metaB (nm x i)).length / 2)) s1 = some m ∧ m.txn = x ∧ Good ((metaB (nm x i)).take ((metaB (nm x i)).length / 2)) s1 x := by
  obtain ⟨m, hm, hmt⟩ := h
  have h0 := hm
  rw [if_neg (by omega), show (x : Int) % 2 = 1 by omega] at hm
  refine ⟨m, ?_, hmt, m, ?_, hmt⟩
  · rw [choose_eq, hm, nm_half hi hx1]
    rfl
  · rw [if_neg (by omega)] at h0 ⊢
    exact h0
theorem good_start : Good t0 t1 1 := ⟨f1, by decide +kernel, rfl⟩
end Sp
structure TnS (W0 : World) (A : Option Addr) (l : List Bool) (g : Nat) (s0 s1 : Txt) (w : World) : Prop where
  hb : Below W0.heap.size W0 w
  hg : W0.heap.size ≤ g
  bs : Blk w g 68 #[.string ⟨s0.toArray⟩, .string ⟨s1.toArray⟩]
  rl : Bools W0 A l
  hl : s0.length ≤ 100 ∧ s1.length ≤ 100
theorem TnS.go {W0 : World} {A : Option Addr} {l : List Bool} {g : Nat} {s0 s1 : Txt} {w w' : World} (k : TnS W0 A l g s0 s1 w) (hb : Below w.heap.size w w') : TnS W0 A l g s0 s1 w' :=
  ⟨k.hb.trans (hb.mono k.hb.size), k.hg, k.bs.below hb k.bs.lt, k.rl, k.hl⟩
theorem TnS.al {W0 : World} {A : Option Addr} {l : List Bool} {g : Nat} {s0 s1 : Txt} {w : World} (k : TnS W0 A l g s0 s1 w) (o : Obj) : TnS W0 A l g s0 s1 (w.alloc o) := k.go ((Below.refl _ _).alloc (Nat.le_refl _) _)
theorem TnS.set0 {W0 : World} {A : Option Addr} {l : List Bool} {g : Nat} {s0 s1 : Txt} {w : World} (k : TnS W0 A l g s0 s1 w) (b : Txt) (hb : b.length ≤ 100) : TnS W0 A l g b s1 (w.setCell ⟨g, 0, none⟩ (.string ⟨b.toArray⟩)) :=
  ⟨k.hb.setCell (p := ⟨g, 0, none⟩) k.hg _, k.hg, k.bs.set_ 0 _, k.rl, hb, k.hl.2⟩
theorem TnS.set1 {W0 : World} {A : Option Addr} {l : List Bool} {g : Nat} {s0 s1 : Txt} {w : World} (k : TnS W0 A l g s0 s1 w) (b : Txt) (hb : b.length ≤ 100) : TnS W0 A l g s0 b (w.setCell ⟨g, 1, none⟩ (.string ⟨b.toArray⟩)) :=
  ⟨k.hb.setCell (p := ⟨g, 1, none⟩) k.hg _, k.hg, k.bs.set_ 1 _, k.rl, k.hl.1, hb⟩
set_option maxRecDepth 100000 in
set_option maxHeartbeats 6400000 in
theorem turns_walk (l : List Bool) (A : Option Addr) (c : Nat) (w : World) (hl : Bools w A l) :
    Calls Try.prog 11 #[.slice A l.length c] w fun e w' => e = .returned (.bool true) ∧ Below w.heap.size w w' := by
  have HL := Lib.hid hl
  have HB := Lib.hid (Below.refl w.heap.size w)
  clear hl
  by_cases h60 : l.length ≤ 60
  · go_enter Try.func11, Try.ntmps11
    go_upto_region 5 with (go_at_call 25; refine (known3_any _).mono ?_; rintro e w1 ⟨rfl, hb1⟩; replace HB := Lib.hid (HB.out.trans (hb1.mono HB.out.size)); clear hb1)
    go_cut [3] (fun s3 W => ∃ g, s3 = .pointer (some ⟨g, 0, none⟩) ∧ TnS w A l g Sp.t0 Sp.t1 W)
    case first =>
      go_wp2_with (first
        | (go_at_call 32; refine (fresh_any 0 _).mono ?_; rintro e w7 ⟨rfl, hb2⟩; rw [Sp.f0_fresh]; replace HB := Lib.hid (HB.out.trans (hb2.mono HB.out.size)); clear hb2)
        | (go_at_call 32; refine (fresh_any 1 _).mono ?_; rintro e w7 ⟨rfl, hb2⟩; rw [Sp.f1_fresh]; replace HB := Lib.hid (HB.out.trans (hb2.mono HB.out.size)); clear hb2)
        | (go_at_call 28; refine (metaBytes_any Sp.f0 _ (by decide)).mono ?_; rintro e w7 ⟨rfl, hb2⟩; rw [show Sp.metaB Sp.f0 = Sp.t0 from rfl]; replace HB := Lib.hid (HB.out.trans (hb2.mono HB.out.size)); clear hb2)
        | (go_at_call 28; refine (metaBytes_any Sp.f1 _ (by decide)).mono ?_; rintro e w7 ⟨rfl, hb2⟩; rw [show Sp.metaB Sp.f1 = Sp.t1 from rfl]; replace HB := Lib.hid (HB.out.trans (hb2.mono HB.out.size)); clear hb2)
        | (refine wpList_new 68 _ _ rfl rfl rfl rfl rfl rfl _ rfl (of_decide_eq_true (by kernel_rfl)) (by kernel_rfl) (by kernel_rfl) (by kernel_rfl) ?_))
      go_meet
      case rel => exact ⟨_, rfl, HB.out.alloc HB.out.size _, HB.out.size, Blk.new _ _ _, HL.out, by decide +kernel⟩
    case rest =>
      obtain ⟨g, rfl, hs⟩ := hcut
      have S := Lib.hid hs
      clear hs HB HL
      go_wp2_with fail
      go_loopw [4, 5] (fun t i wr => ∃ (k x : Nat) (s0 s1 : Txt), k ≤ l.length ∧ t = .int .u64 x ∧ i = .int .i64 k ∧ 1 ≤ x ∧ x ≤ k + 1 ∧ Sp.Good s0 s1 x ∧ TnS w A l g s0 s1 wr) (fun _ i _ => l.length - (intOf i).toNat)
      case atStart => exact ⟨0, 1, Sp.t0, Sp.t1, Nat.zero_le _, rfl, rfl, by omega, by omega, Sp.good_start, S.out⟩
      case round =>
        obtain ⟨k, x, s0, s1, hk, rfl, rfl, hx0, hx1, hgood, hs⟩ := hrel
        replace S := Lib.hid hs
        have G := Lib.hid hgood
        clear hs hgood
        by_cases hkl : k < l.length
        · obtain ⟨b, off, rfl, hbl, hic⟩ : ∃ b off, A = some ⟨b, off, none⟩ ∧ b < w.heap.size ∧ ∀ j, j < l.length → wr.cell? ⟨b, off + j, none⟩ = some (.bool (l.getD j false)) := by
            rcases S.out.rl.2 with h | h
            · rw [h] at hkl; exact absurd hkl (by simp)
            · obtain ⟨b, off, e, hbl, hc⟩ := h
              exact ⟨b, off, e, hbl, fun j hj => (S.out.hb.cell (p := ⟨b, off + j, none⟩) hbl).trans (hc j hj)⟩
          have hbl := Nat.lt_of_lt_of_le hbl S.out.hb.size
          have hx2 : x ≤ 100 := by omega
          have hlen := Sp.metaB_len (Sp.nm_is (x := x) (by omega : k ≤ 60))
          have hle := Sp.metaB_le (Sp.nm x k)
          have S0 := Lib.hid (show g < wr.heap.size from S.out.bs.lt)
          rcases (by omega : x % 2 = 0 ∨ x % 2 = 1) with hpar | hpar
          · rcases hb : l.getD k false with _ | _
            · have hlk : l.getD k false = false := hb
              have hc0 := hlk ▸ hic k hkl
              obtain ⟨m, hch1, hch2, hch3⟩ := Sp.even_no G.out hpar hx2 (by omega : k ≤ 60)
              have HCH := Lib.hid hch1
              have HMT := Lib.hid hch2
              have G2 := Lib.hid hch3
              clear hch1 hch2 hch3
              have hsb := S.out.bs.at2
              obtain ⟨⟨z0, z1⟩, z2, z3⟩ := hsb
              have hpk : ((x : Int) + 1) % 2 = 1 := by omega
              go_upto_region 18 with (first
                | (go_at_call 28; refine (metaBytes_any (Sp.nm x k) _ (Sp.nm_rng hx2)).mono ?_; rintro e w7 ⟨rfl, hb2⟩; replace S := Lib.hid (S.out.go hb2); have hc0 := (hb2.cell (p := ⟨b, off + k, none⟩) hbl).trans hc0; have z2 := S.out.bs.frozen 0; have z3 := S.out.bs.frozen 1; have z0 := (hb2.cell (p := ⟨g, 0, none⟩) S0.out).trans z0; have z1 := (hb2.cell (p := ⟨g, 1, none⟩) S0.out).trans z1; clear hb2)
                | (go_at_call 30; refine (place_any _ (by omega) (by omega) _).mono ?_; rintro e w8 ⟨rfl, rfl⟩; rw [hpk]))
              have T := Lib.hid (S.out.set1 ((Sp.metaB (Sp.nm x k)).take ((Sp.metaB (Sp.nm x k)).length / 2)) (by first | exact hle | (rw [List.length_take]; omega)))
              clear S z0 z1 z2 z3 hc0
              generalize w7.setCell ⟨g, 1, none⟩ (.string ⟨(((Sp.metaB (Sp.nm x k)).take ((Sp.metaB (Sp.nm x k)).length / 2))).toArray⟩) = w9 at *
              obtain ⟨⟨z0, z1⟩, _⟩ := T.out.bs.at2
              have hl2 := T.out.hl
              have HCH2 := HCH.out
              generalize hnew : ((Sp.metaB (Sp.nm x k)).take ((Sp.metaB (Sp.nm x k)).length / 2)) = y at *
              clear hnew
              go_cut [8, 9] (fun s8 s9 W => ∃ h, s8 = .pointer (some ⟨h, 0, none⟩) ∧ s9 = .nilIface ∧ TnS w (some ⟨b, off, none⟩) l g s0 y W ∧ W.cell? ⟨h, 0, none⟩ = some (.int .u64 (x : Int)))
              case first =>
                go_wp2_with (first
                  | (go_at_call 26; refine (choose_any s0 y _ (by omega) (by omega)).mono ?_; rintro e w7 ⟨rfl, hb2⟩; rw [HCH2, chooseV]; replace T := Lib.hid (T.out.go hb2); clear hb2 z0 z1)
                  | (refine wpList_new MetaT _ _ rfl rfl rfl rfl rfl rfl _ rfl (of_decide_eq_true (by kernel_rfl)) (by kernel_rfl) (by kernel_rfl) (by kernel_rfl) ?_))
                go_meet
                case rel => exact ⟨_, rfl, rfl, T.out.al _, ((Blk.new _ _ _).cell 0).trans (by rw [← HMT.out]; rfl)⟩
              case rest =>
                obtain ⟨h, rfl, rfl, ht, hmt⟩ := hcut
                replace T := Lib.hid ht
                clear ht HCH HCH2
                obtain ⟨W5, rfl⟩ : ∃ W, W = wc := ⟨_, rfl⟩
                go_wp2_with fail
                refine ⟨⟨k + 1, x, s0, y, by omega, by go_num, by go_num, by omega, by omega, G2.out, T.out⟩, by simp [intOf]; omega⟩
            · have hlk : l.getD k false = true := hb
              have hc0 := hlk ▸ hic k hkl
              have hch := Sp.even_yes G.out hpar hx2 (by omega : k ≤ 60)
              have HCH := Lib.hid hch.1
              have G2 := Lib.hid hch.2
              clear hch
              have hsb := S.out.bs.at2
              obtain ⟨⟨z0, z1⟩, z2, z3⟩ := hsb
              have hpk : ((x : Int) + 1) % 2 = 1 := by omega
              go_upto_region 18 with (first
                | (go_at_call 28; refine (metaBytes_any (Sp.nm x k) _ (Sp.nm_rng hx2)).mono ?_; rintro e w7 ⟨rfl, hb2⟩; replace S := Lib.hid (S.out.go hb2); have hc0 := (hb2.cell (p := ⟨b, off + k, none⟩) hbl).trans hc0; have z2 := S.out.bs.frozen 0; have z3 := S.out.bs.frozen 1; have z0 := (hb2.cell (p := ⟨g, 0, none⟩) S0.out).trans z0; have z1 := (hb2.cell (p := ⟨g, 1, none⟩) S0.out).trans z1; clear hb2)
                | (go_at_call 30; refine (place_any _ (by omega) (by omega) _).mono ?_; rintro e w8 ⟨rfl, rfl⟩; rw [hpk]))
              have T := Lib.hid (S.out.set1 (Sp.metaB (Sp.nm x k)) (by first | exact hle | (rw [List.length_take]; omega)))
              clear S z0 z1 z2 z3 hc0
              generalize w7.setCell ⟨g, 1, none⟩ (.string ⟨((Sp.metaB (Sp.nm x k))).toArray⟩) = w9 at *
              obtain ⟨⟨z0, z1⟩, _⟩ := T.out.bs.at2
              have hl2 := T.out.hl
              have HCH2 := HCH.out
              generalize hnew : (Sp.metaB (Sp.nm x k)) = y at *
              clear hnew
              go_cut [8, 9] (fun s8 s9 W => ∃ h, s8 = .pointer (some ⟨h, 0, none⟩) ∧ s9 = .nilIface ∧ TnS w (some ⟨b, off, none⟩) l g s0 y W ∧ W.cell? ⟨h, 0, none⟩ = some (.int .u64 ((x : Int) + 1)))
              case first =>
                go_wp2_with (first
                  | (go_at_call 26; refine (choose_any s0 y _ (by omega) (by omega)).mono ?_; rintro e w7 ⟨rfl, hb2⟩; rw [HCH2, chooseV]; replace T := Lib.hid (T.out.go hb2); clear hb2 z0 z1)
                  | (refine wpList_new MetaT _ _ rfl rfl rfl rfl rfl rfl _ rfl (of_decide_eq_true (by kernel_rfl)) (by kernel_rfl) (by kernel_rfl) (by kernel_rfl) ?_))
                go_meet
                case rel => exact ⟨_, rfl, rfl, T.out.al _, ((Blk.new _ _ _).cell 0).trans rfl⟩
              case rest =>
                obtain ⟨h, rfl, rfl, ht, hmt⟩ := hcut
                replace T := Lib.hid ht
                clear ht HCH HCH2
                obtain ⟨W5, rfl⟩ : ∃ W, W = wc := ⟨_, rfl⟩
                go_wp2_with fail
                refine ⟨⟨k + 1, x + 1, s0, y, by omega, by go_num, by go_num, by omega, by omega, G2.out, T.out⟩, by simp [intOf]; omega⟩
          · rcases hb : l.getD k false with _ | _
            · have hlk : l.getD k false = false := hb
              have hc0 := hlk ▸ hic k hkl
              obtain ⟨m, hch1, hch2, hch3⟩ := Sp.odd_no G.out hpar hx2 (by omega : k ≤ 60)
              have HCH := Lib.hid hch1
              have HMT := Lib.hid hch2
              have G2 := Lib.hid hch3
              clear hch1 hch2 hch3
              have hsb := S.out.bs.at2
              obtain ⟨⟨z0, z1⟩, z2, z3⟩ := hsb
              have hpk : ((x : Int) + 1) % 2 = 0 := by omega
              go_upto_region 18 with (first
                | (go_at_call 28; refine (metaBytes_any (Sp.nm x k) _ (Sp.nm_rng hx2)).mono ?_; rintro e w7 ⟨rfl, hb2⟩; replace S := Lib.hid (S.out.go hb2); have hc0 := (hb2.cell (p := ⟨b, off + k, none⟩) hbl).trans hc0; have z2 := S.out.bs.frozen 0; have z3 := S.out.bs.frozen 1; have z0 := (hb2.cell (p := ⟨g, 0, none⟩) S0.out).trans z0; have z1 := (hb2.cell (p := ⟨g, 1, none⟩) S0.out).trans z1; clear hb2)
                | (go_at_call 30; refine (place_any _ (by omega) (by omega) _).mono ?_; rintro e w8 ⟨rfl, rfl⟩; rw [hpk]))
              have T := Lib.hid (S.out.set0 ((Sp.metaB (Sp.nm x k)).take ((Sp.metaB (Sp.nm x k)).length / 2)) (by first | exact hle | (rw [List.length_take]; omega)))
              clear S z0 z1 z2 z3 hc0
              generalize w7.setCell ⟨g, 0, none⟩ (.string ⟨(((Sp.metaB (Sp.nm x k)).take ((Sp.metaB (Sp.nm x k)).length / 2))).toArray⟩) = w9 at *
              obtain ⟨⟨z0, z1⟩, _⟩ := T.out.bs.at2
              have hl2 := T.out.hl
              have HCH2 := HCH.out
              generalize hnew : ((Sp.metaB (Sp.nm x k)).take ((Sp.metaB (Sp.nm x k)).length / 2)) = y at *
              clear hnew
              go_cut [8, 9] (fun s8 s9 W => ∃ h, s8 = .pointer (some ⟨h, 0, none⟩) ∧ s9 = .nilIface ∧ TnS w (some ⟨b, off, none⟩) l g y s1 W ∧ W.cell? ⟨h, 0, none⟩ = some (.int .u64 (x : Int)))
              case first =>
                go_wp2_with (first
                  | (go_at_call 26; refine (choose_any y s1 _ (by omega) (by omega)).mono ?_; rintro e w7 ⟨rfl, hb2⟩; rw [HCH2, chooseV]; replace T := Lib.hid (T.out.go hb2); clear hb2 z0 z1)
                  | (refine wpList_new MetaT _ _ rfl rfl rfl rfl rfl rfl _ rfl (of_decide_eq_true (by kernel_rfl)) (by kernel_rfl) (by kernel_rfl) (by kernel_rfl) ?_))
                go_meet
                case rel => exact ⟨_, rfl, rfl, T.out.al _, ((Blk.new _ _ _).cell 0).trans (by rw [← HMT.out]; rfl)⟩
              case rest =>
                obtain ⟨h, rfl, rfl, ht, hmt⟩ := hcut
                replace T := Lib.hid ht
                clear ht HCH HCH2
                obtain ⟨W5, rfl⟩ : ∃ W, W = wc := ⟨_, rfl⟩
                go_wp2_with fail
                refine ⟨⟨k + 1, x, y, s1, by omega, by go_num, by go_num, by omega, by omega, G2.out, T.out⟩, by simp [intOf]; omega⟩
            · have hlk : l.getD k false = true := hb
              have hc0 := hlk ▸ hic k hkl
              have hch := Sp.odd_yes G.out hpar hx2 (by omega : k ≤ 60)
              have HCH := Lib.hid hch.1
              have G2 := Lib.hid hch.2
              clear hch
              have hsb := S.out.bs.at2
              obtain ⟨⟨z0, z1⟩, z2, z3⟩ := hsb
              have hpk : ((x : Int) + 1) % 2 = 0 := by omega
              go_upto_region 18 with (first
                | (go_at_call 28; refine (metaBytes_any (Sp.nm x k) _ (Sp.nm_rng hx2)).mono ?_; rintro e w7 ⟨rfl, hb2⟩; replace S := Lib.hid (S.out.go hb2); have hc0 := (hb2.cell (p := ⟨b, off + k, none⟩) hbl).trans hc0; have z2 := S.out.bs.frozen 0; have z3 := S.out.bs.frozen 1; have z0 := (hb2.cell (p := ⟨g, 0, none⟩) S0.out).trans z0; have z1 := (hb2.cell (p := ⟨g, 1, none⟩) S0.out).trans z1; clear hb2)
                | (go_at_call 30; refine (place_any _ (by omega) (by omega) _).mono ?_; rintro e w8 ⟨rfl, rfl⟩; rw [hpk]))
              have T := Lib.hid (S.out.set0 (Sp.metaB (Sp.nm x k)) (by first | exact hle | (rw [List.length_take]; omega)))
              clear S z0 z1 z2 z3 hc0
              generalize w7.setCell ⟨g, 0, none⟩ (.string ⟨((Sp.metaB (Sp.nm x k))).toArray⟩) = w9 at *
              obtain ⟨⟨z0, z1⟩, _⟩ := T.out.bs.at2
              have hl2 := T.out.hl
              have HCH2 := HCH.out
              generalize hnew : (Sp.metaB (Sp.nm x k)) = y at *
              clear hnew
              go_cut [8, 9] (fun s8 s9 W => ∃ h, s8 = .pointer (some ⟨h, 0, none⟩) ∧ s9 = .nilIface ∧ TnS w (some ⟨b, off, none⟩) l g y s1 W ∧ W.cell? ⟨h, 0, none⟩ = some (.int .u64 ((x : Int) + 1)))
              case first =>
                go_wp2_with (first
                  | (go_at_call 26; refine (choose_any y s1 _ (by omega) (by omega)).mono ?_; rintro e w7 ⟨rfl, hb2⟩; rw [HCH2, chooseV]; replace T := Lib.hid (T.out.go hb2); clear hb2 z0 z1)
                  | (refine wpList_new MetaT _ _ rfl rfl rfl rfl rfl rfl _ rfl (of_decide_eq_true (by kernel_rfl)) (by kernel_rfl) (by kernel_rfl) (by kernel_rfl) ?_))
                go_meet
                case rel => exact ⟨_, rfl, rfl, T.out.al _, ((Blk.new _ _ _).cell 0).trans rfl⟩
              case rest =>
                obtain ⟨h, rfl, rfl, ht, hmt⟩ := hcut
                replace T := Lib.hid ht
                clear ht HCH HCH2
                obtain ⟨W5, rfl⟩ : ∃ W, W = wc := ⟨_, rfl⟩
                go_wp2_with fail
                refine ⟨⟨k + 1, x + 1, y, s1, by omega, by go_num, by go_num, by omega, by omega, G2.out, T.out⟩, by simp [intOf]; omega⟩
        · go_wp2_with fail
          go_ret
          exact ⟨rfl, S.out.hb⟩
  · go_enter Try.func11, Try.ntmps11
    go_wp2_with (go_at_call 25; refine (known3_any _).mono ?_; rintro e w1 ⟨rfl, hb1⟩; replace HB := Lib.hid (HB.out.trans (hb1.mono HB.out.size)); clear hb1)
    go_ret
    exact ⟨rfl, HB.out⟩
end Go.Proofs.Ytienlhckcpfknaa
namespace Go.Proofs.Ytienlhckcpfknaa.metaTurns
open Go.ChangeShapes Go.WideShapes Go.ChangeAt Go.RowKit
set_option maxRecDepth 100000 in
theorem lifted (os : Os) (started : os.Started) (H : Type) (enc : TypeId × Value → H) :
    ReturnsInHanded {} Try.checked os 11 .any (Rows.metaTurnsSpec.pre6 enc Try.prog Try.f11 Rows.metaTurnsRow.domain false) (Rows.metaTurnsSpec.post enc Try.prog Try.f11 false true false false) := by
  refine returnsInHanded_of_change_sized (C := Try.checked) ownKn started (by kernel_rfl) Try.func11
    (ChangeSpec.witness6 (enc := enc) (C := Try.checked) false ⟨#[], #[.slice none 0 0], []⟩ 8 (by kernel_rfl) (by kernel_rfl) (by kernel_rfl) (by kernel_rfl)) ?_
  intro W base args ds gs before hval0 hW hcnd hsz0 _
  have hval : ∀ (j : Nat) t v, Try.f11.params[j]? = some t → args[j]? = some v → Value.okWide Try.prog W .any base t v := hval0
  have hW' := hW
  obtain ⟨p, q, hA0, hV, rfl, hfz, hnd⟩ := hW
  have hA : DataW.TrodAll enc Try.prog W 0 (fun _ => true) true Try.f11.params.toList args.toList ds p := hA0
  have hsz : (DataW.weightsEach Try.prog (Try.f11.params.toList ++ Rows.metaTurnsSpec.plain.varTypes Try.prog) (ds ++ gs)).all (· ≤ reachBytes) = true := hsz0
  rw [Try.params11] at hA hval hsz
  obtain ⟨v0, vs0, d0, ds0, p0, q0, hargs, rfl, rfl, h0, rr0⟩ := trodAll_cons hA
  obtain ⟨rfl, rfl, rfl⟩ := trodAll_nil rr0
  obtain rfl : args = #[v0] := by cases args; simp_all
  obtain ⟨rfl, rfl⟩ := trodVars_none hV
  have k0 := h0
  obtain ⟨a0, r0, c0, hv0, b0⟩ := open_bls (hval 0 67 v0 rfl rfl) h0
  clear hA0 hval0
  simp only [List.append_nil] at hW'
  rw [hv0]
  refine (turns_walk a0 r0 c0 W b0).mono fun e W' ⟨he, hg⟩ => ?_
  subst he
  rw [← hv0]
  exact ⟨_, rfl, post_of_below (pa := (p0 ++ [])) (pv := []) hW' (fun _ _ _ => (trodAll_cons_mk (shut_bool Try.underlying4 _) trodAll_mk0)) (fun sp hsp => (trodAll_cons_mk (WideElems.Trod_stays laidKn (by kernel_rfl) (of_decide_eq_true (by kernel_rfl)) k0 (fun x hx => hg.same (hW'.lt x (by simp [hx]))) (fun x hx => hsp x (by simp [hx]))) trodAll_mk0)) (fun _ _ => rfl) (by simp)
    hg (ok_one (by kernel_rfl) rfl (okWide_bool_mk Try.underlying4 _))⟩
theorem over : Rows.metaTurnsRow.holds Try.pinned (OpenSpec.ofChange Rows.metaTurnsSpec) :=
  OpenClaim.holds_of_wide 11 Try.f11 rfl rfl rfl rfl rfl rfl rfl ⟨rfl, rfl, rfl, rfl, rfl⟩ rfl rfl rfl rfl rfl (by kernel_rfl) Try.func11 (by kernel_rfl)
    (of_decide_eq_true (by kernel_rfl)) (by unfold Func.isWrapper; first | (rw [if_pos (by decide +kernel)]; kernel_rfl) | (rw [if_neg (by decide +kernel)]; exact ⟨rfl, rfl⟩))
    (fun os started H enc _ => lifted os started H enc)
theorem proved : Rows.MetaTurnsSaid :=
  over
#print axioms proved
end Go.Proofs.Ytienlhckcpfknaa.metaTurns
