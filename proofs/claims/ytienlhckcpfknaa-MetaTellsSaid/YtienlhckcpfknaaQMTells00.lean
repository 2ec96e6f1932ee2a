/- The plain law of metas: which of two counts. The document's metas: which of two counts. The third layer's known metas. Metas compared. MetaLater: of two right metas in their places the later one counts: the walk. -/
import Derived.Test.YtienlhckcpfknaaQB17
set_option linter.unusedSimpArgs false
set_option linter.unusedVariables false
namespace Go.Proofs.Ytienlhckcpfknaa
open Go.RowKit
attribute [local go_sem low] mk_extract
attribute [local go_sem] After.cell After.frozen mk_extract_end ByteArray.mk_append_mk
namespace Sp
theorem pgM_is {m : Mt} (h : isMt m = true) : isPage (pgM m) = true := by
  have hm : m ≠ mt0 := by
    rintro rfl
    revert h
    decide
  simp [isPage, pgM, has, h]
theorem pgM_no {m : Mt} (h : isMt m = false) : isPage (pgM m) = false := by
  simp [isPage, pgM, h]
theorem pgM_rng {m : Mt} (hr : 0 ≤ m.txn ∧ m.txn < 18446744073709551616) : Rng (pgM m) := ⟨by simp [pgM], hr⟩
theorem metaB_no {m : Mt} (h : isMt m = false) : metaB m = [] := bytes_no (pgM_no h)
theorem metaB_len {m : Mt} (h : isMt m = true) : 16 ≤ (metaB m).length := bytes_len (pgM_is h)
theorem metaB_ne {m : Mt} (h : isMt m = true) : metaB m ≠ [] := fun e => by
  have := metaB_len h
  rw [e] at this
  simp at this
theorem right_bad {s : Txt} (h : readOk s = false) (i : Int) : right s i = none := by
  unfold right
  rw [if_neg (by simp [h])]
theorem right_metaB {m : Mt} (h : isMt m = true) (hr : 0 ≤ m.txn ∧ m.txn < 18446744073709551616) (i : Int) : right (metaB m) i = if m.txn % 2 = i then some m else none := by
  have h1 := pgM_is h
  have h2 := pgM_rng hr
  unfold right metaB
  rw [readOk_bytes h1 h2, parse_bytes h1 h2]
  simp [pgM]
theorem right_nil (i : Int) : right [] i = none := right_bad (by decide +kernel) i
theorem right_x (i : Int) : right [120] i = none := right_bad (by decide +kernel) i
theorem right_more {m : Mt} (h : isMt m = true) (hr : 0 ≤ m.txn ∧ m.txn < 18446744073709551616) {t : Txt} (ht : t ≠ []) (i : Int) : right (metaB m ++ t) i = none :=
  right_bad (more_no (pgM_is h) (pgM_rng hr) ht) i
theorem right_less {m : Mt} (h : isMt m = true) (hr : 0 ≤ m.txn ∧ m.txn < 18446744073709551616) {k : Nat} (hk : k < (metaB m).length) (i : Int) : right ((metaB m).take k) i = none := by
  refine right_bad (less_no (pgM_is h) (pgM_rng hr) (t := (metaB m).drop k) (fun e => ?_) (List.take_append_drop k _).symm) i
  have := congrArg List.length e
  simp only [List.length_drop, List.length_nil] at this
  omega
theorem leN_cons (k : Nat) (n : Int) : leN (k + 1) n = UInt8.ofNat (n % 256).toNat :: leN k (n / 256) := rfl
theorem kind_no {p : Page} (h1 : p.kind = 0 ∨ p.kind = 1073741824) : isPage p = false := by
  unfold isPage
  rcases h1 with h | h <;> rw [h] <;> simp
theorem page_kind (c : Cut) : c.page.1.kind = c.num.1 := by
  unfold Cut.page
  repeat' split
  all_goals rfl
theorem right_drop {m : Mt} (h : isMt m = true) (i : Int) : right ((metaB m).drop 1) i = none := by
  refine right_bad ?_ i
  have e : ∃ (u v z : Txt) (t0 : UInt8), (metaB m).drop 1 = u ++ (v ++ z) ∧ u.length = 8 ∧ v = [0, 0, 0, 0, 0, 0, 0, t0] := by
    refine ⟨leN 7 (sum (body (pgM m)) / 256) ++ [6], [0, 0, 0, 0, 0, 0, 0, UInt8.ofNat (m.txn % 256).toNat], leN 7 (m.txn / 256) ++ (rootB m.main ++ (le8 m.free ++ le8 m.last)), _, ?_, by simp [leN_length], rfl⟩
    unfold metaB
    rw [bytes_of (pgM_is h)]
    have e2 : body (pgM m) = le8 6 ++ mtB m := by simp [body, partsB, pgM]
    have e3 : le8 6 = [6, 0, 0, 0, 0, 0, 0, 0] := by decide
    have hS : ∀ n, le8 n = UInt8.ofNat (n % 256).toNat :: leN 7 (n / 256) := fun _ => rfl
    generalize sum (body (pgM m)) = S
    rw [e2, e3, hS S]
    unfold mtB
    rw [hS m.txn]
    simp only [List.append_assoc, List.cons_append, List.nil_append, List.drop_succ_cons, List.drop_zero]
  obtain ⟨u, v, z, t0, e, hu, rfl⟩ := e
  rw [e]
  have hp : (parse (u ++ ([0, 0, 0, 0, 0, 0, 0, t0] ++ z))).kind = 0 ∨ (parse (u ++ ([0, 0, 0, 0, 0, 0, 0, t0] ++ z))).kind = 1073741824 := by
    unfold parse Cut.u64
    dsimp only
    rw [rest_app _ _ hu, page_kind]
    unfold Cut.num
    rw [take_app [0, 0, 0, 0, 0, 0, 0, t0] z (n := 8) rfl]
    simp only [unle]
    have := t0.toNat_lt
    have h0 : (0 : UInt8).toNat = 0 := rfl
    rw [h0]
    omega
  have hk := bytes_no (kind_no hp)
  unfold readOk
  rw [hk]
  simp only [Bool.and_eq_false_iff, decide_eq_false_iff_not]
  right
  intro h
  have := congrArg List.length h
  simp at this
def two : Option Mt → Option Mt → Option Mt
  | none, y => y
  | some m, none => some m
  | some m, some n => if m.txn < n.txn then some n else some m
theorem choose_eq (a b : Txt) : choose a b = two (right a 0) (right b 1) := by
  unfold choose
  cases right a 0 <;> cases right b 1 <;> simp [later, two]
def mt2 (n l : Int) : Mt := ⟨n, root0, 0, l⟩
theorem mt2_is {n l : Int} (h : 2 ≤ l ∧ l ≤ 400) : isMt (mt2 n l) = true := by
  simp [isMt, mt2, root0, isRoot, noneOr, h.1, h.2]
def neP (x y : Txt) : Nat → Txt
  | 0 => []
  | 1 => [120]
  | 2 => x ++ [122]
  | _ => y
def neQ (x y : Txt) : Nat → Txt
  | 0 => []
  | 1 => [120]
  | 2 => x
  | _ => y.take 5
theorem neither {n m : Int} (hn : 0 ≤ n ∧ n < 18446744073709551616) (hm : 0 ≤ m ∧ m < 18446744073709551616) (h0 : n % 2 = 0) (h1 : m % 2 = 1) (i j : Nat) : choose (neP (metaB (mt2 n 2)) (metaB (mt2 m 2)) i) (neQ (metaB (mt2 n 2)) (metaB (mt2 m 2)) j) = none := by
  have x := mt2_is (n := n) (l := 2) (by omega)
  have y := mt2_is (n := m) (l := 2) (by omega)
  have hy := metaB_len y
  have hp : right (neP (metaB (mt2 n 2)) (metaB (mt2 m 2)) i) 0 = none := by
    unfold neP
    split
    · exact right_nil 0
    · exact right_x 0
    · exact right_more x hn (by simp) 0
    · rw [right_metaB y hm, if_neg (by show ¬ m % 2 = 0; omega)]
  have hq : right (neQ (metaB (mt2 n 2)) (metaB (mt2 m 2)) j) 1 = none := by
    unfold neQ
    split
    · exact right_nil 1
    · exact right_x 1
    · rw [right_metaB x hn, if_neg (by show ¬ n % 2 = 1; omega)]
    · exact right_less y hm (by omega) 1
  rw [choose_eq, hp, hq]
  rfl
theorem metaB2_len {n : Int} : (metaB (mt2 n 2)).length ≤ 100 := by
  rw [metaB, bytes_of (pgM_is (mt2_is (by omega)))]
  simp [body, partsB, pgM, mtB, le8_length, rootB_len]
theorem ne_len {n m : Int} (i j : Nat) : (neP (metaB (mt2 n 2)) (metaB (mt2 m 2)) i).length ≤ 4611686018427387904 ∧ (neQ (metaB (mt2 n 2)) (metaB (mt2 m 2)) j).length ≤ 4611686018427387904 := by
  have hl : ∀ n, (metaB (mt2 n 2)).length ≤ 100 := fun n => by
    rw [metaB, bytes_of (pgM_is (mt2_is (by omega)))]
    simp [body, partsB, pgM, mtB, le8_length, rootB_len]
  have h1 := hl n
  have h2 := hl m
  constructor
  · unfold neP; split <;> (try simp) <;> omega
  · unfold neQ; split <;> (try simp) <;> omega
end Sp
end Go.Proofs.Ytienlhckcpfknaa
namespace Go.Proofs.Ytienlhckcpfknaa
open Go.RowKit
attribute [local go_sem low] mk_extract
attribute [local go_sem] After.cell After.frozen mk_extract_end ByteArray.mk_append_mk
set_option maxRecDepth 100000 in
set_option maxHeartbeats 400000 in
theorem dFresh_any (i : Int) (w : World) : Calls Try.prog 33 #[.int .i64 i] w fun e w' => e = .returned (.agg (mtV (Sp.fresh i)).toArray) ∧ Below w.heap.size w w' := by
  go_enter Try.func33, Try.ntmps33
  go_wp2_with fail
  all_goals
    first
      | (have e : Sp.fresh i = ⟨0, Sp.root0, 0, 2⟩ := by
           unfold Sp.fresh
           congr 1
           omega
         rw [e])
      | (have e : Sp.fresh i = ⟨i, Sp.root0, 0, 2⟩ := by
           unfold Sp.fresh
           congr 1
           omega
         rw [e])
      | (have e : Sp.fresh i = ⟨1, Sp.root0, 0, 2⟩ := by
           unfold Sp.fresh
           congr 1
           omega
         rw [e])
    refine bodyPost_ret (v := .agg (mtV _).toArray) (by simp [results, Try.results33, go_sem, mtV, Sp.root0]) rfl ⟨rfl, by go_grown⟩
set_option maxRecDepth 100000 in
set_option maxHeartbeats 1600000 in
theorem dMetaBytes_any (m : Sp.Mt) (w : World) (hm : 0 ≤ m.txn ∧ m.txn < 18446744073709551616) : Calls Try.prog 29 #[.agg (mtV m).toArray] w fun e w' => e = .returned (.string ⟨(Sp.metaB m).toArray⟩) ∧ Below w.heap.size w w' := by
  have hb := Blk.new w 30 (mtV m).toArray
  have HB := Lib.hid hb
  have HM := Lib.hid hm
  clear hb hm
  simp only [mtV] at *
  go_enter Try.func29, Try.ntmps29
  go_wp2_with (first
    | (refine wpList_row 30 _ rfl w.heap.size rfl rfl 30 #[.int .u64 m.txn, .int .i64 m.main.page, .int .i64 m.main.count, .int .i64 m.main.flags, .int .i64 m.free, .int .i64 m.last] (0, 0) _ HB.out Try.underlying30 rfl rfl ?_)
    | (go_at_call 21; refine (dBytes_any (M := NoM) (Sp.pgM m) refs0 _ ⟨Items.nil_, Row.nil_, Row.nil_, Row.nil_, Frees.nil_, HM.out⟩).mono ?_; rintro e w7 ⟨rfl, hb2⟩; have HB2 := Lib.hid hb2; clear hb2))
  go_ret
  exact ⟨rfl, ((Below.refl _ _).alloc (Nat.le_refl _) _).trans (HB2.out.mono (by simp))⟩
/-- The result's block, the best so far, the two texts. -/
structure CzS (w : World) (a b : Txt) (out : Option Sp.Mt) (W : World) : Prop where
  hb : Below w.heap.size w W
  br : Blk W w.heap.size MetaT #[.int .u64 0, .int .i64 0, .int .i64 0, .int .i64 0, .int .i64 0, .int .i64 0]
  bo : Blk W (w.heap.size + 1) MetaT (mtV (out.getD Sp.mt0)).toArray
  bs : Blk W (w.heap.size + 2) 68 #[.string ⟨a.toArray⟩, .string ⟨b.toArray⟩]
theorem CzS.go {w W W' : World} {a b : Txt} {out : Option Sp.Mt} (h : CzS w a b out W) (hb : Below W.heap.size W W') : CzS w a b out W' :=
  ⟨h.hb.trans (hb.mono h.hb.size), h.br.below hb h.br.lt, h.bo.below hb h.bo.lt, h.bs.below hb h.bs.lt⟩
theorem CzS.put {w W : World} {a b : Txt} {out : Option Sp.Mt} (h : CzS w a b out W) (m : Sp.Mt) : CzS w a b (some m) (W.setRow (w.heap.size + 1) (mtV m).toArray) := by
  have h1 := h.br
  have h2 := h.bs
  unfold Blk at h1 h2
  exact ⟨below_setRow h.hb (Nat.le_succ _) _, (setRow_other W (w.heap.size + 1) w.heap.size _ (by omega)).trans h1, h.bo.row, (setRow_other W (w.heap.size + 1) (w.heap.size + 2) _ (by omega)).trans h2⟩
theorem CzS.start {a b : Txt} (w : World) : CzS w a b none (((w.alloc (.cells #[.int .u64 0, .int .i64 0, .int .i64 0, .int .i64 0, .int .i64 0, .int .i64 0] MetaT)).alloc (.cells #[.int .u64 0, .int .i64 0, .int .i64 0, .int .i64 0, .int .i64 0, .int .i64 0] MetaT)).alloc (.cells #[.string ⟨a.toArray⟩, .string ⟨b.toArray⟩] 68)) := by
  refine ⟨((((Below.refl _ _).alloc (Nat.le_refl _) _).alloc (by simp) _).alloc (by simp only [World.size_alloc]; omega) _), ((Blk.new w _ _).alloc _).alloc _, (blk_second w _ _ _).alloc _, ?_⟩
  have := blk_second (w.alloc (.cells #[.int .u64 0, .int .i64 0, .int .i64 0, .int .i64 0, .int .i64 0, .int .i64 0] MetaT)) (.cells #[.int .u64 0, .int .i64 0, .int .i64 0, .int .i64 0, .int .i64 0, .int .i64 0] MetaT) 68 #[.string ⟨a.toArray⟩, .string ⟨b.toArray⟩]
  simpa using this
/-- What copyholdref1.Choose gives. -/
def dchooseV : Option Sp.Mt → Value
  | some m => .tuple #[.agg (mtV m).toArray, .int .i64 0]
  | none => .tuple #[.agg (mtV Sp.mt0).toArray, .int .i64 12]
set_option maxRecDepth 100000 in
set_option maxHeartbeats 6400000 in
theorem dChoose_any (a b : Txt) (w : World) (ha : a.length ≤ 4611686018427387904) (hb : b.length ≤ 4611686018427387904) :
    Calls Try.prog 27 #[.string ⟨a.toArray⟩, .string ⟨b.toArray⟩] w fun e w' => e = .returned (dchooseV (Sp.choose a b)) ∧ Below w.heap.size w w' := by
  have HLEN := Lib.hid (And.intro ha hb)
  have R := Lib.hid (CzS.start (a := a) (b := b) w)
  clear ha hb
  go_enter Try.func27, Try.ntmps27
  go_upto_region 4 with fail
  go_loopw [7, 9] (fun f i wr => ∃ (k : Nat) (out : Option Sp.Mt), k ≤ 2 ∧ i = .int .i64 k ∧ f = .bool (Option.isSome out) ∧ Hid (out = (Sp.rights a b k).foldl Sp.later none) ∧ CzS w a b out wr) (fun _ i _ => 2 - (intOf i).toNat)
  case atStart => exact ⟨0, none, by omega, rfl, rfl, Lib.hid rfl, R.out⟩
  case round =>
    obtain ⟨k, out, hk, rfl, rfl, ho, hs⟩ := hrel
    replace R := Lib.hid hs
    have HO := Lib.hid ho.out
    clear hs ho
    rcases (by omega : k = 0 ∨ k = 1 ∨ k = 2) with rfl | rfl | rfl
    · clear hk
      have c8 := R.out.bs.cell 0
      simp at c8
      go_upto_region 6 with fail
      rcases hok : Sp.readOk a with _ | _
      · have HOK := Lib.hid hok
        have HNO := Lib.hid (Sp.rights_no0 (a := a) (b := b) (show Sp.right a 0 = none by unfold Sp.right; rw [hok]; simp))
        clear hok
        go_cut [10, 11] (fun s10 s11 W => (∃ g, s10 = .pointer (some ⟨g, 0, none⟩)) ∧ s11 = .int .i64 12 ∧ CzS w a b out W)
        case first =>
          go_wp2_with (first
            | (go_at_call 15; refine (dRead_any a _ HLEN.out.1).mono ?_; rintro e w7 ⟨x, rfl, hx, hb2⟩; rw [HOK.out]; dsimp only; replace R := Lib.hid (R.out.go hb2); clear hb2 hx)
            | (refine wpList_new PageT _ _ rfl rfl rfl rfl rfl rfl _ rfl (of_decide_eq_true (by kernel_rfl)) (by kernel_rfl) (by kernel_rfl) (by kernel_rfl) ?_))
          go_meet
          case rel => exact ⟨⟨_, rfl⟩, rfl, R.out.go ((Below.refl _ _).alloc (Nat.le_refl _) _)⟩
        case rest =>
          obtain ⟨⟨g, rfl⟩, rfl, hs⟩ := hcut
          obtain ⟨w2, rfl⟩ : ∃ W, W = wc := ⟨_, rfl⟩
          replace R := Lib.hid hs
          clear hs c8
          go_wp2_with fail
          go_roundw
          case rel => exact ⟨1, out, by omega, by go_num, rfl, by rw [HNO.out]; exact HO.out, R.out⟩
          case measure => simp [intOf]
      · have HOK := Lib.hid hok
        go_cut [10, 11] (fun s10 s11 W => ∃ g x, s10 = .pointer (some ⟨g, 0, none⟩) ∧ s11 = .int .i64 0 ∧ CzS w a b out W ∧ Blk W g PageT (pageV (Sp.parse a) x).toArray ∧ w.heap.size + 2 < g)
        case first =>
          go_wp2_with (first
            | (go_at_call 15; refine (dRead_any a _ HLEN.out.1).mono ?_; rintro e w7 ⟨x, rfl, hx, hb2⟩; rw [HOK.out]; dsimp only; replace R := Lib.hid (R.out.go hb2); clear hb2 hx)
            | (refine wpList_new PageT _ _ rfl rfl rfl rfl rfl rfl _ rfl (of_decide_eq_true (by kernel_rfl)) (by kernel_rfl) (by kernel_rfl) (by kernel_rfl) ?_))
          go_meet
          case rel => exact ⟨_, x, rfl, rfl, R.out.go ((Below.refl _ _).alloc (Nat.le_refl _) _), Blk.new _ _ _, R.out.bs.lt⟩
        case rest =>
          obtain ⟨g, x, rfl, rfl, hs, hbg, hgg⟩ := hcut
          obtain ⟨w2, rfl⟩ : ∃ W, W = wc := ⟨_, rfl⟩
          replace R := Lib.hid hs
          have HG := Lib.hid hbg
          have c0 : w2.cell? ⟨g, 0, none⟩ = some (.int .i64 (Sp.parse a).kind) := hbg.cell 0
          have c8 : w2.cell? ⟨g, 8, none⟩ = some (.int .u64 (Sp.parse a).mt.txn) := hbg.cell 8
          have hrg := (Sp.parse_rng a).2
          have HRG := Lib.hid hrg
          clear hs hbg hrg
          by_cases hkd : (Sp.parse a).kind = 6
          · by_cases htx : (Sp.parse a).mt.txn % 2 = 0
            · have HYS := Lib.hid (Sp.rights_yes0 (a := a) (b := b) (show Sp.right a 0 = some (Sp.parse a).mt by unfold Sp.right; rw [if_pos ⟨hok, hkd, htx⟩]))
              have b1 : ((Sp.parse a).kind == 6) = true := beq_iff_eq.2 hkd
              have b2 : ((Sp.parse a).mt.txn % 2 == 0) = true := beq_iff_eq.2 htx
              have HMT := Lib.hid (pg_mt HG.out)
              clear hkd htx hok HG
              generalize (Sp.parse a).mt = m at *
              rcases out with _ | o1
              · have hfo : (Sp.rights a b 1).foldl Sp.later none = some m := by rw [HYS.out, List.foldl_append, ← HO.out]; rfl
                have HFO := Lib.hid hfo
                clear hfo
                go_wp2_with (first
                  | (go_at_call 31; refine (dPlace_any _ HRG.out.1 HRG.out.2 _).mono ?_; rintro e w7 ⟨rfl, rfl⟩)
                  | (refine wpList_at MetaT _ rfl g 8 rfl rfl (mtV m).toArray _ HMT.out Try.underlying30 rfl rfl ?_)
                  | (refine wpList_store_row rfl MetaT _ _ rfl (w.heap.size + 1) _ rfl rfl MetaT (mtV Sp.mt0).toArray R.out.bo (by kernel_rfl) rfl (by kernel_rfl) ?_))
                go_roundw
                case rel => exact ⟨1, some m, by omega, by go_num, rfl, HFO.out.symm, R.out.put m⟩
                case measure => simp [intOf]
              · exact absurd HO.out (by simp [Sp.rights])
            · have HNO := Lib.hid (Sp.rights_no0 (a := a) (b := b) (show Sp.right a 0 = none by unfold Sp.right; rw [if_neg (fun h => htx h.2.2)]))
              have b1 : ((Sp.parse a).kind == 6) = true := beq_iff_eq.2 hkd
              have b2 : ((Sp.parse a).mt.txn % 2 == 0) = false := beq_eq_false_iff_ne.2 htx
              clear hkd htx hok HG
              go_wp2_with (go_at_call 31; refine (dPlace_any _ HRG.out.1 HRG.out.2 _).mono ?_; rintro e w7 ⟨rfl, rfl⟩)
              go_roundw
              case rel => exact ⟨1, out, by omega, by go_num, rfl, by rw [HNO.out]; exact HO.out, R.out⟩
              case measure => simp [intOf]
          · have HNO := Lib.hid (Sp.rights_no0 (a := a) (b := b) (show Sp.right a 0 = none by unfold Sp.right; rw [if_neg (fun h => hkd h.2.1)]))
            have b1 : ((Sp.parse a).kind == 6) = false := beq_eq_false_iff_ne.2 hkd
            clear hkd hok HG
            go_wp2_with fail
            go_roundw
            case rel => exact ⟨1, out, by omega, by go_num, rfl, by rw [HNO.out]; exact HO.out, R.out⟩
            case measure => simp [intOf]
    · clear hk
      have c8 := R.out.bs.cell 1
      simp at c8
      go_upto_region 6 with fail
      rcases hok : Sp.readOk b with _ | _
      · have HOK := Lib.hid hok
        have HNO := Lib.hid (Sp.rights_no1 (a := a) (b := b) (show Sp.right b 1 = none by unfold Sp.right; rw [hok]; simp))
        clear hok
        go_cut [10, 11] (fun s10 s11 W => (∃ g, s10 = .pointer (some ⟨g, 0, none⟩)) ∧ s11 = .int .i64 12 ∧ CzS w a b out W)
        case first =>
          go_wp2_with (first
            | (go_at_call 15; refine (dRead_any b _ HLEN.out.2).mono ?_; rintro e w7 ⟨x, rfl, hx, hb2⟩; rw [HOK.out]; dsimp only; replace R := Lib.hid (R.out.go hb2); clear hb2 hx)
            | (refine wpList_new PageT _ _ rfl rfl rfl rfl rfl rfl _ rfl (of_decide_eq_true (by kernel_rfl)) (by kernel_rfl) (by kernel_rfl) (by kernel_rfl) ?_))
          go_meet
          case rel => exact ⟨⟨_, rfl⟩, rfl, R.out.go ((Below.refl _ _).alloc (Nat.le_refl _) _)⟩
        case rest =>
          obtain ⟨⟨g, rfl⟩, rfl, hs⟩ := hcut
          obtain ⟨w2, rfl⟩ : ∃ W, W = wc := ⟨_, rfl⟩
          replace R := Lib.hid hs
          clear hs c8
          go_wp2_with fail
          go_roundw
          case rel => exact ⟨2, out, by omega, by go_num, rfl, by rw [HNO.out]; exact HO.out, R.out⟩
          case measure => simp [intOf]
      · have HOK := Lib.hid hok
        go_cut [10, 11] (fun s10 s11 W => ∃ g x, s10 = .pointer (some ⟨g, 0, none⟩) ∧ s11 = .int .i64 0 ∧ CzS w a b out W ∧ Blk W g PageT (pageV (Sp.parse b) x).toArray ∧ w.heap.size + 2 < g)
        case first =>
          go_wp2_with (first
            | (go_at_call 15; refine (dRead_any b _ HLEN.out.2).mono ?_; rintro e w7 ⟨x, rfl, hx, hb2⟩; rw [HOK.out]; dsimp only; replace R := Lib.hid (R.out.go hb2); clear hb2 hx)
            | (refine wpList_new PageT _ _ rfl rfl rfl rfl rfl rfl _ rfl (of_decide_eq_true (by kernel_rfl)) (by kernel_rfl) (by kernel_rfl) (by kernel_rfl) ?_))
          go_meet
          case rel => exact ⟨_, x, rfl, rfl, R.out.go ((Below.refl _ _).alloc (Nat.le_refl _) _), Blk.new _ _ _, R.out.bs.lt⟩
        case rest =>
          obtain ⟨g, x, rfl, rfl, hs, hbg, hgg⟩ := hcut
          obtain ⟨w2, rfl⟩ : ∃ W, W = wc := ⟨_, rfl⟩
          replace R := Lib.hid hs
          have HG := Lib.hid hbg
          have c0 : w2.cell? ⟨g, 0, none⟩ = some (.int .i64 (Sp.parse b).kind) := hbg.cell 0
          have c8 : w2.cell? ⟨g, 8, none⟩ = some (.int .u64 (Sp.parse b).mt.txn) := hbg.cell 8
          have hrg := (Sp.parse_rng b).2
          have HRG := Lib.hid hrg
          clear hs hbg hrg
          by_cases hkd : (Sp.parse b).kind = 6
          · by_cases htx : (Sp.parse b).mt.txn % 2 = 1
            · have HYS := Lib.hid (Sp.rights_yes1 (a := a) (b := b) (show Sp.right b 1 = some (Sp.parse b).mt by unfold Sp.right; rw [if_pos ⟨hok, hkd, htx⟩]))
              have b1 : ((Sp.parse b).kind == 6) = true := beq_iff_eq.2 hkd
              have b2 : ((Sp.parse b).mt.txn % 2 == 1) = true := beq_iff_eq.2 htx
              have HMT := Lib.hid (pg_mt HG.out)
              clear hkd htx hok HG
              generalize (Sp.parse b).mt = m at *
              rcases out with _ | o1
              · have hfo : (Sp.rights a b 2).foldl Sp.later none = some m := by rw [HYS.out, List.foldl_append, ← HO.out]; rfl
                have HFO := Lib.hid hfo
                clear hfo
                go_wp2_with (first
                  | (go_at_call 31; refine (dPlace_any _ HRG.out.1 HRG.out.2 _).mono ?_; rintro e w7 ⟨rfl, rfl⟩)
                  | (refine wpList_at MetaT _ rfl g 8 rfl rfl (mtV m).toArray _ HMT.out Try.underlying30 rfl rfl ?_)
                  | (refine wpList_store_row rfl MetaT _ _ rfl (w.heap.size + 1) _ rfl rfl MetaT (mtV Sp.mt0).toArray R.out.bo (by kernel_rfl) rfl (by kernel_rfl) ?_))
                go_roundw
                case rel => exact ⟨2, some m, by omega, by go_num, rfl, HFO.out.symm, R.out.put m⟩
                case measure => simp [intOf]
              · have o0 : w2.cell? ⟨w.heap.size + 1, 0, none⟩ = some (.int .u64 o1.txn) := R.out.bo.cell 0
                by_cases hlt : o1.txn < m.txn
                · have hfo : (Sp.rights a b 2).foldl Sp.later none = some m := by rw [HYS.out, List.foldl_append, ← HO.out]; simp [Sp.later, hlt]
                  have HFO := Lib.hid hfo
                  clear hfo
                  go_wp2_with (first
                    | (go_at_call 31; refine (dPlace_any _ HRG.out.1 HRG.out.2 _).mono ?_; rintro e w7 ⟨rfl, rfl⟩)
                    | (refine wpList_at MetaT _ rfl g 8 rfl rfl (mtV m).toArray _ HMT.out Try.underlying30 rfl rfl ?_)
                    | (refine wpList_store_row rfl MetaT _ _ rfl (w.heap.size + 1) _ rfl rfl MetaT (mtV o1).toArray R.out.bo (by kernel_rfl) rfl (by kernel_rfl) ?_))
                  go_roundw
                  case rel => exact ⟨2, some m, by omega, by go_num, rfl, HFO.out.symm, R.out.put m⟩
                  case measure => simp [intOf]
                · have hfo : (Sp.rights a b 2).foldl Sp.later none = some o1 := by rw [HYS.out, List.foldl_append, ← HO.out]; simp [Sp.later, hlt]
                  have HFO := Lib.hid hfo
                  clear hfo
                  go_wp2_with (go_at_call 31; refine (dPlace_any _ HRG.out.1 HRG.out.2 _).mono ?_; rintro e w7 ⟨rfl, rfl⟩)
                  go_roundw
                  case rel => exact ⟨2, some o1, by omega, by go_num, rfl, HFO.out.symm, R.out⟩
                  case measure => simp [intOf]
            · have HNO := Lib.hid (Sp.rights_no1 (a := a) (b := b) (show Sp.right b 1 = none by unfold Sp.right; rw [if_neg (fun h => htx h.2.2)]))
              have b1 : ((Sp.parse b).kind == 6) = true := beq_iff_eq.2 hkd
              have b2 : ((Sp.parse b).mt.txn % 2 == 1) = false := beq_eq_false_iff_ne.2 htx
              clear hkd htx hok HG
              go_wp2_with (go_at_call 31; refine (dPlace_any _ HRG.out.1 HRG.out.2 _).mono ?_; rintro e w7 ⟨rfl, rfl⟩)
              go_roundw
              case rel => exact ⟨2, out, by omega, by go_num, rfl, by rw [HNO.out]; exact HO.out, R.out⟩
              case measure => simp [intOf]
          · have HNO := Lib.hid (Sp.rights_no1 (a := a) (b := b) (show Sp.right b 1 = none by unfold Sp.right; rw [if_neg (fun h => hkd h.2.1)]))
            have b1 : ((Sp.parse b).kind == 6) = false := beq_eq_false_iff_ne.2 hkd
            clear hkd hok HG
            go_wp2_with fail
            go_roundw
            case rel => exact ⟨2, out, by omega, by go_num, rfl, by rw [HNO.out]; exact HO.out, R.out⟩
            case measure => simp [intOf]
    · clear hk
      rcases out with _ | m
      · go_wp2_with (first
          | (refine wpList_built rfl MetaT _ rfl #[.int .u64 0, .int .i64 0, .int .i64 0, .int .i64 0, .int .i64 0, .int .i64 0] (by kernel_rfl) ?_)
          | (refine wpList_store_row rfl MetaT _ _ rfl w.heap.size _ rfl rfl MetaT _ R.out.br (by kernel_rfl) rfl (by kernel_rfl) ?_))
        obtain ⟨z0, z1, z2, z3, z4, z5⟩ := (R.out.br.row (ds := #[.int .u64 0, .int .i64 0, .int .i64 0, .int .i64 0, .int .i64 0, .int .i64 0])).at6
        refine bodyPost_ret (v := dchooseV none) (by simp [results, Try.results27, go_sem, dchooseV, mtV, Sp.mt0, Sp.root0, z0, z1, z2, z3, z4, z5]) rfl ⟨by rw [show Sp.choose a b = none from HO.out.symm], below_setRow R.out.hb (Nat.le_refl _) _⟩
      · go_wp2_with (first
          | (refine wpList_row MetaT _ rfl (w.heap.size + 1) rfl rfl MetaT _ (0, 0) _ R.out.bo Try.underlying30 rfl rfl ?_)
          | (refine wpList_store_row rfl MetaT _ _ rfl w.heap.size _ rfl rfl MetaT _ R.out.br (by kernel_rfl) rfl (by kernel_rfl) ?_))
        obtain ⟨z0, z1, z2, z3, z4, z5⟩ := (R.out.br.row (ds := #[.int .u64 m.txn, .int .i64 m.main.page, .int .i64 m.main.count, .int .i64 m.main.flags, .int .i64 m.free, .int .i64 m.last])).at6
        refine bodyPost_ret (v := dchooseV (some m)) (by simp [results, Try.results27, go_sem, dchooseV, mtV, Sp.mt0, Sp.root0, z0, z1, z2, z3, z4, z5]) rfl ⟨by rw [show Sp.choose a b = some m from HO.out.symm], below_setRow R.out.hb (Nat.le_refl _) _⟩
end Go.Proofs.Ytienlhckcpfknaa
namespace Go.Proofs.Ytienlhckcpfknaa
open Go.RowKit
attribute [local go_sem low] mk_extract
attribute [local go_sem] After.cell After.frozen mk_extract_end ByteArray.mk_append_mk
namespace Sp
def f0 : Mt := ⟨0, root0, 0, 2⟩
def f1 : Mt := ⟨1, root0, 0, 2⟩
def t0 : Txt := metaB f0
def t1 : Txt := metaB f1
theorem f0_fresh : fresh 0 = f0 := by decide +kernel
theorem f1_fresh : fresh 1 = f1 := by decide +kernel
theorem t_len : t0.length ≤ 4611686018427387904 ∧ t1.length ≤ 4611686018427387904 := by decide +kernel
theorem t_01 : choose t0 t1 = some f1 := by decide +kernel
theorem t_0x : choose t0 [120] = some f0 := by decide +kernel
theorem t_10 : choose t1 t0 = none := by decide +kernel
theorem t_00 : metaB mt0 = [] := by decide +kernel
end Sp
structure KxS (W0 : World) (w : World) : Prop where
  hb : Below W0.heap.size W0 w
set_option maxRecDepth 100000 in
set_option maxHeartbeats 3200000 in
theorem known3_any (w : World) : Calls Try.prog 25 #[] w fun e w' => e = .returned (.bool true) ∧ Below w.heap.size w w' := by
  have HB := Lib.hid (Below.refl w.heap.size w)
  go_enter Try.func25, Try.ntmps25
  go_upto_region 1 with fail
  go_cut [1, 2] (fun s1 s2 W => s1 = .string ⟨Sp.t0.toArray⟩ ∧ s2 = .string ⟨Sp.t1.toArray⟩ ∧ Below w.heap.size w W)
  case first =>
    go_wp2_with (first
      | (go_at_call 32; refine (fresh_any 0 _).mono ?_; rintro e w7 ⟨rfl, hb2⟩; rw [Sp.f0_fresh]; replace HB := Lib.hid (HB.out.trans (hb2.mono HB.out.size)); clear hb2)
      | (go_at_call 32; refine (fresh_any 1 _).mono ?_; rintro e w7 ⟨rfl, hb2⟩; rw [Sp.f1_fresh]; replace HB := Lib.hid (HB.out.trans (hb2.mono HB.out.size)); clear hb2)
      | (go_at_call 28; refine (metaBytes_any Sp.f0 _ (by decide)).mono ?_; rintro e w7 ⟨rfl, hb2⟩; rw [show Sp.metaB Sp.f0 = Sp.t0 from rfl]; replace HB := Lib.hid (HB.out.trans (hb2.mono HB.out.size)); clear hb2)
      | (go_at_call 28; refine (metaBytes_any Sp.f1 _ (by decide)).mono ?_; rintro e w7 ⟨rfl, hb2⟩; rw [show Sp.metaB Sp.f1 = Sp.t1 from rfl]; replace HB := Lib.hid (HB.out.trans (hb2.mono HB.out.size)); clear hb2))
    go_meet
    case rel => exact ⟨rfl, rfl, HB.out⟩
  case rest =>
    obtain ⟨rfl, rfl, hb1⟩ := hcut
    replace HB := Lib.hid hb1
    clear hb1
    go_upto_region 2 with fail
    go_cut [3, 4] (fun s3 s4 W => ∃ g, s3 = .pointer (some ⟨g, 0, none⟩) ∧ s4 = .nilIface ∧ Below w.heap.size w W ∧ Blk W g MetaT (mtV Sp.f1).toArray)
    case first =>
      go_wp2_with (first
        | (go_at_call 26; refine (choose_any Sp.t0 Sp.t1 _ Sp.t_len.1 Sp.t_len.2).mono ?_; rintro e w7 ⟨rfl, hb2⟩; rw [Sp.t_01, chooseV]; replace HB := Lib.hid (HB.out.trans (hb2.mono HB.out.size)); clear hb2)
        | (refine wpList_new MetaT _ _ rfl rfl rfl rfl rfl rfl _ rfl (of_decide_eq_true (by kernel_rfl)) (by kernel_rfl) (by kernel_rfl) (by kernel_rfl) ?_))
      go_meet
      case rel => exact ⟨_, rfl, rfl, HB.out.alloc HB.out.size _, Blk.new _ _ _⟩
    case rest =>
      obtain ⟨g1, rfl, rfl, hb1, hg1⟩ := hcut
      replace HB := Lib.hid hb1
      have G1 := Lib.hid hg1
      clear hb1 hg1
      go_upto_region 3 with fail
      go_cut [5, 6] (fun s3 s4 W => ∃ g, s3 = .pointer (some ⟨g, 0, none⟩) ∧ s4 = .nilIface ∧ Below w.heap.size w W ∧ Blk W g1 MetaT (mtV Sp.f1).toArray ∧ Blk W g MetaT (mtV Sp.f0).toArray)
      case first =>
        go_wp2_with (first
          | (go_at_call 26; refine (choose_any Sp.t0 [120] _ Sp.t_len.1 (by simp)).mono ?_; rintro e w7 ⟨rfl, hb2⟩; rw [Sp.t_0x, chooseV]; replace HB := Lib.hid (HB.out.trans (hb2.mono HB.out.size)); replace G1 := Lib.hid (G1.out.below hb2 G1.out.lt); clear hb2)
          | (refine wpList_new MetaT _ _ rfl rfl rfl rfl rfl rfl _ rfl (of_decide_eq_true (by kernel_rfl)) (by kernel_rfl) (by kernel_rfl) (by kernel_rfl) ?_))
        go_meet
        case rel => exact ⟨_, rfl, rfl, HB.out.alloc HB.out.size _, G1.out.alloc _, Blk.new _ _ _⟩
      case rest =>
        obtain ⟨g2, rfl, rfl, hb1, hg1, hg2⟩ := hcut
        replace HB := Lib.hid hb1
        replace G1 := Lib.hid hg1
        have G2 := Lib.hid hg2
        clear hb1 hg1 hg2
        go_upto_region 4 with fail
        go_cut [7, 8] (fun s3 s4 W => ∃ g, s3 = .pointer (some ⟨g, 0, none⟩) ∧ s4 = .iface ErrT (.int .i64 12) ∧ Below w.heap.size w W ∧ Blk W g1 MetaT (mtV Sp.f1).toArray ∧ Blk W g2 MetaT (mtV Sp.f0).toArray)
        case first =>
          go_wp2_with (first
            | (go_at_call 26; refine (choose_any Sp.t1 Sp.t0 _ Sp.t_len.2 Sp.t_len.1).mono ?_; rintro e w7 ⟨rfl, hb2⟩; rw [Sp.t_10, chooseV]; replace HB := Lib.hid (HB.out.trans (hb2.mono HB.out.size)); replace G1 := Lib.hid (G1.out.below hb2 G1.out.lt); replace G2 := Lib.hid (G2.out.below hb2 G2.out.lt); clear hb2)
            | (refine wpList_new MetaT _ _ rfl rfl rfl rfl rfl rfl _ rfl (of_decide_eq_true (by kernel_rfl)) (by kernel_rfl) (by kernel_rfl) (by kernel_rfl) ?_))
          go_meet
          case rel => exact ⟨_, rfl, rfl, HB.out.alloc HB.out.size _, G1.out.alloc _, G2.out.alloc _⟩
        case rest =>
          obtain ⟨g3, rfl, rfl, hb1, hg1, hg2⟩ := hcut
          replace HB := Lib.hid hb1
          have c10 : wc.cell? ⟨g1, 0, none⟩ = some (.int .u64 1) := hg1.cell 0
          have c13 : wc.cell? ⟨g1, 5, none⟩ = some (.int .i64 2) := hg1.cell 5
          have c20 : wc.cell? ⟨g2, 0, none⟩ = some (.int .u64 0) := hg2.cell 0
          clear hb1 hg1 hg2 G1 G2
          go_wp2_with (first
            | (go_at_call 22; refine (errIs_same 12 _).mono ?_; rintro e w7 ⟨rfl, rfl⟩)
            | (go_at_call 30; refine (place_any 7 (by decide) (by decide) _).mono ?_; rintro e w7 ⟨rfl, rfl⟩)
            | (go_at_call 28; refine (metaBytes_any Sp.mt0 _ (by decide)).mono ?_; rintro e w7 ⟨rfl, hb2⟩; rw [Sp.t_00]; replace HB := Lib.hid (HB.out.trans (hb2.mono HB.out.size)); clear hb2))
          go_ret
          exact ⟨rfl, HB.out⟩
end Go.Proofs.Ytienlhckcpfknaa
namespace Go.Proofs.Ytienlhckcpfknaa
open Go.RowKit
attribute [local go_sem low] mk_extract
attribute [local go_sem] After.cell After.frozen mk_extract_end ByteArray.mk_append_mk
theorem Sp.root_eq (a b : Sp.Root) : decide (a = b) = (a.page == b.page && (a.count == b.count && a.flags == b.flags)) := by
  obtain ⟨a1, a2, a3⟩ := a
  obtain ⟨b1, b2, b3⟩ := b
  by_cases h1 : a1 = b1 <;> by_cases h2 : a2 = b2 <;> by_cases h3 : a3 = b3 <;> simp [h1, h2, h3]
theorem Sp.mt_eq (a b : Sp.Mt) : decide (a = b) = (a.txn == b.txn && (decide (a.main = b.main) && (a.free == b.free && a.last == b.last))) := by
  obtain ⟨a1, a2, a3, a4⟩ := a
  obtain ⟨b1, b2, b3, b4⟩ := b
  by_cases h1 : a1 = b1 <;> by_cases h2 : a2 = b2 <;> by_cases h3 : a3 = b3 <;> by_cases h4 : a4 = b4 <;> simp [h1, h2, h3, h4]
theorem eqRoot (m n : Sp.Root) (W : World) : (Op.equalIn 9999 28 (.agg (rootV m).toArray) (.agg (rootV n).toArray)).run Try.prog W = .ok (decide (m = n)) W := by
  have hS : Try.prog.underlying 28 = some (.struct (Try.prog.fieldsOf 28)) := by kernel_rfl
  have hp : Try.prog.stoodInHeld 28 = false := by kernel_rfl
  have u3 := Try.underlying3
  rw [show (9999 : Nat) = 9998 + 1 from rfl, run_equalIn_agg W 9998 28 _ _ hS hp, Sp.root_eq]
  simp only [Program.fieldsOf, Try.underlying28, Op.eqFields, rootV]
  go_simp
  by_cases h1 : m.page = n.page <;> by_cases h2 : m.count = n.count <;> by_cases h3 : m.flags = n.flags <;> simp [h1, h2, h3]
theorem eqMt (m n : Sp.Mt) (W : World) : (Op.equalIn 10000 MetaT (.agg (mtV m).toArray) (.agg (mtV n).toArray)).run Try.prog W = .ok (decide (m = n)) W := by
  have hS : Try.prog.underlying MetaT = some (.struct (Try.prog.fieldsOf MetaT)) := by kernel_rfl
  have hp : Try.prog.stoodInHeld MetaT = false := by kernel_rfl
  have u3 := Try.underlying3
  have u26 := Try.underlying26
  have hr := fun W => eqRoot m.main n.main W
  simp only [rootV] at hr
  rw [show (10000 : Nat) = 9999 + 1 from rfl, run_equalIn_agg W 9999 MetaT _ _ hS hp, Sp.mt_eq]
  simp only [Program.fieldsOf, Try.underlying30, Op.eqFields, mtV]
  go_simp
  by_cases h1 : m.txn = n.txn <;> by_cases h2 : m.main = n.main <;> by_cases h3 : m.free = n.free <;> by_cases h4 : m.last = n.last <;> simp [h1, h2, h3, h4]
end Go.Proofs.Ytienlhckcpfknaa
namespace Go.Proofs.Ytienlhckcpfknaa
open Go.RowKit
attribute [local go_sem low] mk_extract
attribute [local go_sem] After.cell After.frozen mk_extract_end ByteArray.mk_append_mk
structure LtS (W0 : World) (m n : Sp.Mt) (w : World) : Prop where
  hb : Below W0.heap.size W0 w
  bm : Blk w W0.heap.size MetaT (mtV m).toArray
  bn : Blk w (W0.heap.size + 1) MetaT (mtV n).toArray
theorem LtS.go {W0 : World} {m n : Sp.Mt} {w w' : World} (k : LtS W0 m n w) (hb : Below w.heap.size w w') : LtS W0 m n w' :=
  ⟨k.hb.trans (hb.mono k.hb.size), k.bm.below hb k.bm.lt, k.bn.below hb k.bn.lt⟩
theorem LtS.start (m n : Sp.Mt) (w : World) : LtS w m n ((w.alloc (.cells (mtV m).toArray MetaT)).alloc (.cells (mtV n).toArray MetaT)) :=
  ⟨((Below.refl _ _).alloc (Nat.le_refl _) _).alloc (by simp) _, (Blk.new w _ _).alloc _, blk_second w _ _ _⟩
theorem LtS.al {W0 : World} {m n : Sp.Mt} {w : World} (k : LtS W0 m n w) (o : Obj) : LtS W0 m n (w.alloc o) := k.go ((Below.refl _ _).alloc (Nat.le_refl _) _)
structure LtT (W0 : World) (m n x : Sp.Mt) (g : Nat) (w : World) : Prop where
  s : LtS W0 m n w
  bx : Blk w g MetaT (mtV x).toArray
  hg : W0.heap.size + 2 ≤ g
theorem LtT.go {W0 : World} {m n x : Sp.Mt} {g : Nat} {w w' : World} (k : LtT W0 m n x g w) (hb : Below w.heap.size w w') : LtT W0 m n x g w' :=
  ⟨k.s.go hb, k.bx.below hb k.bx.lt, k.hg⟩
theorem LtT.al {W0 : World} {m n x : Sp.Mt} {g : Nat} {w : World} (k : LtT W0 m n x g w) (o : Obj) : LtT W0 m n x g (w.alloc o) := k.go ((Below.refl _ _).alloc (Nat.le_refl _) _)
theorem LtT.new {W0 : World} {m n : Sp.Mt} {w : World} (k : LtS W0 m n w) (x : Sp.Mt) : LtT W0 m n x w.heap.size (w.alloc (.cells (mtV x).toArray MetaT)) :=
  ⟨k.al _, Blk.new _ _ _, by have := k.bn.lt; omega⟩
theorem LtT.put {W0 : World} {m n x : Sp.Mt} {g : Nat} {w : World} (k : LtT W0 m n x g w) (y : Sp.Mt) : LtT W0 m n y g (w.setRow g (mtV y).toArray) := by
  have hm := k.s.bm
  have hn := k.s.bn
  have hg := k.hg
  unfold Blk at hm hn
  exact ⟨⟨below_setRow k.s.hb (by omega) _, (setRow_other w g _ _ (by omega)).trans hm, (setRow_other w g _ _ (by omega)).trans hn⟩, k.bx.row, k.hg⟩
theorem LtT.put6 {W0 : World} {m n x : Sp.Mt} {g : Nat} {w : World} (k : LtT W0 m n x g w) (y : Sp.Mt) : LtT W0 m n y g ((((((w.setCell ⟨g, 0, none⟩ (.int .u64 y.txn)).setCell ⟨g, 1, none⟩ (.int .i64 y.main.page)).setCell ⟨g, 2, none⟩ (.int .i64 y.main.count)).setCell ⟨g, 3, none⟩ (.int .i64 y.main.flags)).setCell ⟨g, 4, none⟩ (.int .i64 y.free)).setCell ⟨g, 5, none⟩ (.int .i64 y.last)) := by
  have hg := k.hg
  have h1 : ∀ {W : World} (i : Nat) (v : Value), Below W0.heap.size W0 W → Below W0.heap.size W0 (W.setCell ⟨g, i, none⟩ v) := fun i v h => h.setCell (p := ⟨g, i, none⟩) (by show _ ≤ g; omega) v
  have h2 : ∀ {W : World} (i : Nat) (v : Value) {q : Nat} {cs : Array Value}, q ≠ g → Blk W q MetaT cs → Blk (W.setCell ⟨g, i, none⟩ v) q MetaT cs := fun i v _ _ hq h => Blk.far h (p := ⟨g, i, none⟩) hq v
  refine ⟨⟨?_, ?_, ?_⟩, ?_, hg⟩
  · exact h1 _ _ (h1 _ _ (h1 _ _ (h1 _ _ (h1 _ _ (h1 _ _ k.s.hb)))))
  · exact h2 _ _ (by omega) (h2 _ _ (by omega) (h2 _ _ (by omega) (h2 _ _ (by omega) (h2 _ _ (by omega) (h2 _ _ (by omega) k.s.bm)))))
  · exact h2 _ _ (by omega) (h2 _ _ (by omega) (h2 _ _ (by omega) (h2 _ _ (by omega) (h2 _ _ (by omega) (h2 _ _ (by omega) k.s.bn)))))
  · exact (((((k.bx.set_ 0 _).set_ 1 _).set_ 2 _).set_ 3 _).set_ 4 _).set_ 5 _
namespace Sp
theorem metaB_le (m : Mt) : (metaB m).length ≤ 100 := by
  rcases h : isMt m with _ | _
  · rw [metaB_no h]; simp
  · rw [metaB, bytes_of (pgM_is h)]
    simp [body, partsB, pgM, mtB, le8_length, rootB_len]
theorem metaB_cons {m : Mt} (h : isMt m = true) : ∃ b s, metaB m = b :: s := by
  rcases hq : metaB m with _ | ⟨b, s⟩
  · exact absurd hq (metaB_ne h)
  · exact ⟨b, s, rfl⟩
end Sp
set_option maxRecDepth 100000 in
set_option maxHeartbeats 6400000 in
theorem later_walk (m n : Sp.Mt) (a2 : Int) (hm : 0 ≤ m.txn ∧ m.txn < 18446744073709551616) (hn : 0 ≤ n.txn ∧ n.txn < 18446744073709551616) (h2 : 0 ≤ a2 ∧ a2 ≤ 255) (w : World) :
    Calls Try.prog 10 #[.agg (mtV m).toArray, .agg (mtV n).toArray, .int .u8 a2] w fun e w' => e = .returned (.bool true) ∧ Below w.heap.size w w' := by
  have S := Lib.hid (LtS.start m n w)
  have HM := Lib.hid hm
  have HN := Lib.hid hn
  clear hm hn
  simp only [mtV] at *
  go_enter Try.func10, Try.ntmps10
  go_upto_region 3 with (go_at_call 25; refine (known3_any _).mono ?_; rintro e w1 ⟨rfl, hb1⟩; replace S := Lib.hid (S.out.go hb1); clear hb1)
  go_cut [7, 8] (fun s7 s8 W => s7 = .string ⟨(Sp.metaB m).toArray⟩ ∧ s8 = .string ⟨(Sp.metaB n).toArray⟩ ∧ LtS w m n W)
  case first =>
    have C1 := Lib.hid (fun (w' : World) => metaBytes_any m w' HM.out)
    have C2 := Lib.hid (fun (w' : World) => metaBytes_any n w' HN.out)
    refine wp_region_row (by kernel_rfl) (by kernel_rfl) ?_
    repeat (first | go_big_quiet_skip | (refine wpQuiet_row MetaT _ rfl w.heap.size rfl rfl MetaT _ (0, 0) _ (blk_after S.out.bm) Try.underlying30 rfl rfl ?_; simp only [Act.put, List.setIfInBounds_toArray, List.set_cons_succ, List.set_cons_zero]) | (refine wpQuiet_row MetaT _ rfl (w.heap.size + 1) rfl rfl MetaT _ (0, 0) _ (blk_after S.out.bn) Try.underlying30 rfl rfl ?_; simp only [Act.put, List.setIfInBounds_toArray, List.set_cons_succ, List.set_cons_zero]) | (go_big_quiet_step (first | (go_at_call_of 28 m; exact after_call (Nat.le_refl _) (C1.out _)) | (go_at_call_of 28 n; exact after_call (Nat.le_refl _) (C2.out _)))))
    refine wpQuiet_nil ?_
    intro w2 hb2
    go_wp2_with fail
    go_meet
    case rel => exact ⟨rfl, rfl, S.out.go hb2⟩
  case rest =>
    obtain ⟨rfl, rfl, hs⟩ := hcut
    replace S := Lib.hid hs
    clear hs
    obtain ⟨W, rfl⟩ : ∃ W, W = wc := ⟨_, rfl⟩
    rcases him : Sp.isMt m with _ | _
    · rw [Sp.metaB_no him]
      go_wp2_with fail
      go_ret
      exact ⟨rfl, S.out.hb⟩
    rcases hin : Sp.isMt n with _ | _
    · rw [Sp.metaB_no hin]
      obtain ⟨b0, s0, hbs⟩ := Sp.metaB_cons him
      rw [hbs]
      go_wp2_with fail
      go_ret
      exact ⟨rfl, S.out.hb⟩
    have hea : (Sp.metaB m).isEmpty = false := List.isEmpty_eq_false_iff.2 (Sp.metaB_ne him)
    have heb : (Sp.metaB n).isEmpty = false := List.isEmpty_eq_false_iff.2 (Sp.metaB_ne hin)
    go_upto_region 6 with fail
    clear hea heb
    have hla : (Sp.metaB m).length ≤ 100 := Sp.metaB_le m
    have hlb : (Sp.metaB n).length ≤ 100 := Sp.metaB_le n
    have hra := fun i => Sp.right_metaB him HM.out i
    have hrb := fun i => Sp.right_metaB hin HN.out i
    have HRA := Lib.hid hra
    have HRB := Lib.hid hrb
    have HDA := Lib.hid (Sp.right_drop him 0)
    have HMB := Lib.hid (Sp.right_more hin HN.out (t := [122]) (by simp) 1)
    have HLA1 := Lib.hid (Sp.metaB_len him)
    clear hra hrb him hin
    generalize Sp.metaB m = a at *
    generalize Sp.metaB n = b at *
    have cm0 : W.cell? ⟨w.heap.size, 0, none⟩ = some (.int .u64 m.txn) := S.out.bm.cell 0
    have cn0 : W.cell? ⟨w.heap.size + 1, 0, none⟩ = some (.int .u64 n.txn) := S.out.bn.cell 0
    have hm0 := HM.out.1
    have hn0 := HN.out.1
    by_cases hmo : m.txn % 2 = 0
    · have hmo1 : (m.txn % 2 == 0) = true := beq_iff_eq.2 hmo
      by_cases hno : n.txn % 2 = 1
      · have hno1 : (n.txn % 2 == 1) = true := beq_iff_eq.2 hno
        go_upto_region 13 with fail
        clear cm0 cn0
        have hA : Sp.right a 0 = some m := by rw [HRA.out, if_pos hmo]
        have hB : Sp.right b 1 = some n := by rw [HRB.out, if_pos hno]
        have HA := Lib.hid hA
        have HB := Lib.hid hB
        clear hA hB hmo hno hmo1 hno1 HRA HRB
        go_cut [15] (fun s15 W => ∃ g, s15 = .pointer (some ⟨g, 0, none⟩) ∧ LtT w m n m g W)
        case first =>
          go_wp2_with (first
            | (refine wpList_row MetaT _ rfl w.heap.size rfl rfl MetaT _ (0, 0) _ S.out.bm Try.underlying30 rfl rfl ?_)
            | (refine wpList_new MetaT _ _ rfl rfl rfl rfl rfl rfl _ rfl (of_decide_eq_true (by kernel_rfl)) (by kernel_rfl) (by kernel_rfl) (by kernel_rfl) ?_))
          go_meet
          case rel => exact ⟨_, rfl, LtT.new S.out _⟩
        case rest =>
          obtain ⟨g, rfl, ht⟩ := hcut
          have T := Lib.hid ht
          clear ht S
          obtain ⟨W2, rfl⟩ : ∃ W, W = wc := ⟨_, rfl⟩
          have cm0 : W2.cell? ⟨w.heap.size, 0, none⟩ = some (.int .u64 m.txn) := T.out.s.bm.cell 0
          have cn0 : W2.cell? ⟨w.heap.size + 1, 0, none⟩ = some (.int .u64 n.txn) := T.out.s.bn.cell 0
          by_cases hgt : m.txn < n.txn
          · have HX := Lib.hid (show Sp.two (some m) (some n) = some n by simp [Sp.two, hgt])
            go_upto_region 16 with (first
              | (refine wpList_row MetaT _ rfl (w.heap.size + 1) rfl rfl MetaT _ (0, 0) _ T.out.s.bn Try.underlying30 rfl rfl ?_)
              | (refine wpList_store_row rfl MetaT _ _ rfl g _ rfl rfl MetaT _ T.out.bx (by kernel_rfl) rfl (by kernel_rfl) ?_))
            replace T := Lib.hid (T.out.put n)
            clear cm0 cn0 hgt
            generalize W2.setRow g (mtV n).toArray = W3 at *
            rcases (by omega : a2 % 3 = 0 ∨ a2 % 3 = 1 ∨ a2 % 3 = 2) with h3 | h3 | h3
            · have HCH := Lib.hid (show Sp.choose a b = some n by rw [Sp.choose_eq, HA.out, HB.out]; exact HX.out)
              go_upto_region 20 with fail
              go_cut [16, 17] (fun s16 s17 W => ∃ k, s16 = .pointer (some ⟨k, 0, none⟩) ∧ s17 = .nilIface ∧ LtT w m n (n) g W ∧ Blk W k MetaT (mtV (n)).toArray)
              case first =>
                go_wp2_with (first
                  | (go_at_call 26; refine (choose_any (a) (b) _ (by omega) (by omega)).mono ?_; rintro e w7 ⟨rfl, hb2⟩; rw [HCH.out, chooseV]; replace T := Lib.hid (T.out.go hb2); clear hb2)
                  | (refine wpList_new MetaT _ _ rfl rfl rfl rfl rfl rfl _ rfl (of_decide_eq_true (by kernel_rfl)) (by kernel_rfl) (by kernel_rfl) (by kernel_rfl) ?_))
                go_meet
                case rel => exact ⟨_, rfl, rfl, T.out.al _, Blk.new _ _ _⟩
              case rest =>
                obtain ⟨k, rfl, rfl, ht, hbk⟩ := hcut
                replace T := Lib.hid ht
                have K := Lib.hid hbk
                clear ht hbk HCH
                obtain ⟨W5, rfl⟩ : ∃ W, W = wc := ⟨_, rfl⟩
                have hq := fun W => (eqMt (n) (n) W).trans (by rw [decide_eq_true rfl])
                go_wp2_with (first
                  | (refine wpList_row MetaT _ rfl g rfl rfl MetaT _ (0, 0) _ T.out.bx Try.underlying30 rfl rfl ?_)
                  | (refine wpList_row MetaT _ rfl k rfl rfl MetaT _ (0, 0) _ K.out Try.underlying30 rfl rfl ?_))
                go_ret
                exact ⟨rfl, T.out.s.hb⟩

            · have HCH := Lib.hid (show Sp.choose (a.tail) b = some n by rw [← List.drop_one, Sp.choose_eq, HDA.out, HB.out]; rfl)
              go_upto_region 17 with fail
              obtain ⟨x0, x1, x2, x3, x4, x5⟩ := T.out.s.bn.at6
              have ⟨z0, z1, z2, z3, z4, z5⟩ := T.out.bx.at6
              have f0 := T.out.bx.frozen
              have hl1 := HLA1.out
              go_region
              replace T := Lib.hid ((T.out.put6 n).go ((Below.refl _ _).drew))
              clear x0 x1 x2 x3 x4 x5 z0 z1 z2 z3 z4 z5 f0 hl1
              go_upto_region 20 with fail
              go_cut [16, 17] (fun s16 s17 W => ∃ k, s16 = .pointer (some ⟨k, 0, none⟩) ∧ s17 = .nilIface ∧ LtT w m n (n) g W ∧ Blk W k MetaT (mtV (n)).toArray)
              case first =>
                go_wp2_with (first
                  | (go_at_call 26; refine (choose_any (a.tail) (b) _ (by simp; omega) (by omega)).mono ?_; rintro e w7 ⟨rfl, hb2⟩; rw [HCH.out, chooseV]; replace T := Lib.hid (T.out.go hb2); clear hb2)
                  | (refine wpList_new MetaT _ _ rfl rfl rfl rfl rfl rfl _ rfl (of_decide_eq_true (by kernel_rfl)) (by kernel_rfl) (by kernel_rfl) (by kernel_rfl) ?_))
                go_meet
                case rel => exact ⟨_, rfl, rfl, T.out.al _, Blk.new _ _ _⟩
              case rest =>
                obtain ⟨k, rfl, rfl, ht, hbk⟩ := hcut
                replace T := Lib.hid ht
                have K := Lib.hid hbk
                clear ht hbk HCH
                obtain ⟨W5, rfl⟩ : ∃ W, W = wc := ⟨_, rfl⟩
                have hq := fun W => (eqMt (n) (n) W).trans (by rw [decide_eq_true rfl])
                go_wp2_with (first
                  | (refine wpList_row MetaT _ rfl g rfl rfl MetaT _ (0, 0) _ T.out.bx Try.underlying30 rfl rfl ?_)
                  | (refine wpList_row MetaT _ rfl k rfl rfl MetaT _ (0, 0) _ K.out Try.underlying30 rfl rfl ?_))
                go_ret
                exact ⟨rfl, T.out.s.hb⟩

            · have HCH := Lib.hid (show Sp.choose a (b ++ [122]) = some m by rw [Sp.choose_eq, HA.out, HMB.out]; rfl)
              go_upto_region 19 with fail
              obtain ⟨x0, x1, x2, x3, x4, x5⟩ := T.out.s.bm.at6
              have ⟨z0, z1, z2, z3, z4, z5⟩ := T.out.bx.at6
              have f0 := T.out.bx.frozen
              have hl1 := HLA1.out
              go_region
              replace T := Lib.hid ((T.out.put6 m).go ((Below.refl _ _).drew))
              clear x0 x1 x2 x3 x4 x5 z0 z1 z2 z3 z4 z5 f0 hl1
              go_upto_region 20 with fail
              go_cut [16, 17] (fun s16 s17 W => ∃ k, s16 = .pointer (some ⟨k, 0, none⟩) ∧ s17 = .nilIface ∧ LtT w m n (m) g W ∧ Blk W k MetaT (mtV (m)).toArray)
              case first =>
                go_wp2_with (first
                  | (go_at_call 26; refine (choose_any (a) (b ++ [122]) _ (by omega) (by simp; omega)).mono ?_; rintro e w7 ⟨rfl, hb2⟩; rw [HCH.out, chooseV]; replace T := Lib.hid (T.out.go hb2); clear hb2)
                  | (refine wpList_new MetaT _ _ rfl rfl rfl rfl rfl rfl _ rfl (of_decide_eq_true (by kernel_rfl)) (by kernel_rfl) (by kernel_rfl) (by kernel_rfl) ?_))
                go_meet
                case rel => exact ⟨_, rfl, rfl, T.out.al _, Blk.new _ _ _⟩
              case rest =>
                obtain ⟨k, rfl, rfl, ht, hbk⟩ := hcut
                replace T := Lib.hid ht
                have K := Lib.hid hbk
                clear ht hbk HCH
                obtain ⟨W5, rfl⟩ : ∃ W, W = wc := ⟨_, rfl⟩
                have hq := fun W => (eqMt (m) (m) W).trans (by rw [decide_eq_true rfl])
                go_wp2_with (first
                  | (refine wpList_row MetaT _ rfl g rfl rfl MetaT _ (0, 0) _ T.out.bx Try.underlying30 rfl rfl ?_)
                  | (refine wpList_row MetaT _ rfl k rfl rfl MetaT _ (0, 0) _ K.out Try.underlying30 rfl rfl ?_))
                go_ret
                exact ⟨rfl, T.out.s.hb⟩

          · have HX := Lib.hid (show Sp.two (some m) (some n) = some m by simp [Sp.two, hgt])
            go_upto_region 16 with fail
            clear cm0 cn0 hgt
            rcases (by omega : a2 % 3 = 0 ∨ a2 % 3 = 1 ∨ a2 % 3 = 2) with h3 | h3 | h3
            · have HCH := Lib.hid (show Sp.choose a b = some m by rw [Sp.choose_eq, HA.out, HB.out]; exact HX.out)
              go_upto_region 20 with fail
              go_cut [16, 17] (fun s16 s17 W => ∃ k, s16 = .pointer (some ⟨k, 0, none⟩) ∧ s17 = .nilIface ∧ LtT w m n (m) g W ∧ Blk W k MetaT (mtV (m)).toArray)
              case first =>
                go_wp2_with (first
                  | (go_at_call 26; refine (choose_any (a) (b) _ (by omega) (by omega)).mono ?_; rintro e w7 ⟨rfl, hb2⟩; rw [HCH.out, chooseV]; replace T := Lib.hid (T.out.go hb2); clear hb2)
                  | (refine wpList_new MetaT _ _ rfl rfl rfl rfl rfl rfl _ rfl (of_decide_eq_true (by kernel_rfl)) (by kernel_rfl) (by kernel_rfl) (by kernel_rfl) ?_))
                go_meet
                case rel => exact ⟨_, rfl, rfl, T.out.al _, Blk.new _ _ _⟩
              case rest =>
                obtain ⟨k, rfl, rfl, ht, hbk⟩ := hcut
                replace T := Lib.hid ht
                have K := Lib.hid hbk
                clear ht hbk HCH
                obtain ⟨W5, rfl⟩ : ∃ W, W = wc := ⟨_, rfl⟩
                have hq := fun W => (eqMt (m) (m) W).trans (by rw [decide_eq_true rfl])
                go_wp2_with (first
                  | (refine wpList_row MetaT _ rfl g rfl rfl MetaT _ (0, 0) _ T.out.bx Try.underlying30 rfl rfl ?_)
                  | (refine wpList_row MetaT _ rfl k rfl rfl MetaT _ (0, 0) _ K.out Try.underlying30 rfl rfl ?_))
                go_ret
                exact ⟨rfl, T.out.s.hb⟩

            · have HCH := Lib.hid (show Sp.choose (a.tail) b = some n by rw [← List.drop_one, Sp.choose_eq, HDA.out, HB.out]; rfl)
              go_upto_region 17 with fail
              obtain ⟨x0, x1, x2, x3, x4, x5⟩ := T.out.s.bn.at6
              have ⟨z0, z1, z2, z3, z4, z5⟩ := T.out.bx.at6
              have f0 := T.out.bx.frozen
              have hl1 := HLA1.out
              go_region
              replace T := Lib.hid ((T.out.put6 n).go ((Below.refl _ _).drew))
              clear x0 x1 x2 x3 x4 x5 z0 z1 z2 z3 z4 z5 f0 hl1
              go_upto_region 20 with fail
              go_cut [16, 17] (fun s16 s17 W => ∃ k, s16 = .pointer (some ⟨k, 0, none⟩) ∧ s17 = .nilIface ∧ LtT w m n (n) g W ∧ Blk W k MetaT (mtV (n)).toArray)
              case first =>
                go_wp2_with (first
                  | (go_at_call 26; refine (choose_any (a.tail) (b) _ (by simp; omega) (by omega)).mono ?_; rintro e w7 ⟨rfl, hb2⟩; rw [HCH.out, chooseV]; replace T := Lib.hid (T.out.go hb2); clear hb2)
                  | (refine wpList_new MetaT _ _ rfl rfl rfl rfl rfl rfl _ rfl (of_decide_eq_true (by kernel_rfl)) (by kernel_rfl) (by kernel_rfl) (by kernel_rfl) ?_))
                go_meet
                case rel => exact ⟨_, rfl, rfl, T.out.al _, Blk.new _ _ _⟩
              case rest =>
                obtain ⟨k, rfl, rfl, ht, hbk⟩ := hcut
                replace T := Lib.hid ht
                have K := Lib.hid hbk
                clear ht hbk HCH
                obtain ⟨W5, rfl⟩ : ∃ W, W = wc := ⟨_, rfl⟩
                have hq := fun W => (eqMt (n) (n) W).trans (by rw [decide_eq_true rfl])
                go_wp2_with (first
                  | (refine wpList_row MetaT _ rfl g rfl rfl MetaT _ (0, 0) _ T.out.bx Try.underlying30 rfl rfl ?_)
                  | (refine wpList_row MetaT _ rfl k rfl rfl MetaT _ (0, 0) _ K.out Try.underlying30 rfl rfl ?_))
                go_ret
                exact ⟨rfl, T.out.s.hb⟩

            · have HCH := Lib.hid (show Sp.choose a (b ++ [122]) = some m by rw [Sp.choose_eq, HA.out, HMB.out]; rfl)
              go_upto_region 19 with fail
              obtain ⟨x0, x1, x2, x3, x4, x5⟩ := T.out.s.bm.at6
              have ⟨z0, z1, z2, z3, z4, z5⟩ := T.out.bx.at6
              have f0 := T.out.bx.frozen
              have hl1 := HLA1.out
              go_region
              replace T := Lib.hid ((T.out.put6 m).go ((Below.refl _ _).drew))
              clear x0 x1 x2 x3 x4 x5 z0 z1 z2 z3 z4 z5 f0 hl1
              go_upto_region 20 with fail
              go_cut [16, 17] (fun s16 s17 W => ∃ k, s16 = .pointer (some ⟨k, 0, none⟩) ∧ s17 = .nilIface ∧ LtT w m n (m) g W ∧ Blk W k MetaT (mtV (m)).toArray)
              case first =>
                go_wp2_with (first
                  | (go_at_call 26; refine (choose_any (a) (b ++ [122]) _ (by omega) (by simp; omega)).mono ?_; rintro e w7 ⟨rfl, hb2⟩; rw [HCH.out, chooseV]; replace T := Lib.hid (T.out.go hb2); clear hb2)
                  | (refine wpList_new MetaT _ _ rfl rfl rfl rfl rfl rfl _ rfl (of_decide_eq_true (by kernel_rfl)) (by kernel_rfl) (by kernel_rfl) (by kernel_rfl) ?_))
                go_meet
                case rel => exact ⟨_, rfl, rfl, T.out.al _, Blk.new _ _ _⟩
              case rest =>
                obtain ⟨k, rfl, rfl, ht, hbk⟩ := hcut
                replace T := Lib.hid ht
                have K := Lib.hid hbk
                clear ht hbk HCH
                obtain ⟨W5, rfl⟩ : ∃ W, W = wc := ⟨_, rfl⟩
                have hq := fun W => (eqMt (m) (m) W).trans (by rw [decide_eq_true rfl])
                go_wp2_with (first
                  | (refine wpList_row MetaT _ rfl g rfl rfl MetaT _ (0, 0) _ T.out.bx Try.underlying30 rfl rfl ?_)
                  | (refine wpList_row MetaT _ rfl k rfl rfl MetaT _ (0, 0) _ K.out Try.underlying30 rfl rfl ?_))
                go_ret
                exact ⟨rfl, T.out.s.hb⟩

      · have hno1 : (n.txn % 2 == 1) = false := beq_eq_false_iff_ne.2 hno
        go_upto_region 11 with fail
        have hch : Sp.choose [] b = none := by rw [Sp.choose_eq, Sp.right_nil, HRB.out, if_neg hno]; rfl
        have HCH := Lib.hid hch
        clear hch hno hno1 hmo hmo1 cm0 cn0
        go_wp2_with (first
          | (go_at_call 26; refine (choose_any ([]) (b) _ (by simp) (by omega)).mono ?_; rintro e w7 ⟨rfl, hb2⟩; rw [HCH.out, chooseV]; replace S := Lib.hid (S.out.go hb2); clear hb2)
          | (refine wpList_new MetaT _ _ rfl rfl rfl rfl rfl rfl _ rfl (of_decide_eq_true (by kernel_rfl)) (by kernel_rfl) (by kernel_rfl) (by kernel_rfl) ?_)
          | (go_at_call 22; refine (errIs_same 12 _).mono ?_; rintro e w7 ⟨rfl, rfl⟩))
        go_ret
        exact ⟨rfl, (S.out.al _).hb⟩
    · have hmo1 : (m.txn % 2 == 0) = false := beq_eq_false_iff_ne.2 hmo
      have hm1 : m.txn % 2 = 1 := by omega
      have hch : Sp.choose a [] = none := by rw [Sp.choose_eq, Sp.right_nil, HRA.out, if_neg hmo]; rfl
      have hch2 : Sp.choose [] a = some m := by rw [Sp.choose_eq, Sp.right_nil, HRA.out, if_pos hm1]; rfl
      have HCH := Lib.hid hch
      have HCH2 := Lib.hid hch2
      clear hch hch2
      go_upto_region 7 with fail
      clear hmo hmo1 hm1 cm0 cn0
      go_cut [9, 10] (fun s9 s10 W => s10 = .iface ErrT (.int .i64 12) ∧ LtS w m n W)
      case first =>
        go_wp2_with (first
          | (go_at_call 26; refine (choose_any (a) ([]) _ (by omega) (by simp)).mono ?_; rintro e w7 ⟨rfl, hb2⟩; rw [HCH.out, chooseV]; replace S := Lib.hid (S.out.go hb2); clear hb2)
          | (refine wpList_new MetaT _ _ rfl rfl rfl rfl rfl rfl _ rfl (of_decide_eq_true (by kernel_rfl)) (by kernel_rfl) (by kernel_rfl) (by kernel_rfl) ?_))
        go_meet
        case rel => exact ⟨rfl, S.out.al _⟩
      case rest =>
        obtain ⟨rfl, hs⟩ := hcut
        replace S := Lib.hid hs
        clear hs
        obtain ⟨W2, rfl⟩ : ∃ W, W = wc := ⟨_, rfl⟩
        go_upto_region 8 with fail
        go_cut [11, 12] (fun s11 s12 W => ∃ g, s11 = .pointer (some ⟨g, 0, none⟩) ∧ s12 = .nilIface ∧ LtT w m n m g W)
        case first =>
          go_wp2_with (first
            | (go_at_call 26; refine (choose_any ([]) (a) _ (by simp) (by omega)).mono ?_; rintro e w7 ⟨rfl, hb2⟩; rw [HCH2.out, chooseV]; replace S := Lib.hid (S.out.go hb2); clear hb2)
            | (refine wpList_new MetaT _ _ rfl rfl rfl rfl rfl rfl _ rfl (of_decide_eq_true (by kernel_rfl)) (by kernel_rfl) (by kernel_rfl) (by kernel_rfl) ?_))
          go_meet
          case rel => exact ⟨_, rfl, rfl, LtT.new S.out _⟩
        case rest =>
          obtain ⟨g, rfl, rfl, ht⟩ := hcut
          have T := Lib.hid ht
          clear ht S
          obtain ⟨W3, rfl⟩ : ∃ W, W = wc := ⟨_, rfl⟩
          have hq := fun W => (eqMt m m W).trans (by rw [decide_eq_true rfl])
          go_wp2_with (first
            | (go_at_call 22; refine (errIs_same 12 _).mono ?_; rintro e w7 ⟨rfl, rfl⟩)
            | (refine wpList_row MetaT _ rfl g rfl rfl MetaT _ (0, 0) _ T.out.bx Try.underlying30 rfl rfl ?_)
            | (refine wpList_row MetaT _ rfl w.heap.size rfl rfl MetaT _ (0, 0) _ T.out.s.bm Try.underlying30 rfl rfl ?_))
          go_ret
          exact ⟨rfl, T.out.s.hb⟩
end Go.Proofs.Ytienlhckcpfknaa
