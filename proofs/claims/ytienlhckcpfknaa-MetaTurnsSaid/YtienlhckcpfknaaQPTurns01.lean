/- The meta that counts, of two texts: the walk (a channel, a select with a default). The third layer's known metas. The plain law of metas: which of two counts. Metas compared. -/
import Derived.Test.YtienlhckcpfknaaQPTurns00
set_option linter.unusedSimpArgs false
set_option linter.unusedVariables false
namespace Go.Proofs.Ytienlhckcpfknaa
open Go.RowKit
attribute [local go_sem low] mk_extract
attribute [local go_sem] After.cell After.frozen mk_extract_end ByteArray.mk_append_mk
open Go.Conc
namespace Sp
def right (s : Txt) (i : Int) : Option Mt := if readOk s = true ∧ (parse s).kind = 6 ∧ (parse s).mt.txn % 2 = i then some (parse s).mt else none
def later (out : Option Mt) (m : Mt) : Option Mt := match out with | none => some m | some o => if o.txn < m.txn then some m else some o
def choose (a b : Txt) : Option Mt := ((right a 0).toList ++ (right b 1).toList).foldl later none
def rights (a b : Txt) : Nat → List Mt
  | 0 => []
  | 1 => (right a 0).toList
  | _ => (right a 0).toList ++ (right b 1).toList
theorem rights_no0 {a b : Txt} (h : right a 0 = none) : rights a b 1 = rights a b 0 := by simp [rights, h]
theorem rights_no1 {a b : Txt} (h : right b 1 = none) : rights a b 2 = rights a b 1 := by simp [rights, h]
theorem rights_yes0 {a b : Txt} {m : Mt} (h : right a 0 = some m) : rights a b 1 = rights a b 0 ++ [m] := by simp [rights, h]
theorem rights_yes1 {a b : Txt} {m : Mt} (h : right b 1 = some m) : rights a b 2 = rights a b 1 ++ [m] := by simp [rights, h]
theorem right_rng {s : Txt} {i : Int} {m : Mt} (h : right s i = some m) : 0 ≤ m.txn ∧ m.txn < 18446744073709551616 := by
  unfold right at h
  split at h
  · injection h with h
    rw [← h]
    exact (parse_rng s).2
  · cases h
end Sp
abbrev MetaT : TypeId := 30
def mtA (m : Sp.Mt) : Value := .agg (mtV m).toArray
def chooseV : Option Sp.Mt → Value
  | some m => .tuple #[.agg (mtV m).toArray, .nilIface]
  | none => .tuple #[.agg (mtV Sp.mt0).toArray, .iface ErrT (.int .i64 12)]
/-- The result's block, and the channel with what lies in it. -/
structure ChS (W0 : World) (r c : Nat) (l : List Sp.Mt) (w : World) : Prop where
  hb : Below W0.heap.size W0 w
  hr : W0.heap.size ≤ r
  hc : W0.heap.size ≤ c
  hrc : r < c
  br : Blk w r MetaT (mtV Sp.mt0).toArray
  ch : ∃ s q, w.heap[c]? = some (.chan 2 (l.map mtA).toArray false s q false)
  rng : ∀ m, m ∈ l → 0 ≤ m.txn ∧ m.txn < 18446744073709551616
/-- How many metas lie in a channel. -/
def chLen (w : World) (c : Nat) : Nat := match w.heap[c]? with | some (.chan _ buf _ _ _ _) => buf.size | _ => 0
/-- The same, and the meta that is ahead so far, in block o. -/
structure ChT (W0 : World) (r c o : Nat) (out : Option Sp.Mt) (l : List Sp.Mt) (w : World) : Prop where
  s : ChS W0 r c l w
  bo : Blk w o MetaT (mtV (out.getD Sp.mt0)).toArray
  ho : W0.heap.size ≤ o ∧ o ≠ r ∧ o ≠ c
theorem ChS.go {W0 : World} {r c : Nat} {l : List Sp.Mt} {w w' : World} (h : ChS W0 r c l w) (hb : Below w.heap.size w w') : ChS W0 r c l w' := by
  obtain ⟨s, q, hc⟩ := h.ch
  have hcl : c < w.heap.size := by
    rcases Nat.lt_or_ge c w.heap.size with h1 | h1
    · exact h1
    · rw [Array.getElem?_eq_none h1] at hc; cases hc
  exact ⟨h.hb.trans (hb.mono h.hb.size), h.hr, h.hc, h.hrc, h.br.below hb h.br.lt, ⟨s, q, (hb.block c hcl).trans hc⟩, h.rng⟩
theorem ChS.lt {W0 : World} {r c : Nat} {l : List Sp.Mt} {w : World} (h : ChS W0 r c l w) : c < w.heap.size := by
  obtain ⟨s, q, hc⟩ := h.ch
  rcases Nat.lt_or_ge c w.heap.size with h1 | h1
  · exact h1
  · rw [Array.getElem?_eq_none h1] at hc; cases hc
theorem ChS.push {W0 : World} {r c : Nat} {l : List Sp.Mt} {w : World} (h : ChS W0 r c l w) (m : Sp.Mt) (hm : 0 ≤ m.txn ∧ m.txn < 18446744073709551616) {s q : Nat} (hc : w.heap[c]? = some (.chan 2 (l.map mtA).toArray false s q false)) :
    ChS W0 r c (l ++ [m]) (w.setChan c 2 ((l.map mtA).toArray.push (mtA m)) false (s + 1) q false) := by
  have hcl : c < w.heap.size := by
    rcases Nat.lt_or_ge c w.heap.size with h1 | h1
    · exact h1
    · rw [Array.getElem?_eq_none h1] at hc; cases hc
  refine ⟨below_setChan h.hb h.hc _ _ _ _ _ _, h.hr, h.hc, h.hrc, ?_, ⟨s + 1, q, ?_⟩, fun x hx => ?_⟩
  · have hne : c ≠ r := by have := h.hrc; omega
    have hbr := h.br
    unfold Blk at hbr ⊢
    simp only [World.setChan]
    rw [Array.getElem?_setIfInBounds_ne hne]
    exact hbr
  · rw [heap_setChan _ _ _ _ _ _ _ _ hcl]
    simp
  · rcases List.mem_append.1 hx with h1 | h1
    · exact h.rng x h1
    · rw [List.mem_singleton.1 h1]; exact hm
theorem pg_mt {w : World} {g : Nat} {p : Sp.Page} {x : Refs} (h : Blk w g PageT (pageV p x).toArray) : ∀ j v, (mtV p.mt).toArray[j]? = some v → w.cell? ⟨g, 8 + j, none⟩ = some v := fun j v hv => by
  rw [h.cell (8 + j)]
  match j, hv with
  | 0, hv => exact hv
  | 1, hv => exact hv
  | 2, hv => exact hv
  | 3, hv => exact hv
  | 4, hv => exact hv
  | 5, hv => exact hv
  | j + 6, hv => exact absurd hv (by simp [mtV])
theorem Sp.rights_room0 (a b : Txt) : ((Sp.rights a b 0).map mtA).toArray.size < 2 := by simp [Sp.rights]
theorem Sp.rights_room1 (a b : Txt) : ((Sp.rights a b 1).map mtA).toArray.size < 2 := by
  cases h : Sp.right a 0 <;> simp [Sp.rights, h]
theorem Blk.row {w : World} {g : Nat} {t : TypeId} {cs ds : Array Value} (h : Blk w g t cs) : Blk (w.setRow g ds) g t ds := setRow_heap w g cs ds t (0, 0) h
theorem below_setRow {B : Nat} {a w : World} (h : Below B a w) {g : Nat} (hg : B ≤ g) (cs : Array Value) : Below B a (w.setRow g cs) :=
  h.trans ⟨rfl, rfl, rfl, by simp, fun k hk => setRow_other w g k cs (by omega)⟩
theorem Blk.at6 {w : World} {g : Nat} {t : TypeId} {a b c d e f : Value} (h : Blk w g t #[a, b, c, d, e, f]) : w.cell? ⟨g, 0, none⟩ = some a ∧ w.cell? ⟨g, 1, none⟩ = some b ∧ w.cell? ⟨g, 2, none⟩ = some c ∧ w.cell? ⟨g, 3, none⟩ = some d ∧ w.cell? ⟨g, 4, none⟩ = some e ∧ w.cell? ⟨g, 5, none⟩ = some f :=
  ⟨h.cell 0, h.cell 1, h.cell 2, h.cell 3, h.cell 4, h.cell 5⟩
theorem ChT.pop {W0 : World} {r c o : Nat} {out : Option Sp.Mt} {m : Sp.Mt} {l : List Sp.Mt} {w : World} (h : ChT W0 r c o out (m :: l) w) {s q : Nat} (hc : w.heap[c]? = some (.chan 2 ((m :: l).map mtA).toArray false s q false)) :
    ChT W0 r c o out l (w.setChan c 2 (((m :: l).map mtA).toArray.extract 1 ((m :: l).map mtA).toArray.size) false s (q + 1) false) := by
  have hcl := h.s.lt
  have hk : ∀ g t cs, g ≠ c → Blk w g t cs → Blk (w.setChan c 2 (((m :: l).map mtA).toArray.extract 1 ((m :: l).map mtA).toArray.size) false s (q + 1) false) g t cs := fun g t cs hg hb => by
    unfold Blk at hb ⊢
    simp only [World.setChan]
    rw [Array.getElem?_setIfInBounds_ne (Ne.symm hg)]
    exact hb
  refine ⟨⟨below_setChan h.s.hb h.s.hc _ _ _ _ _ _, h.s.hr, h.s.hc, h.s.hrc, hk _ _ _ (by have := h.s.hrc; omega) h.s.br, ⟨s, q + 1, ?_⟩, fun x hx => h.s.rng x (List.mem_cons_of_mem _ hx)⟩, hk _ _ _ h.ho.2.2 h.bo, h.ho⟩
  rw [heap_setChan _ _ _ _ _ _ _ _ hcl]
  simp
  exact List.take_of_length_le (by simp)
theorem ChT.go {W0 : World} {r c o : Nat} {out : Option Sp.Mt} {l : List Sp.Mt} {w w' : World} (h : ChT W0 r c o out l w) (hb : Below w.heap.size w w') : ChT W0 r c o out l w' := ⟨h.s.go hb, h.bo.below hb h.bo.lt, h.ho⟩
theorem ChT.len {W0 : World} {r c o : Nat} {out : Option Sp.Mt} {l : List Sp.Mt} {w : World} (h : ChT W0 r c o out l w) : chLen w c = l.length := by
  obtain ⟨s, q, hc⟩ := h.s.ch
  unfold chLen
  rw [hc]
  simp
theorem ChT.put {W0 : World} {r c o : Nat} {out : Option Sp.Mt} {l : List Sp.Mt} {w : World} (h : ChT W0 r c o out l w) (m : Sp.Mt) : ChT W0 r c o (some m) l (w.setRow o (mtV m).toArray) := by
  obtain ⟨s, q, hc⟩ := h.s.ch
  have hb := h.s.br
  unfold Blk at hb
  exact ⟨⟨below_setRow h.s.hb h.ho.1 _, h.s.hr, h.s.hc, h.s.hrc, (setRow_other w o r _ (Ne.symm h.ho.2.1)).trans hb, ⟨s, q, (setRow_other w o c _ (Ne.symm h.ho.2.2)).trans hc⟩, h.s.rng⟩, h.bo.row, h.ho⟩
theorem mkChan (w : World) : (Instr.makeChan 107 (.int .i64 2)).run Try.prog w = .ok (.chan (some w.heap.size)) (w.alloc (.chan 2 #[] false 0 0 false)) := by kernel_rfl
set_option maxRecDepth 100000 in
set_option maxHeartbeats 6400000 in
theorem choose_any (a b : Txt) (w : World) (ha : a.length ≤ 4611686018427387904) (hb : b.length ≤ 4611686018427387904) :
    Calls Try.prog 26 #[.string ⟨a.toArray⟩, .string ⟨b.toArray⟩] w fun e w' => e = .returned (chooseV (Sp.choose a b)) ∧ Below w.heap.size w w' := by
  have hmk := mkChan
  go_enter Try.func26, Try.ntmps26
  go_upto_region 3 with fail
  have R0 := Lib.hid (show ChS w w.heap.size (w.heap.size + 1) (Sp.rights a b 0) ((w.alloc (.cells (mtV Sp.mt0).toArray MetaT)).alloc (.chan 2 #[] false 0 0 false)) from
    ⟨((Below.refl _ _).alloc (Nat.le_refl _) _).alloc (by simp) _, Nat.le_refl _, Nat.le_succ _, Nat.lt_succ_self _, (Blk.new w _ _).alloc _, ⟨0, 0, by have h := heap_alloc_new (w.alloc (.cells (mtV Sp.mt0).toArray MetaT)) (.chan 2 #[] false 0 0 false); rw [World.size_alloc] at h; exact h⟩, fun m hm => by cases hm⟩)
  clear hmk
  go_loopw [18] (fun i wr => ∃ k : Nat, k ≤ 2 ∧ i = .int .i64 k ∧ ChS w w.heap.size (w.heap.size + 1) (Sp.rights a b k) wr) (fun i _ => 2 - (intOf i).toNat)
  case atStart => exact ⟨0, by omega, rfl, R0.out⟩
  case round =>
    obtain ⟨k, hk, rfl, hs⟩ := hrel
    have R := Lib.hid hs
    clear hs R0
    rcases (by omega : k = 0 ∨ k = 1 ∨ k = 2) with rfl | rfl | rfl
    · have hix : ∀ W : World, (Instr.index 68 (.agg #[.string ⟨a.toArray⟩, .string ⟨b.toArray⟩]) (.int .i64 0)).run Try.prog W = .ok (.string ⟨a.toArray⟩) W := fun _ => by kernel_rfl
      go_upto_region 5 with fail
      clear hix
      rcases hok : Sp.readOk a with _ | _
      · have HOK := Lib.hid hok
        have HNO := Lib.hid (Sp.rights_no0 (a := a) (b := b) (show Sp.right a 0 = none by unfold Sp.right; rw [hok]; simp))
        clear hok
        go_cut [9, 10] (fun s9 s10 W => s10 = .iface ErrT (.int .i64 12) ∧ ChS w w.heap.size (w.heap.size + 1) (Sp.rights a b 0) W)
        case first =>
          go_wp2_with (first
            | (go_at_call 14; refine (read_any a _ ha).mono ?_; rintro e w7 ⟨x, rfl, hx, hb2⟩; rw [readV_no HOK.out]; replace R := Lib.hid (R.out.go hb2); clear hb2 hx)
            | (refine wpList_new PageT _ _ rfl rfl rfl rfl rfl rfl _ rfl (of_decide_eq_true (by kernel_rfl)) (by kernel_rfl) (by kernel_rfl) (by kernel_rfl) ?_))
          go_meet
          case rel => exact ⟨rfl, R.out.go ((Below.refl _ _).alloc (Nat.le_refl _) _)⟩
        case rest =>
          obtain ⟨rfl, hs⟩ := hcut
          go_wp2_with fail
          exact ⟨⟨1, by omega, rfl, by rw [HNO.out]; exact hs⟩, by simp [intOf]⟩
      · have HOK := Lib.hid hok
        go_cut [9, 10] (fun s9 s10 W => ∃ g x, s9 = .pointer (some ⟨g, 0, none⟩) ∧ s10 = .nilIface ∧ ChS w w.heap.size (w.heap.size + 1) (Sp.rights a b 0) W ∧ Blk W g PageT (pageV (Sp.parse a) x).toArray)
        case first =>
          go_wp2_with (first
            | (go_at_call 14; refine (read_any a _ ha).mono ?_; rintro e w7 ⟨x, rfl, hx, hb2⟩; rw [readV_yes HOK.out]; replace R := Lib.hid (R.out.go hb2); clear hb2 hx)
            | (refine wpList_new PageT _ _ rfl rfl rfl rfl rfl rfl _ rfl (of_decide_eq_true (by kernel_rfl)) (by kernel_rfl) (by kernel_rfl) (by kernel_rfl) ?_))
          go_meet
          case rel => exact ⟨_, x, rfl, rfl, R.out.go ((Below.refl _ _).alloc (Nat.le_refl _) _), Blk.new _ _ _⟩
        case rest =>
          obtain ⟨g, x, rfl, rfl, hs, hbg⟩ := hcut
          obtain ⟨w2, rfl⟩ : ∃ W, W = wc := ⟨_, rfl⟩
          replace R := Lib.hid hs
          have HG := Lib.hid hbg
          have c0 : w2.cell? ⟨g, 0, none⟩ = some (.int .i64 (Sp.parse a).kind) := hbg.cell 0
          have c8 : w2.cell? ⟨g, 8, none⟩ = some (.int .u64 (Sp.parse a).mt.txn) := hbg.cell 8
          have hrg := (Sp.parse_rng a).2
          clear hs hbg
          by_cases hkd : (Sp.parse a).kind = 6
          · by_cases htx : (Sp.parse a).mt.txn % 2 = 0
            · have HYS := Lib.hid (Sp.rights_yes0 (a := a) (b := b) (show Sp.right a 0 = some (Sp.parse a).mt by unfold Sp.right; rw [if_pos ⟨hok, hkd, htx⟩]))
              have b1 : ((Sp.parse a).kind == 6) = true := beq_iff_eq.2 hkd
              have b2 : ((Sp.parse a).mt.txn % 2 == 0) = true := beq_iff_eq.2 htx
              clear hkd htx hok
              go_upto_region 7 with (go_at_call 30; refine (place_any _ hrg.1 hrg.2 _).mono ?_; rintro e w7 ⟨rfl, rfl⟩)
              obtain ⟨s, q, hc⟩ := R.out.ch
              have hld := run_loadVar_at (P := Try.prog) w2 g 8 MetaT (mtV (Sp.parse a).mt).toArray _ (pg_mt HG.out) Try.underlying30 rfl rfl
              refine InReg.region ?_
              show InReg _ _ _ [0, 1, 2, 3] _ _
              refine InReg.val (w' := w2) (v := .chan (some (w.heap.size + 1))) rfl rfl (by simp [go_sem, execOp, Act.eval]) ?_
              refine InReg.val (w' := w2) (v := .pointer (some ⟨g, 8, none⟩)) rfl rfl (by simp [go_sem, execOp, Act.eval, Act.put]) ?_
              refine InReg.val (w' := w2) (v := mtA (Sp.parse a).mt) rfl rfl (by simp [execOp, Act.eval, Act.put, Instr.loadAt, Instr.sureAddr, hld, mtA]) ?_
              refine InReg.send (w' := w2) (c := w.heap.size + 1) (v := mtA (Sp.parse a).mt) (z := .tuple #[]) rfl rfl (by simp [go_sem, execOp, scase, Act.eval, Act.put]) hc (Sp.rights_room0 a b) ?_
              refine InReg.nil ?_
              have HP := Lib.hid (R.out.push _ hrg hc)
              clear hld hc R HG c0 c8
              go_wp2_with fail
              exact ⟨⟨1, by omega, rfl, by rw [HYS.out]; first | exact HP.out | (have h := HP.out; rw [List.push_toArray] at h; exact h)⟩, by simp [intOf]⟩
            · have HNO := Lib.hid (Sp.rights_no0 (a := a) (b := b) (show Sp.right a 0 = none by unfold Sp.right; rw [if_neg (fun h => htx h.2.2)]))
              have b1 : ((Sp.parse a).kind == 6) = true := beq_iff_eq.2 hkd
              have b2 : ((Sp.parse a).mt.txn % 2 == 0) = false := beq_eq_false_iff_ne.2 htx
              clear hkd htx hok
              go_wp2_with (go_at_call 30; refine (place_any _ hrg.1 hrg.2 _).mono ?_; rintro e w7 ⟨rfl, rfl⟩)
              exact ⟨⟨1, by omega, rfl, by rw [HNO.out]; exact R.out⟩, by simp [intOf]⟩
          · have HNO := Lib.hid (Sp.rights_no0 (a := a) (b := b) (show Sp.right a 0 = none by unfold Sp.right; rw [if_neg (fun h => hkd h.2.1)]))
            have b1 : ((Sp.parse a).kind == 6) = false := beq_eq_false_iff_ne.2 hkd
            clear hkd hok
            go_wp2_with fail
            exact ⟨⟨1, by omega, rfl, by rw [HNO.out]; exact R.out⟩, by simp [intOf]⟩
    · have hix : ∀ W : World, (Instr.index 68 (.agg #[.string ⟨a.toArray⟩, .string ⟨b.toArray⟩]) (.int .i64 1)).run Try.prog W = .ok (.string ⟨b.toArray⟩) W := fun _ => by kernel_rfl
      go_upto_region 5 with fail
      clear hix
      rcases hok : Sp.readOk b with _ | _
      · have HOK := Lib.hid hok
        have HNO := Lib.hid (Sp.rights_no1 (a := a) (b := b) (show Sp.right b 1 = none by unfold Sp.right; rw [hok]; simp))
        clear hok
        go_cut [9, 10] (fun s9 s10 W => s10 = .iface ErrT (.int .i64 12) ∧ ChS w w.heap.size (w.heap.size + 1) (Sp.rights a b 1) W)
        case first =>
          go_wp2_with (first
            | (go_at_call 14; refine (read_any b _ hb).mono ?_; rintro e w7 ⟨x, rfl, hx, hb2⟩; rw [readV_no HOK.out]; replace R := Lib.hid (R.out.go hb2); clear hb2 hx)
            | (refine wpList_new PageT _ _ rfl rfl rfl rfl rfl rfl _ rfl (of_decide_eq_true (by kernel_rfl)) (by kernel_rfl) (by kernel_rfl) (by kernel_rfl) ?_))
          go_meet
          case rel => exact ⟨rfl, R.out.go ((Below.refl _ _).alloc (Nat.le_refl _) _)⟩
        case rest =>
          obtain ⟨rfl, hs⟩ := hcut
          go_wp2_with fail
          exact ⟨⟨2, by omega, rfl, by rw [HNO.out]; exact hs⟩, by simp [intOf]⟩
      · have HOK := Lib.hid hok
        go_cut [9, 10] (fun s9 s10 W => ∃ g x, s9 = .pointer (some ⟨g, 0, none⟩) ∧ s10 = .nilIface ∧ ChS w w.heap.size (w.heap.size + 1) (Sp.rights a b 1) W ∧ Blk W g PageT (pageV (Sp.parse b) x).toArray)
        case first =>
          go_wp2_with (first
            | (go_at_call 14; refine (read_any b _ hb).mono ?_; rintro e w7 ⟨x, rfl, hx, hb2⟩; rw [readV_yes HOK.out]; replace R := Lib.hid (R.out.go hb2); clear hb2 hx)
            | (refine wpList_new PageT _ _ rfl rfl rfl rfl rfl rfl _ rfl (of_decide_eq_true (by kernel_rfl)) (by kernel_rfl) (by kernel_rfl) (by kernel_rfl) ?_))
          go_meet
          case rel => exact ⟨_, x, rfl, rfl, R.out.go ((Below.refl _ _).alloc (Nat.le_refl _) _), Blk.new _ _ _⟩
        case rest =>
          obtain ⟨g, x, rfl, rfl, hs, hbg⟩ := hcut
          obtain ⟨w2, rfl⟩ : ∃ W, W = wc := ⟨_, rfl⟩
          replace R := Lib.hid hs
          have HG := Lib.hid hbg
          have c0 : w2.cell? ⟨g, 0, none⟩ = some (.int .i64 (Sp.parse b).kind) := hbg.cell 0
          have c8 : w2.cell? ⟨g, 8, none⟩ = some (.int .u64 (Sp.parse b).mt.txn) := hbg.cell 8
          have hrg := (Sp.parse_rng b).2
          clear hs hbg
          by_cases hkd : (Sp.parse b).kind = 6
          · by_cases htx : (Sp.parse b).mt.txn % 2 = 1
            · have HYS := Lib.hid (Sp.rights_yes1 (a := a) (b := b) (show Sp.right b 1 = some (Sp.parse b).mt by unfold Sp.right; rw [if_pos ⟨hok, hkd, htx⟩]))
              have b1 : ((Sp.parse b).kind == 6) = true := beq_iff_eq.2 hkd
              have b2 : ((Sp.parse b).mt.txn % 2 == 1) = true := beq_iff_eq.2 htx
              clear hkd htx hok
              go_upto_region 7 with (go_at_call 30; refine (place_any _ hrg.1 hrg.2 _).mono ?_; rintro e w7 ⟨rfl, rfl⟩)
              obtain ⟨s, q, hc⟩ := R.out.ch
              have hld := run_loadVar_at (P := Try.prog) w2 g 8 MetaT (mtV (Sp.parse b).mt).toArray _ (pg_mt HG.out) Try.underlying30 rfl rfl
              refine InReg.region ?_
              show InReg _ _ _ [0, 1, 2, 3] _ _
              refine InReg.val (w' := w2) (v := .chan (some (w.heap.size + 1))) rfl rfl (by simp [go_sem, execOp, Act.eval]) ?_
              refine InReg.val (w' := w2) (v := .pointer (some ⟨g, 8, none⟩)) rfl rfl (by simp [go_sem, execOp, Act.eval, Act.put]) ?_
              refine InReg.val (w' := w2) (v := mtA (Sp.parse b).mt) rfl rfl (by simp [execOp, Act.eval, Act.put, Instr.loadAt, Instr.sureAddr, hld, mtA]) ?_
              refine InReg.send (w' := w2) (c := w.heap.size + 1) (v := mtA (Sp.parse b).mt) (z := .tuple #[]) rfl rfl (by simp [go_sem, execOp, scase, Act.eval, Act.put]) hc (Sp.rights_room1 a b) ?_
              refine InReg.nil ?_
              have HP := Lib.hid (R.out.push _ hrg hc)
              clear hld hc R HG c0 c8
              go_wp2_with fail
              exact ⟨⟨2, by omega, rfl, by rw [HYS.out]; first | exact HP.out | (have h := HP.out; rw [List.push_toArray] at h; exact h)⟩, by simp [intOf]⟩
            · have HNO := Lib.hid (Sp.rights_no1 (a := a) (b := b) (show Sp.right b 1 = none by unfold Sp.right; rw [if_neg (fun h => htx h.2.2)]))
              have b1 : ((Sp.parse b).kind == 6) = true := beq_iff_eq.2 hkd
              have b2 : ((Sp.parse b).mt.txn % 2 == 1) = false := beq_eq_false_iff_ne.2 htx
              clear hkd htx hok
              go_wp2_with (go_at_call 30; refine (place_any _ hrg.1 hrg.2 _).mono ?_; rintro e w7 ⟨rfl, rfl⟩)
              exact ⟨⟨2, by omega, rfl, by rw [HNO.out]; exact R.out⟩, by simp [intOf]⟩
          · have HNO := Lib.hid (Sp.rights_no1 (a := a) (b := b) (show Sp.right b 1 = none by unfold Sp.right; rw [if_neg (fun h => hkd h.2.1)]))
            have b1 : ((Sp.parse b).kind == 6) = false := beq_eq_false_iff_ne.2 hkd
            clear hkd hok
            go_wp2_with fail
            exact ⟨⟨2, by omega, rfl, by rw [HNO.out]; exact R.out⟩, by simp [intOf]⟩
    · go_upto_region 9 with fail
      go_cut [11] (fun s11 W => s11 = .pointer (some ⟨wr.heap.size, 0, none⟩) ∧ ChS w w.heap.size (w.heap.size + 1) (Sp.rights a b 2) W ∧ Blk W wr.heap.size MetaT (mtV Sp.mt0).toArray)
      case first =>
        go_wp2_with fail
        go_meet
        case rel => exact ⟨rfl, R.out.go ((Below.refl _ _).alloc (Nat.le_refl _) _), Blk.new _ _ _⟩
      case rest =>
        obtain ⟨rfl, hs, hbo⟩ := hcut
        obtain ⟨w2, rfl⟩ : ∃ W, W = wc := ⟨_, rfl⟩
        have hro := R.out.lt
        generalize wr.heap.size = o at *
        have T0 := Lib.hid (show ChT w w.heap.size (w.heap.size + 1) o none (Sp.rights a b 2) w2 from ⟨hs, hbo, by omega⟩)
        clear hs hbo R
        go_wp2_with fail
        go_loopw [12] (fun f wr => ∃ out l, f = .bool (Option.isSome out) ∧ ChT w w.heap.size (w.heap.size + 1) o out l wr ∧ l.foldl Sp.later out = Sp.choose a b) (fun _ W => chLen W (w.heap.size + 1))
        case atStart => exact ⟨none, Sp.rights a b 2, rfl, T0.out, rfl⟩
        case round =>
          obtain ⟨out, l, rfl, ht, hfo⟩ := hrel
          have T := Lib.hid ht
          have HF := Lib.hid hfo
          clear ht hfo T0
          obtain ⟨s, q, hc⟩ := T.out.s.ch
          go_upto_region 12 with fail
          rcases l with _ | ⟨m, l⟩
          · refine InReg.region ?_
            show InReg _ _ _ [0, 1, 2] _ _
            refine InReg.default (w' := wr) (c := w.heap.size + 1) (z := mtA Sp.mt0) rfl rfl (by simp [go_sem, execOp, rcase, Act.eval]; rfl) hc ?_
            refine InReg.val (w' := wr) (v := goInt (-1)) rfl rfl (by simp [go_sem, execOp, Act.eval, Act.put]) ?_
            refine InReg.val (w' := wr) (v := .bool false) rfl rfl (by simp [go_sem, execOp, Act.eval, Act.put, goInt]) ?_
            refine InReg.nil ?_
            clear hc
            rcases out with _ | m
            · go_wp2_with (refine wpList_store_row rfl MetaT _ _ rfl w.heap.size _ rfl rfl MetaT (mtV Sp.mt0).toArray T.out.s.br (by kernel_rfl) rfl (by kernel_rfl) ?_)
              have hfo := HF.out
              rw [List.foldl_nil] at hfo
              have hz := (T.out.s.br.row (ds := #[.int .u64 0, .int .i64 0, .int .i64 0, .int .i64 0, .int .i64 0, .int .i64 0])).at6
              obtain ⟨z0, z1, z2, z3, z4, z5⟩ := hz
              refine bodyPost_ret (v := chooseV none) (by simp [results, Try.results26, go_sem, chooseV, mtV, Sp.mt0, Sp.root0, z0, z1, z2, z3, z4, z5]) rfl ⟨by rw [← hfo], below_setRow T.out.s.hb T.out.s.hr _⟩
            · go_wp2_with (first
                | (refine wpList_row MetaT _ rfl o rfl rfl MetaT _ (0, 0) _ T.out.bo Try.underlying30 rfl rfl ?_)
                | (refine wpList_store_row rfl MetaT _ _ rfl w.heap.size _ rfl rfl MetaT (mtV Sp.mt0).toArray T.out.s.br (by kernel_rfl) rfl (by kernel_rfl) ?_))
              have hfo := HF.out
              rw [List.foldl_nil] at hfo
              have hz := (T.out.s.br.row (ds := #[.int .u64 m.txn, .int .i64 m.main.page, .int .i64 m.main.count, .int .i64 m.main.flags, .int .i64 m.free, .int .i64 m.last])).at6
              obtain ⟨z0, z1, z2, z3, z4, z5⟩ := hz
              refine bodyPost_ret (v := chooseV (some m)) (by simp [results, Try.results26, go_sem, chooseV, mtV, Sp.mt0, Sp.root0, z0, z1, z2, z3, z4, z5]) rfl ⟨by rw [← hfo], below_setRow T.out.s.hb T.out.s.hr _⟩
          · refine InReg.region ?_
            show InReg _ _ _ [0, 1, 2] _ _
            refine InReg.recv (w' := wr) (c := w.heap.size + 1) (z := mtA Sp.mt0) rfl rfl (by simp [go_sem, execOp, rcase, Act.eval]; rfl) hc (by simp) ?_
            have hW := Lib.hid (T.out.pop hc)
            refine InReg.val (w' := wr.setChan (w.heap.size + 1) 2 (((m :: l).map mtA).toArray.extract 1 ((m :: l).map mtA).toArray.size) false s (q + 1) false) (v := goInt 0) rfl rfl (by simp [go_sem, execOp, Act.eval, Act.put]) ?_
            refine InReg.val (w' := wr.setChan (w.heap.size + 1) 2 (((m :: l).map mtA).toArray.extract 1 ((m :: l).map mtA).toArray.size) false s (q + 1) false) (v := .bool true) rfl rfl (by simp [go_sem, execOp, Act.eval, Act.put, goInt]) ?_
            refine InReg.nil ?_
            rw [show (((m :: l).map mtA).toArray.getD 0 undef) = mtA m from rfl]
            have hcl : chLen (wr.setChan (w.heap.size + 1) 2 (((m :: l).map mtA).toArray.extract 1 ((m :: l).map mtA).toArray.size) false s (q + 1) false) (w.heap.size + 1) < chLen wr (w.heap.size + 1) := by
              unfold chLen
              rw [hc, heap_setChan _ _ _ _ _ _ _ _ T.out.s.lt]
              simp
            generalize wr.setChan (w.heap.size + 1) 2 (((m :: l).map mtA).toArray.extract 1 ((m :: l).map mtA).toArray.size) false s (q + 1) false = w5 at *
            clear hc
            have HCL := Lib.hid hcl
            clear hcl
            have hlen : chLen wr (w.heap.size + 1) = l.length + 1 := T.out.len
            have HLN := Lib.hid hlen
            clear hlen HCL
            replace T := Lib.hid hW.out
            clear hW
            go_upto_region 16 with fail
            go_simp
            go_cut [13] (fun s13 W => ∃ g, s13 = .pointer (some ⟨g, 0, none⟩) ∧ ChT w w.heap.size (w.heap.size + 1) o out l W ∧ Blk W g MetaT (mtV m).toArray)
            case first =>
              simp only [mtA]
              go_wp2_with (refine wpList_new MetaT _ _ rfl rfl rfl rfl rfl rfl _ rfl (of_decide_eq_true (by kernel_rfl)) (by kernel_rfl) (by kernel_rfl) (by kernel_rfl) ?_)
              go_meet
              case rel => exact ⟨_, rfl, T.out.go ((Below.refl _ _).alloc (Nat.le_refl _) _), Blk.new _ _ _⟩
            case rest =>
              obtain ⟨g, rfl, ht, hbg⟩ := hcut
              obtain ⟨w6, rfl⟩ : ∃ W, W = wc := ⟨_, rfl⟩
              have hf := HF.out
              rw [List.foldl_cons] at hf
              replace HF := Lib.hid hf
              replace T := Lib.hid ht
              have HG := Lib.hid hbg
              have c0 : w6.cell? ⟨g, 0, none⟩ = some (.int .u64 m.txn) := hbg.cell 0
              clear hf ht hbg
              rcases out with _ | o1
              · go_wp2_with (first
                  | (refine wpList_row MetaT _ rfl g rfl rfl MetaT _ (0, 0) _ HG.out Try.underlying30 rfl rfl ?_)
                  | (refine wpList_store_row rfl MetaT _ _ rfl o _ rfl rfl MetaT (mtV Sp.mt0).toArray T.out.bo (by kernel_rfl) rfl (by kernel_rfl) ?_))
                go_roundw
                case measure =>
                  rw [HLN.out, (T.out.put m).len]
                  exact Nat.lt_succ_self _
                case rel =>
                  repeat apply Exists.intro
                  exact ⟨⟨some m, l, rfl, T.out.put m, HF.out⟩, rfl⟩
              · have o0 : w6.cell? ⟨o, 0, none⟩ = some (.int .u64 o1.txn) := T.out.bo.cell 0
                by_cases hlt : o1.txn < m.txn
                · have hl : Sp.later (some o1) m = some m := by simp [Sp.later, hlt]
                  have HL := Lib.hid hl
                  clear hl
                  go_wp2_with (first
                    | (refine wpList_row MetaT _ rfl g rfl rfl MetaT _ (0, 0) _ HG.out Try.underlying30 rfl rfl ?_)
                    | (refine wpList_store_row rfl MetaT _ _ rfl o _ rfl rfl MetaT (mtV o1).toArray T.out.bo (by kernel_rfl) rfl (by kernel_rfl) ?_))
                  go_roundw
                  case measure =>
                    rw [HLN.out, (T.out.put m).len]
                    exact Nat.lt_succ_self _
                  case rel =>
                    repeat apply Exists.intro
                    exact ⟨⟨some m, l, rfl, T.out.put m, by rw [← HL.out]; exact HF.out⟩, rfl⟩
                · have hl : Sp.later (some o1) m = some o1 := by simp [Sp.later, hlt]
                  have HL := Lib.hid hl
                  clear hl
                  go_wp2_with fail
                  go_roundw
                  case measure =>
                    rw [HLN.out, T.out.len]
                    exact Nat.lt_succ_self _
                  case rel =>
                    exact ⟨some o1, rfl, l, T.out, by rw [← HL.out]; exact HF.out⟩
end Go.Proofs.Ytienlhckcpfknaa
namespace Go.Proofs.Ytienlhckcpfknaa
open Go.RowKit
attribute [local go_sem low] mk_extract
attribute [local go_sem] After.cell After.frozen mk_extract_end ByteArray.mk_append_mk
namespace Sp
def f0 : Mt := ⟨0, root0, 0, 2⟩
def f1 : Mt := ⟨1, root0, 0, 2⟩
def t0 : Txt := metaB f0
def t1 : Txt := metaB f1
theorem f0_fresh : fresh 0 = f0 := by decide +kernel
theorem f1_fresh : fresh 1 = f1 := by decide +kernel
theorem t_len : t0.length ≤ 4611686018427387904 ∧ t1.length ≤ 4611686018427387904 := by decide +kernel
theorem t_01 : choose t0 t1 = some f1 := by decide +kernel
theorem t_0x : choose t0 [120] = some f0 := by decide +kernel
theorem t_10 : choose t1 t0 = none := by decide +kernel
theorem t_00 : metaB mt0 = [] := by decide +kernel
end Sp
structure KxS (W0 : World) (w : World) : Prop where
  hb : Below W0.heap.size W0 w
set_option maxRecDepth 100000 in
set_option maxHeartbeats 3200000 in
theorem known3_any (w : World) : Calls Try.prog 25 #[] w fun e w' => e = .returned (.bool true) ∧ Below w.heap.size w w' := by
  have HB := Lib.hid (Below.refl w.heap.size w)
  go_enter Try.func25, Try.ntmps25
  go_upto_region 1 with fail
  go_cut [1, 2] (fun s1 s2 W => s1 = .string ⟨Sp.t0.toArray⟩ ∧ s2 = .string ⟨Sp.t1.toArray⟩ ∧ Below w.heap.size w W)
  case first =>
    go_wp2_with (first
      | (go_at_call 32; refine (fresh_any 0 _).mono ?_; rintro e w7 ⟨rfl, hb2⟩; rw [Sp.f0_fresh]; replace HB := Lib.hid (HB.out.trans (hb2.mono HB.out.size)); clear hb2)
      | (go_at_call 32; refine (fresh_any 1 _).mono ?_; rintro e w7 ⟨rfl, hb2⟩; rw [Sp.f1_fresh]; replace HB := Lib.hid (HB.out.trans (hb2.mono HB.out.size)); clear hb2)
      | (go_at_call 28; refine (metaBytes_any Sp.f0 _ (by decide)).mono ?_; rintro e w7 ⟨rfl, hb2⟩; rw [show Sp.metaB Sp.f0 = Sp.t0 from rfl]; replace HB := Lib.hid (HB.out.trans (hb2.mono HB.out.size)); clear hb2)
      | (go_at_call 28; refine (metaBytes_any Sp.f1 _ (by decide)).mono ?_; rintro e w7 ⟨rfl, hb2⟩; rw [show Sp.metaB Sp.f1 = Sp.t1 from rfl]; replace HB := Lib.hid (HB.out.trans (hb2.mono HB.out.size)); clear hb2))
    go_meet
    case rel => exact ⟨rfl, rfl, HB.out⟩
  case rest =>
    obtain ⟨rfl, rfl, hb1⟩ := hcut
    replace HB := Lib.hid hb1
    clear hb1
    go_upto_region 2 with fail
    go_cut [3, 4] (fun s3 s4 W => ∃ g, s3 = .pointer (some ⟨g, 0, none⟩) ∧ s4 = .nilIface ∧ Below w.heap.size w W ∧ Blk W g MetaT (mtV Sp.f1).toArray)
    case first =>
      go_wp2_with (first
        | (go_at_call 26; refine (choose_any Sp.t0 Sp.t1 _ Sp.t_len.1 Sp.t_len.2).mono ?_; rintro e w7 ⟨rfl, hb2⟩; rw [Sp.t_01, chooseV]; replace HB := Lib.hid (HB.out.trans (hb2.mono HB.out.size)); clear hb2)
        | (refine wpList_new MetaT _ _ rfl rfl rfl rfl rfl rfl _ rfl (of_decide_eq_true (by kernel_rfl)) (by kernel_rfl) (by kernel_rfl) (by kernel_rfl) ?_))
      go_meet
      case rel => exact ⟨_, rfl, rfl, HB.out.alloc HB.out.size _, Blk.new _ _ _⟩
    case rest =>
      obtain ⟨g1, rfl, rfl, hb1, hg1⟩ := hcut
      replace HB := Lib.hid hb1
      have G1 := Lib.hid hg1
      clear hb1 hg1
      go_upto_region 3 with fail
      go_cut [5, 6] (fun s3 s4 W => ∃ g, s3 = .pointer (some ⟨g, 0, none⟩) ∧ s4 = .nilIface ∧ Below w.heap.size w W ∧ Blk W g1 MetaT (mtV Sp.f1).toArray ∧ Blk W g MetaT (mtV Sp.f0).toArray)
      case first =>
        go_wp2_with (first
          | (go_at_call 26; refine (choose_any Sp.t0 [120] _ Sp.t_len.1 (by simp)).mono ?_; rintro e w7 ⟨rfl, hb2⟩; rw [Sp.t_0x, chooseV]; replace HB := Lib.hid (HB.out.trans (hb2.mono HB.out.size)); replace G1 := Lib.hid (G1.out.below hb2 G1.out.lt); clear hb2)
          | (refine wpList_new MetaT _ _ rfl rfl rfl rfl rfl rfl _ rfl (of_decide_eq_true (by kernel_rfl)) (by kernel_rfl) (by kernel_rfl) (by kernel_rfl) ?_))
        go_meet
        case rel => exact ⟨_, rfl, rfl, HB.out.alloc HB.out.size _, G1.out.alloc _, Blk.new _ _ _⟩
      case rest =>
        obtain ⟨g2, rfl, rfl, hb1, hg1, hg2⟩ := hcut
        replace HB := Lib.hid hb1
        replace G1 := Lib.hid hg1
        have G2 := Lib.hid hg2
        clear hb1 hg1 hg2
        go_upto_region 4 with fail
        go_cut [7, 8] (fun s3 s4 W => ∃ g, s3 = .pointer (some ⟨g, 0, none⟩) ∧ s4 = .iface ErrT (.int .i64 12) ∧ Below w.heap.size w W ∧ Blk W g1 MetaT (mtV Sp.f1).toArray ∧ Blk W g2 MetaT (mtV Sp.f0).toArray)
        case first =>
          go_wp2_with (first
            | (go_at_call 26; refine (choose_any Sp.t1 Sp.t0 _ Sp.t_len.2 Sp.t_len.1).mono ?_; rintro e w7 ⟨rfl, hb2⟩; rw [Sp.t_10, chooseV]; replace HB := Lib.hid (HB.out.trans (hb2.mono HB.out.size)); replace G1 := Lib.hid (G1.out.below hb2 G1.out.lt); replace G2 := Lib.hid (G2.out.below hb2 G2.out.lt); clear hb2)
            | (refine wpList_new MetaT _ _ rfl rfl rfl rfl rfl rfl _ rfl (of_decide_eq_true (by kernel_rfl)) (by kernel_rfl) (by kernel_rfl) (by kernel_rfl) ?_))
          go_meet
          case rel => exact ⟨_, rfl, rfl, HB.out.alloc HB.out.size _, G1.out.alloc _, G2.out.alloc _⟩
        case rest =>
          obtain ⟨g3, rfl, rfl, hb1, hg1, hg2⟩ := hcut
          replace HB := Lib.hid hb1
          have c10 : wc.cell? ⟨g1, 0, none⟩ = some (.int .u64 1) := hg1.cell 0
          have c13 : wc.cell? ⟨g1, 5, none⟩ = some (.int .i64 2) := hg1.cell 5
          have c20 : wc.cell? ⟨g2, 0, none⟩ = some (.int .u64 0) := hg2.cell 0
          clear hb1 hg1 hg2 G1 G2
          go_wp2_with (first
            | (go_at_call 22; refine (errIs_same 12 _).mono ?_; rintro e w7 ⟨rfl, rfl⟩)
            | (go_at_call 30; refine (place_any 7 (by decide) (by decide) _).mono ?_; rintro e w7 ⟨rfl, rfl⟩)
            | (go_at_call 28; refine (metaBytes_any Sp.mt0 _ (by decide)).mono ?_; rintro e w7 ⟨rfl, hb2⟩; rw [Sp.t_00]; replace HB := Lib.hid (HB.out.trans (hb2.mono HB.out.size)); clear hb2))
          go_ret
          exact ⟨rfl, HB.out⟩
end Go.Proofs.Ytienlhckcpfknaa
namespace Go.Proofs.Ytienlhckcpfknaa
open Go.RowKit
attribute [local go_sem low] mk_extract
attribute [local go_sem] After.cell After.frozen mk_extract_end ByteArray.mk_append_mk
namespace Sp
theorem pgM_is {m : Mt} (h : isMt m = true) : isPage (pgM m) = true := by
  have hm : m ≠ mt0 := by
    rintro rfl
    revert h
    decide
  simp [isPage, pgM, has, h]
theorem pgM_no {m : Mt} (h : isMt m = false) : isPage (pgM m) = false := by
  simp [isPage, pgM, h]
theorem pgM_rng {m : Mt} (hr : 0 ≤ m.txn ∧ m.txn < 18446744073709551616) : Rng (pgM m) := ⟨by simp [pgM], hr⟩
theorem metaB_no {m : Mt} (h : isMt m = false) : metaB m = [] := bytes_no (pgM_no h)
theorem metaB_len {m : Mt} (h : isMt m = true) : 16 ≤ (metaB m).length := bytes_len (pgM_is h)
theorem metaB_ne {m : Mt} (h : isMt m = true) : metaB m ≠ [] := fun e => by
  have := metaB_len h
  rw [e] at this
  simp at this
theorem right_bad {s : Txt} (h : readOk s = false) (i : Int) : right s i = none := by
  unfold right
  rw [if_neg (by simp [h])]
theorem right_metaB {m : Mt} (h : isMt m = true) (hr : 0 ≤ m.txn ∧ m.txn < 18446744073709551616) (i : Int) : right (metaB m) i = if m.txn % 2 = i then some m else none := by
  have h1 := pgM_is h
  have h2 := pgM_rng hr
  unfold right metaB
  rw [readOk_bytes h1 h2, parse_bytes h1 h2]
  simp [pgM]
theorem right_nil (i : Int) : right [] i = none := right_bad (by decide +kernel) i
theorem right_x (i : Int) : right [120] i = none := right_bad (by decide +kernel) i
theorem right_more {m : Mt} (h : isMt m = true) (hr : 0 ≤ m.txn ∧ m.txn < 18446744073709551616) {t : Txt} (ht : t ≠ []) (i : Int) : right (metaB m ++ t) i = none :=
  right_bad (more_no (pgM_is h) (pgM_rng hr) ht) i
theorem right_less {m : Mt} (h : isMt m = true) (hr : 0 ≤ m.txn ∧ m.txn < 18446744073709551616) {k : Nat} (hk : k < (metaB m).length) (i : Int) : right ((metaB m).take k) i = none := by
  refine right_bad (less_no (pgM_is h) (pgM_rng hr) (t := (metaB m).drop k) (fun e => ?_) (List.take_append_drop k _).symm) i
  have := congrArg List.length e
  simp only [List.length_drop, List.length_nil] at this
  omega
theorem leN_cons (k : Nat) (n : Int) : leN (k + 1) n = UInt8.ofNat (n % 256).toNat :: leN k (n / 256) := rfl
theorem kind_no {p : Page} (h1 : p.kind = 0 ∨ p.kind = 1073741824) : isPage p = false := by
  unfold isPage
  rcases h1 with h | h <;> rw [h] <;> simp
theorem page_kind (c : Cut) : c.page.1.kind = c.num.1 := by
  unfold Cut.page
  repeat' split
  all_goals rfl
theorem right_drop {m : Mt} (h : isMt m = true) (i : Int) : right ((metaB m).drop 1) i = none := by
  refine right_bad ?_ i
  have e : ∃ (u v z : Txt) (t0 : UInt8), (metaB m).drop 1 = u ++ (v ++ z) ∧ u.length = 8 ∧ v = [0, 0, 0, 0, 0, 0, 0, t0] := by
    refine ⟨leN 7 (sum (body (pgM m)) / 256) ++ [6], [0, 0, 0, 0, 0, 0, 0, UInt8.ofNat (m.txn % 256).toNat], leN 7 (m.txn / 256) ++ (rootB m.main ++ (le8 m.free ++ le8 m.last)), _, ?_, by simp [leN_length], rfl⟩
    unfold metaB
    rw [bytes_of (pgM_is h)]
    have e2 : body (pgM m) = le8 6 ++ mtB m := by simp [body, partsB, pgM]
    have e3 : le8 6 = [6, 0, 0, 0, 0, 0, 0, 0] := by decide
    have hS : ∀ n, le8 n = UInt8.ofNat (n % 256).toNat :: leN 7 (n / 256) := fun _ => rfl
    generalize sum (body (pgM m)) = S
    rw [e2, e3, hS S]
    unfold mtB
    rw [hS m.txn]
    simp only [List.append_assoc, List.cons_append, List.nil_append, List.drop_succ_cons, List.drop_zero]
  obtain ⟨u, v, z, t0, e, hu, rfl⟩ := e
  rw [e]
  have hp : (parse (u ++ ([0, 0, 0, 0, 0, 0, 0, t0] ++ z))).kind = 0 ∨ (parse (u ++ ([0, 0, 0, 0, 0, 0, 0, t0] ++ z))).kind = 1073741824 := by
    unfold parse Cut.u64
    dsimp only
    rw [rest_app _ _ hu, page_kind]
    unfold Cut.num
    rw [take_app [0, 0, 0, 0, 0, 0, 0, t0] z (n := 8) rfl]
    simp only [unle]
    have := t0.toNat_lt
    have h0 : (0 : UInt8).toNat = 0 := rfl
    rw [h0]
    omega
  have hk := bytes_no (kind_no hp)
  unfold readOk
  rw [hk]
  simp only [Bool.and_eq_false_iff, decide_eq_false_iff_not]
  right
  intro h
  have := congrArg List.length h
  simp at this
def two : Option Mt → Option Mt → Option Mt
  | none, y => y
  | some m, none => some m
  | some m, some n => if m.txn < n.txn then some n else some m
theorem choose_eq (a b : Txt) : choose a b = two (right a 0) (right b 1) := by
  unfold choose
  cases right a 0 <;> cases right b 1 <;> simp [later, two]
def mt2 (n l : Int) : Mt := ⟨n, root0, 0, l⟩
theorem mt2_is {n l : Int} (h : 2 ≤ l ∧ l ≤ 400) : isMt (mt2 n l) = true := by
  simp [isMt, mt2, root0, isRoot, noneOr, h.1, h.2]
def neP (x y : Txt) : Nat → Txt
  | 0 => []
  | 1 => [120]
  | 2 => x ++ [122]
  | _ => y
def neQ (x y : Txt) : Nat → Txt
  | 0 => []
  | 1 => [120]
  | 2 => x
  | _ => y.take 5
theorem neither {n m : Int} (hn : 0 ≤ n ∧ n < 18446744073709551616) (hm : 0 ≤ m ∧ m < 18446744073709551616) (h0 : n % 2 = 0) (h1 : m % 2 = 1) (i j : Nat) : choose (neP (metaB (mt2 n 2)) (metaB (mt2 m 2)) i) (neQ (metaB (mt2 n 2)) (metaB (mt2 m 2)) j) = none := by
  have x := mt2_is (n := n) (l := 2) (by omega)
  have y := mt2_is (n := m) (l := 2) (by omega)
  have hy := metaB_len y
  have hp : right (neP (metaB (mt2 n 2)) (metaB (mt2 m 2)) i) 0 = none := by
    unfold neP
    split
    · exact right_nil 0
    · exact right_x 0
    · exact right_more x hn (by simp) 0
    · rw [right_metaB y hm, if_neg (by show ¬ m % 2 = 0; omega)]
  have hq : right (neQ (metaB (mt2 n 2)) (metaB (mt2 m 2)) j) 1 = none := by
    unfold neQ
    split
    · exact right_nil 1
    · exact right_x 1
    · rw [right_metaB x hn, if_neg (by show ¬ n % 2 = 1; omega)]
    · exact right_less y hm (by omega) 1
  rw [choose_eq, hp, hq]
  rfl
theorem metaB2_len {n : Int} : (metaB (mt2 n 2)).length ≤ 100 := by
  rw [metaB, bytes_of (pgM_is (mt2_is (by omega)))]
  simp [body, partsB, pgM, mtB, le8_length, rootB_len]
theorem ne_len {n m : Int} (i j : Nat) : (neP (metaB (mt2 n 2)) (metaB (mt2 m 2)) i).length ≤ 4611686018427387904 ∧ (neQ (metaB (mt2 n 2)) (metaB (mt2 m 2)) j).length ≤ 4611686018427387904 := by
  have hl : ∀ n, (metaB (mt2 n 2)).length ≤ 100 := fun n => by
    rw [metaB, bytes_of (pgM_is (mt2_is (by omega)))]
    simp [body, partsB, pgM, mtB, le8_length, rootB_len]
  have h1 := hl n
  have h2 := hl m
  constructor
  · unfold neP; split <;> (try simp) <;> omega
  · unfold neQ; split <;> (try simp) <;> omega
end Sp
end Go.Proofs.Ytienlhckcpfknaa
namespace Go.Proofs.Ytienlhckcpfknaa
open Go.RowKit
attribute [local go_sem low] mk_extract
attribute [local go_sem] After.cell After.frozen mk_extract_end ByteArray.mk_append_mk
theorem Sp.root_eq (a b : Sp.Root) : decide (a = b) = (a.page == b.page && (a.count == b.count && a.flags == b.flags)) := by
  obtain ⟨a1, a2, a3⟩ := a
  obtain ⟨b1, b2, b3⟩ := b
  by_cases h1 : a1 = b1 <;> by_cases h2 : a2 = b2 <;> by_cases h3 : a3 = b3 <;> simp [h1, h2, h3]
theorem Sp.mt_eq (a b : Sp.Mt) : decide (a = b) = (a.txn == b.txn && (decide (a.main = b.main) && (a.free == b.free && a.last == b.last))) := by
  obtain ⟨a1, a2, a3, a4⟩ := a
  obtain ⟨b1, b2, b3, b4⟩ := b
  by_cases h1 : a1 = b1 <;> by_cases h2 : a2 = b2 <;> by_cases h3 : a3 = b3 <;> by_cases h4 : a4 = b4 <;> simp [h1, h2, h3, h4]
theorem eqRoot (m n : Sp.Root) (W : World) : (Op.equalIn 9999 28 (.agg (rootV m).toArray) (.agg (rootV n).toArray)).run Try.prog W = .ok (decide (m = n)) W := by
  have hS : Try.prog.underlying 28 = some (.struct (Try.prog.fieldsOf 28)) := by kernel_rfl
  have hp : Try.prog.stoodInHeld 28 = false := by kernel_rfl
  have u3 := Try.underlying3
  rw [show (9999 : Nat) = 9998 + 1 from rfl, run_equalIn_agg W 9998 28 _ _ hS hp, Sp.root_eq]
  simp only [Program.fieldsOf, Try.underlying28, Op.eqFields, rootV]
  go_simp
  by_cases h1 : m.page = n.page <;> by_cases h2 : m.count = n.count <;> by_cases h3 : m.flags = n.flags <;> simp [h1, h2, h3]
theorem eqMt (m n : Sp.Mt) (W : World) : (Op.equalIn 10000 MetaT (.agg (mtV m).toArray) (.agg (mtV n).toArray)).run Try.prog W = .ok (decide (m = n)) W := by
  have hS : Try.prog.underlying MetaT = some (.struct (Try.prog.fieldsOf MetaT)) := by kernel_rfl
  have hp : Try.prog.stoodInHeld MetaT = false := by kernel_rfl
  have u3 := Try.underlying3
  have u26 := Try.underlying26
  have hr := fun W => eqRoot m.main n.main W
  simp only [rootV] at hr
  rw [show (10000 : Nat) = 9999 + 1 from rfl, run_equalIn_agg W 9999 MetaT _ _ hS hp, Sp.mt_eq]
  simp only [Program.fieldsOf, Try.underlying30, Op.eqFields, mtV]
  go_simp
  by_cases h1 : m.txn = n.txn <;> by_cases h2 : m.main = n.main <;> by_cases h3 : m.free = n.free <;> by_cases h4 : m.last = n.last <;> simp [h1, h2, h3, h4]
end Go.Proofs.Ytienlhckcpfknaa
