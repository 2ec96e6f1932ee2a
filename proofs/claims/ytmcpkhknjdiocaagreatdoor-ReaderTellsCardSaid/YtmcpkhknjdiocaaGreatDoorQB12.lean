/- The meta that counts, of two texts: the walk (a channel, a select with a default). The lock file: a slot claimed (a channel, a select with a default). -/
import Derived.Test.YtmcpkhknjdiocaaGreatDoorQB10
import Derived.Test.YtmcpkhknjdiocaaGreatDoorQB11
set_option linter.unusedSimpArgs false
set_option linter.unusedVariables false
namespace Go.Proofs.YtmcpkhknjdiocaaGreatDoor
open Go.RowKit
attribute [local go_sem low] mk_extract
attribute [local go_sem] After.cell After.frozen mk_extract_end ByteArray.mk_append_mk
open Go.Conc
namespace Sp
def right (s : Txt) (i : Int) : Option Mt := if readOk s = true ∧ (parse s).kind = 6 ∧ (parse s).mt.txn % 2 = i then some (parse s).mt else none
def later (out : Option Mt) (m : Mt) : Option Mt := match out with | none => some m | some o => if o.txn < m.txn then some m else some o
def choose (a b : Txt) : Option Mt := ((right a 0).toList ++ (right b 1).toList).foldl later none
def rights (a b : Txt) : Nat → List Mt
  | 0 => []
  | 1 => (right a 0).toList
  | _ => (right a 0).toList ++ (right b 1).toList
theorem rights_no0 {a b : Txt} (h : right a 0 = none) : rights a b 1 = rights a b 0 := by simp [rights, h]
theorem rights_no1 {a b : Txt} (h : right b 1 = none) : rights a b 2 = rights a b 1 := by simp [rights, h]
theorem rights_yes0 {a b : Txt} {m : Mt} (h : right a 0 = some m) : rights a b 1 = rights a b 0 ++ [m] := by simp [rights, h]
theorem rights_yes1 {a b : Txt} {m : Mt} (h : right b 1 = some m) : rights a b 2 = rights a b 1 ++ [m] := by simp [rights, h]
theorem right_rng {s : Txt} {i : Int} {m : Mt} (h : right s i = some m) : 0 ≤ m.txn ∧ m.txn < 18446744073709551616 := by
  unfold right at h
  split at h
  · injection h with h
    rw [← h]
    exact (parse_rng s).2
  · cases h
end Sp
abbrev MetaT : TypeId := 49
def mtA (m : Sp.Mt) : Value := .agg (mtV m).toArray
def chooseV : Option Sp.Mt → Value
  | some m => .tuple #[.agg (mtV m).toArray, .nilIface]
  | none => .tuple #[.agg (mtV Sp.mt0).toArray, .iface ErrT (.int .i64 12)]
/-- The result's block, and the channel with what lies in it. -/
structure ChS (W0 : World) (r c : Nat) (l : List Sp.Mt) (w : World) : Prop where
  hb : Below W0.heap.size W0 w
  hr : W0.heap.size ≤ r
  hc : W0.heap.size ≤ c
  hrc : r < c
  br : Blk w r MetaT (mtV Sp.mt0).toArray
  ch : ∃ s q, w.heap[c]? = some (.chan 2 (l.map mtA).toArray false s q false)
  rng : ∀ m, m ∈ l → 0 ≤ m.txn ∧ m.txn < 18446744073709551616
/-- How many metas lie in a channel. -/
def chLen (w : World) (c : Nat) : Nat := match w.heap[c]? with | some (.chan _ buf _ _ _ _) => buf.size | _ => 0
/-- The same, and the meta that is ahead so far, in block o. -/
structure ChT (W0 : World) (r c o : Nat) (out : Option Sp.Mt) (l : List Sp.Mt) (w : World) : Prop where
  s : ChS W0 r c l w
  bo : Blk w o MetaT (mtV (out.getD Sp.mt0)).toArray
  ho : W0.heap.size ≤ o ∧ o ≠ r ∧ o ≠ c
theorem ChS.go {W0 : World} {r c : Nat} {l : List Sp.Mt} {w w' : World} (h : ChS W0 r c l w) (hb : Below w.heap.size w w') : ChS W0 r c l w' := by
  obtain ⟨s, q, hc⟩ := h.ch
  have hcl : c < w.heap.size := by
    rcases Nat.lt_or_ge c w.heap.size with h1 | h1
    · exact h1
    · rw [Array.getElem?_eq_none h1] at hc; cases hc
  exact ⟨h.hb.trans (hb.mono h.hb.size), h.hr, h.hc, h.hrc, h.br.below hb h.br.lt, ⟨s, q, (hb.block c hcl).trans hc⟩, h.rng⟩
theorem ChS.lt {W0 : World} {r c : Nat} {l : List Sp.Mt} {w : World} (h : ChS W0 r c l w) : c < w.heap.size := by
  obtain ⟨s, q, hc⟩ := h.ch
  rcases Nat.lt_or_ge c w.heap.size with h1 | h1
  · exact h1
  · rw [Array.getElem?_eq_none h1] at hc; cases hc
theorem ChS.push {W0 : World} {r c : Nat} {l : List Sp.Mt} {w : World} (h : ChS W0 r c l w) (m : Sp.Mt) (hm : 0 ≤ m.txn ∧ m.txn < 18446744073709551616) {s q : Nat} (hc : w.heap[c]? = some (.chan 2 (l.map mtA).toArray false s q false)) :
    ChS W0 r c (l ++ [m]) (w.setChan c 2 ((l.map mtA).toArray.push (mtA m)) false (s + 1) q false) := by
  have hcl : c < w.heap.size := by
    rcases Nat.lt_or_ge c w.heap.size with h1 | h1
    · exact h1
    · rw [Array.getElem?_eq_none h1] at hc; cases hc
  refine ⟨below_setChan h.hb h.hc _ _ _ _ _ _, h.hr, h.hc, h.hrc, ?_, ⟨s + 1, q, ?_⟩, fun x hx => ?_⟩
  · have hne : c ≠ r := by have := h.hrc; omega
    have hbr := h.br
    unfold Blk at hbr ⊢
    simp only [World.setChan]
    rw [Array.getElem?_setIfInBounds_ne hne]
    exact hbr
  · rw [heap_setChan _ _ _ _ _ _ _ _ hcl]
    simp
  · rcases List.mem_append.1 hx with h1 | h1
    · exact h.rng x h1
    · rw [List.mem_singleton.1 h1]; exact hm
theorem pg_mt {w : World} {g : Nat} {p : Sp.Page} {x : Refs} (h : Blk w g PageT (pageV p x).toArray) : ∀ j v, (mtV p.mt).toArray[j]? = some v → w.cell? ⟨g, 8 + j, none⟩ = some v := fun j v hv => by
  rw [h.cell (8 + j)]
  match j, hv with
  | 0, hv => exact hv
  | 1, hv => exact hv
  | 2, hv => exact hv
  | 3, hv => exact hv
  | 4, hv => exact hv
  | 5, hv => exact hv
  | j + 6, hv => exact absurd hv (by simp [mtV])
theorem Sp.rights_room0 (a b : Txt) : ((Sp.rights a b 0).map mtA).toArray.size < 2 := by simp [Sp.rights]
theorem Sp.rights_room1 (a b : Txt) : ((Sp.rights a b 1).map mtA).toArray.size < 2 := by
  cases h : Sp.right a 0 <;> simp [Sp.rights, h]
theorem Blk.row {w : World} {g : Nat} {t : TypeId} {cs ds : Array Value} (h : Blk w g t cs) : Blk (w.setRow g ds) g t ds := setRow_heap w g cs ds t (0, 0) h
theorem below_setRow {B : Nat} {a w : World} (h : Below B a w) {g : Nat} (hg : B ≤ g) (cs : Array Value) : Below B a (w.setRow g cs) :=
  h.trans ⟨rfl, rfl, rfl, by simp, fun k hk => setRow_other w g k cs (by omega)⟩
theorem Blk.at6 {w : World} {g : Nat} {t : TypeId} {a b c d e f : Value} (h : Blk w g t #[a, b, c, d, e, f]) : w.cell? ⟨g, 0, none⟩ = some a ∧ w.cell? ⟨g, 1, none⟩ = some b ∧ w.cell? ⟨g, 2, none⟩ = some c ∧ w.cell? ⟨g, 3, none⟩ = some d ∧ w.cell? ⟨g, 4, none⟩ = some e ∧ w.cell? ⟨g, 5, none⟩ = some f :=
  ⟨h.cell 0, h.cell 1, h.cell 2, h.cell 3, h.cell 4, h.cell 5⟩
theorem ChT.pop {W0 : World} {r c o : Nat} {out : Option Sp.Mt} {m : Sp.Mt} {l : List Sp.Mt} {w : World} (h : ChT W0 r c o out (m :: l) w) {s q : Nat} (hc : w.heap[c]? = some (.chan 2 ((m :: l).map mtA).toArray false s q false)) :
    ChT W0 r c o out l (w.setChan c 2 (((m :: l).map mtA).toArray.extract 1 ((m :: l).map mtA).toArray.size) false s (q + 1) false) := by
  have hcl := h.s.lt
  have hk : ∀ g t cs, g ≠ c → Blk w g t cs → Blk (w.setChan c 2 (((m :: l).map mtA).toArray.extract 1 ((m :: l).map mtA).toArray.size) false s (q + 1) false) g t cs := fun g t cs hg hb => by
    unfold Blk at hb ⊢
    simp only [World.setChan]
    rw [Array.getElem?_setIfInBounds_ne (Ne.symm hg)]
    exact hb
  refine ⟨⟨below_setChan h.s.hb h.s.hc _ _ _ _ _ _, h.s.hr, h.s.hc, h.s.hrc, hk _ _ _ (by have := h.s.hrc; omega) h.s.br, ⟨s, q + 1, ?_⟩, fun x hx => h.s.rng x (List.mem_cons_of_mem _ hx)⟩, hk _ _ _ h.ho.2.2 h.bo, h.ho⟩
  rw [heap_setChan _ _ _ _ _ _ _ _ hcl]
  simp
  exact List.take_of_length_le (by simp)
theorem ChT.go {W0 : World} {r c o : Nat} {out : Option Sp.Mt} {l : List Sp.Mt} {w w' : World} (h : ChT W0 r c o out l w) (hb : Below w.heap.size w w') : ChT W0 r c o out l w' := ⟨h.s.go hb, h.bo.below hb h.bo.lt, h.ho⟩
theorem ChT.len {W0 : World} {r c o : Nat} {out : Option Sp.Mt} {l : List Sp.Mt} {w : World} (h : ChT W0 r c o out l w) : chLen w c = l.length := by
  obtain ⟨s, q, hc⟩ := h.s.ch
  unfold chLen
  rw [hc]
  simp
theorem ChT.put {W0 : World} {r c o : Nat} {out : Option Sp.Mt} {l : List Sp.Mt} {w : World} (h : ChT W0 r c o out l w) (m : Sp.Mt) : ChT W0 r c o (some m) l (w.setRow o (mtV m).toArray) := by
  obtain ⟨s, q, hc⟩ := h.s.ch
  have hb := h.s.br
  unfold Blk at hb
  exact ⟨⟨below_setRow h.s.hb h.ho.1 _, h.s.hr, h.s.hc, h.s.hrc, (setRow_other w o r _ (Ne.symm h.ho.2.1)).trans hb, ⟨s, q, (setRow_other w o c _ (Ne.symm h.ho.2.2)).trans hc⟩, h.s.rng⟩, h.bo.row, h.ho⟩
theorem mkChan (w : World) : (Instr.makeChan 261 (.int .i64 2)).run Tryz.prog w = .ok (.chan (some w.heap.size)) (w.alloc (.chan 2 #[] false 0 0 false)) := by kernel_rfl
set_option maxRecDepth 100000 in
set_option maxHeartbeats 6400000 in
theorem choose_any (a b : Txt) (w : World) (ha : a.length ≤ 4611686018427387904) (hb : b.length ≤ 4611686018427387904) :
    Calls Tryz.prog 145 #[.string ⟨a.toArray⟩, .string ⟨b.toArray⟩] w fun e w' => e = .returned (chooseV (Sp.choose a b)) ∧ Below w.heap.size w w' := by
  have hmk := mkChan
  go_enter Tryz.func145, Tryz.ntmps145
  go_upto_region 3 with fail
  have R0 := Lib.hid (show ChS w w.heap.size (w.heap.size + 1) (Sp.rights a b 0) ((w.alloc (.cells (mtV Sp.mt0).toArray MetaT)).alloc (.chan 2 #[] false 0 0 false)) from
    ⟨((Below.refl _ _).alloc (Nat.le_refl _) _).alloc (by simp) _, Nat.le_refl _, Nat.le_succ _, Nat.lt_succ_self _, (Blk.new w _ _).alloc _, ⟨0, 0, by have h := heap_alloc_new (w.alloc (.cells (mtV Sp.mt0).toArray MetaT)) (.chan 2 #[] false 0 0 false); rw [World.size_alloc] at h; exact h⟩, fun m hm => by cases hm⟩)
  clear hmk
  go_loopw [18] (fun i wr => ∃ k : Nat, k ≤ 2 ∧ i = .int .i64 k ∧ ChS w w.heap.size (w.heap.size + 1) (Sp.rights a b k) wr) (fun i _ => 2 - (intOf i).toNat)
  case atStart => exact ⟨0, by omega, rfl, R0.out⟩
  case round =>
    obtain ⟨k, hk, rfl, hs⟩ := hrel
    have R := Lib.hid hs
    clear hs R0
    rcases (by omega : k = 0 ∨ k = 1 ∨ k = 2) with rfl | rfl | rfl
    · have hix : ∀ W : World, (Instr.index 204 (.agg #[.string ⟨a.toArray⟩, .string ⟨b.toArray⟩]) (.int .i64 0)).run Tryz.prog W = .ok (.string ⟨a.toArray⟩) W := fun _ => by kernel_rfl
      go_upto_region 5 with fail
      clear hix
      rcases hok : Sp.readOk a with _ | _
      · have HOK := Lib.hid hok
        have HNO := Lib.hid (Sp.rights_no0 (a := a) (b := b) (show Sp.right a 0 = none by unfold Sp.right; rw [hok]; simp))
        clear hok
        go_cut [9, 10] (fun s9 s10 W => s10 = .iface ErrT (.int .i64 12) ∧ ChS w w.heap.size (w.heap.size + 1) (Sp.rights a b 0) W)
        case first =>
          go_wp2_with (first
            | (go_at_call 152; refine (read_any a _ ha).mono ?_; rintro e w7 ⟨x, rfl, hx, hb2⟩; rw [readV_no HOK.out]; replace R := Lib.hid (R.out.go hb2); clear hb2 hx)
            | (refine wpList_new PageT _ _ rfl rfl rfl rfl rfl rfl _ rfl (of_decide_eq_true (by kernel_rfl)) (by kernel_rfl) (by kernel_rfl) (by kernel_rfl) ?_))
          go_meet
          case rel => exact ⟨rfl, R.out.go ((Below.refl _ _).alloc (Nat.le_refl _) _)⟩
        case rest =>
          obtain ⟨rfl, hs⟩ := hcut
          go_wp2_with fail
          exact ⟨⟨1, by omega, rfl, by rw [HNO.out]; exact hs⟩, by simp [intOf]⟩
      · have HOK := Lib.hid hok
        go_cut [9, 10] (fun s9 s10 W => ∃ g x, s9 = .pointer (some ⟨g, 0, none⟩) ∧ s10 = .nilIface ∧ ChS w w.heap.size (w.heap.size + 1) (Sp.rights a b 0) W ∧ Blk W g PageT (pageV (Sp.parse a) x).toArray)
        case first =>
          go_wp2_with (first
            | (go_at_call 152; refine (read_any a _ ha).mono ?_; rintro e w7 ⟨x, rfl, hx, hb2⟩; rw [readV_yes HOK.out]; replace R := Lib.hid (R.out.go hb2); clear hb2 hx)
            | (refine wpList_new PageT _ _ rfl rfl rfl rfl rfl rfl _ rfl (of_decide_eq_true (by kernel_rfl)) (by kernel_rfl) (by kernel_rfl) (by kernel_rfl) ?_))
          go_meet
          case rel => exact ⟨_, x, rfl, rfl, R.out.go ((Below.refl _ _).alloc (Nat.le_refl _) _), Blk.new _ _ _⟩
        case rest =>
          obtain ⟨g, x, rfl, rfl, hs, hbg⟩ := hcut
          obtain ⟨w2, rfl⟩ : ∃ W, W = wc := ⟨_, rfl⟩
          replace R := Lib.hid hs
          have HG := Lib.hid hbg
          have c0 : w2.cell? ⟨g, 0, none⟩ = some (.int .i64 (Sp.parse a).kind) := hbg.cell 0
          have c8 : w2.cell? ⟨g, 8, none⟩ = some (.int .u64 (Sp.parse a).mt.txn) := hbg.cell 8
          have hrg := (Sp.parse_rng a).2
          clear hs hbg
          by_cases hkd : (Sp.parse a).kind = 6
          · by_cases htx : (Sp.parse a).mt.txn % 2 = 0
            · have HYS := Lib.hid (Sp.rights_yes0 (a := a) (b := b) (show Sp.right a 0 = some (Sp.parse a).mt by unfold Sp.right; rw [if_pos ⟨hok, hkd, htx⟩]))
              have b1 : ((Sp.parse a).kind == 6) = true := beq_iff_eq.2 hkd
              have b2 : ((Sp.parse a).mt.txn % 2 == 0) = true := beq_iff_eq.2 htx
              clear hkd htx hok
              go_upto_region 7 with (go_at_call 165; refine (place_any _ hrg.1 hrg.2 _).mono ?_; rintro e w7 ⟨rfl, rfl⟩)
              obtain ⟨s, q, hc⟩ := R.out.ch
              have hld := run_loadVar_at (P := Tryz.prog) w2 g 8 MetaT (mtV (Sp.parse a).mt).toArray _ (pg_mt HG.out) Tryz.underlying49 rfl rfl
              refine InReg.region ?_
              show InReg _ _ _ [0, 1, 2, 3] _ _
              refine InReg.val (w' := w2) (v := .chan (some (w.heap.size + 1))) rfl rfl (by simp [go_sem, execOp, Act.eval]) ?_
              refine InReg.val (w' := w2) (v := .pointer (some ⟨g, 8, none⟩)) rfl rfl (by simp [go_sem, execOp, Act.eval, Act.put]) ?_
              refine InReg.val (w' := w2) (v := mtA (Sp.parse a).mt) rfl rfl (by simp [execOp, Act.eval, Act.put, Instr.loadAt, Instr.sureAddr, hld, mtA]) ?_
              refine InReg.send (w' := w2) (c := w.heap.size + 1) (v := mtA (Sp.parse a).mt) (z := .tuple #[]) rfl rfl (by simp [go_sem, execOp, scase, Act.eval, Act.put]) hc (Sp.rights_room0 a b) ?_
              refine InReg.nil ?_
              have HP := Lib.hid (R.out.push _ hrg hc)
              clear hld hc R HG c0 c8
              go_wp2_with fail
              exact ⟨⟨1, by omega, rfl, by rw [HYS.out]; first | exact HP.out | (have h := HP.out; rw [List.push_toArray] at h; exact h)⟩, by simp [intOf]⟩
            · have HNO := Lib.hid (Sp.rights_no0 (a := a) (b := b) (show Sp.right a 0 = none by unfold Sp.right; rw [if_neg (fun h => htx h.2.2)]))
              have b1 : ((Sp.parse a).kind == 6) = true := beq_iff_eq.2 hkd
              have b2 : ((Sp.parse a).mt.txn % 2 == 0) = false := beq_eq_false_iff_ne.2 htx
              clear hkd htx hok
              go_wp2_with (go_at_call 165; refine (place_any _ hrg.1 hrg.2 _).mono ?_; rintro e w7 ⟨rfl, rfl⟩)
              exact ⟨⟨1, by omega, rfl, by rw [HNO.out]; exact R.out⟩, by simp [intOf]⟩
          · have HNO := Lib.hid (Sp.rights_no0 (a := a) (b := b) (show Sp.right a 0 = none by unfold Sp.right; rw [if_neg (fun h => hkd h.2.1)]))
            have b1 : ((Sp.parse a).kind == 6) = false := beq_eq_false_iff_ne.2 hkd
            clear hkd hok
            go_wp2_with fail
            exact ⟨⟨1, by omega, rfl, by rw [HNO.out]; exact R.out⟩, by simp [intOf]⟩
    · have hix : ∀ W : World, (Instr.index 204 (.agg #[.string ⟨a.toArray⟩, .string ⟨b.toArray⟩]) (.int .i64 1)).run Tryz.prog W = .ok (.string ⟨b.toArray⟩) W := fun _ => by kernel_rfl
      go_upto_region 5 with fail
      clear hix
      rcases hok : Sp.readOk b with _ | _
      · have HOK := Lib.hid hok
        have HNO := Lib.hid (Sp.rights_no1 (a := a) (b := b) (show Sp.right b 1 = none by unfold Sp.right; rw [hok]; simp))
        clear hok
        go_cut [9, 10] (fun s9 s10 W => s10 = .iface ErrT (.int .i64 12) ∧ ChS w w.heap.size (w.heap.size + 1) (Sp.rights a b 1) W)
        case first =>
          go_wp2_with (first
            | (go_at_call 152; refine (read_any b _ hb).mono ?_; rintro e w7 ⟨x, rfl, hx, hb2⟩; rw [readV_no HOK.out]; replace R := Lib.hid (R.out.go hb2); clear hb2 hx)
            | (refine wpList_new PageT _ _ rfl rfl rfl rfl rfl rfl _ rfl (of_decide_eq_true (by kernel_rfl)) (by kernel_rfl) (by kernel_rfl) (by kernel_rfl) ?_))
          go_meet
          case rel => exact ⟨rfl, R.out.go ((Below.refl _ _).alloc (Nat.le_refl _) _)⟩
        case rest =>
          obtain ⟨rfl, hs⟩ := hcut
          go_wp2_with fail
          exact ⟨⟨2, by omega, rfl, by rw [HNO.out]; exact hs⟩, by simp [intOf]⟩
      · have HOK := Lib.hid hok
        go_cut [9, 10] (fun s9 s10 W => ∃ g x, s9 = .pointer (some ⟨g, 0, none⟩) ∧ s10 = .nilIface ∧ ChS w w.heap.size (w.heap.size + 1) (Sp.rights a b 1) W ∧ Blk W g PageT (pageV (Sp.parse b) x).toArray)
        case first =>
          go_wp2_with (first
            | (go_at_call 152; refine (read_any b _ hb).mono ?_; rintro e w7 ⟨x, rfl, hx, hb2⟩; rw [readV_yes HOK.out]; replace R := Lib.hid (R.out.go hb2); clear hb2 hx)
            | (refine wpList_new PageT _ _ rfl rfl rfl rfl rfl rfl _ rfl (of_decide_eq_true (by kernel_rfl)) (by kernel_rfl) (by kernel_rfl) (by kernel_rfl) ?_))
          go_meet
          case rel => exact ⟨_, x, rfl, rfl, R.out.go ((Below.refl _ _).alloc (Nat.le_refl _) _), Blk.new _ _ _⟩
        case rest =>
          obtain ⟨g, x, rfl, rfl, hs, hbg⟩ := hcut
          obtain ⟨w2, rfl⟩ : ∃ W, W = wc := ⟨_, rfl⟩
          replace R := Lib.hid hs
          have HG := Lib.hid hbg
          have c0 : w2.cell? ⟨g, 0, none⟩ = some (.int .i64 (Sp.parse b).kind) := hbg.cell 0
          have c8 : w2.cell? ⟨g, 8, none⟩ = some (.int .u64 (Sp.parse b).mt.txn) := hbg.cell 8
          have hrg := (Sp.parse_rng b).2
          clear hs hbg
          by_cases hkd : (Sp.parse b).kind = 6
          · by_cases htx : (Sp.parse b).mt.txn % 2 = 1
            · have HYS := Lib.hid (Sp.rights_yes1 (a := a) (b := b) (show Sp.right b 1 = some (Sp.parse b).mt by unfold Sp.right; rw [if_pos ⟨hok, hkd, htx⟩]))
              have b1 : ((Sp.parse b).kind == 6) = true := beq_iff_eq.2 hkd
              have b2 : ((Sp.parse b).mt.txn % 2 == 1) = true := beq_iff_eq.2 htx
              clear hkd htx hok
              go_upto_region 7 with (go_at_call 165; refine (place_any _ hrg.1 hrg.2 _).mono ?_; rintro e w7 ⟨rfl, rfl⟩)
              obtain ⟨s, q, hc⟩ := R.out.ch
              have hld := run_loadVar_at (P := Tryz.prog) w2 g 8 MetaT (mtV (Sp.parse b).mt).toArray _ (pg_mt HG.out) Tryz.underlying49 rfl rfl
              refine InReg.region ?_
              show InReg _ _ _ [0, 1, 2, 3] _ _
              refine InReg.val (w' := w2) (v := .chan (some (w.heap.size + 1))) rfl rfl (by simp [go_sem, execOp, Act.eval]) ?_
              refine InReg.val (w' := w2) (v := .pointer (some ⟨g, 8, none⟩)) rfl rfl (by simp [go_sem, execOp, Act.eval, Act.put]) ?_
              refine InReg.val (w' := w2) (v := mtA (Sp.parse b).mt) rfl rfl (by simp [execOp, Act.eval, Act.put, Instr.loadAt, Instr.sureAddr, hld, mtA]) ?_
              refine InReg.send (w' := w2) (c := w.heap.size + 1) (v := mtA (Sp.parse b).mt) (z := .tuple #[]) rfl rfl (by simp [go_sem, execOp, scase, Act.eval, Act.put]) hc (Sp.rights_room1 a b) ?_
              refine InReg.nil ?_
              have HP := Lib.hid (R.out.push _ hrg hc)
              clear hld hc R HG c0 c8
              go_wp2_with fail
              exact ⟨⟨2, by omega, rfl, by rw [HYS.out]; first | exact HP.out | (have h := HP.out; rw [List.push_toArray] at h; exact h)⟩, by simp [intOf]⟩
            · have HNO := Lib.hid (Sp.rights_no1 (a := a) (b := b) (show Sp.right b 1 = none by unfold Sp.right; rw [if_neg (fun h => htx h.2.2)]))
              have b1 : ((Sp.parse b).kind == 6) = true := beq_iff_eq.2 hkd
              have b2 : ((Sp.parse b).mt.txn % 2 == 1) = false := beq_eq_false_iff_ne.2 htx
              clear hkd htx hok
              go_wp2_with (go_at_call 165; refine (place_any _ hrg.1 hrg.2 _).mono ?_; rintro e w7 ⟨rfl, rfl⟩)
              exact ⟨⟨2, by omega, rfl, by rw [HNO.out]; exact R.out⟩, by simp [intOf]⟩
          · have HNO := Lib.hid (Sp.rights_no1 (a := a) (b := b) (show Sp.right b 1 = none by unfold Sp.right; rw [if_neg (fun h => hkd h.2.1)]))
            have b1 : ((Sp.parse b).kind == 6) = false := beq_eq_false_iff_ne.2 hkd
            clear hkd hok
            go_wp2_with fail
            exact ⟨⟨2, by omega, rfl, by rw [HNO.out]; exact R.out⟩, by simp [intOf]⟩
    · go_upto_region 9 with fail
      go_cut [11] (fun s11 W => s11 = .pointer (some ⟨wr.heap.size, 0, none⟩) ∧ ChS w w.heap.size (w.heap.size + 1) (Sp.rights a b 2) W ∧ Blk W wr.heap.size MetaT (mtV Sp.mt0).toArray)
      case first =>
        go_wp2_with fail
        go_meet
        case rel => exact ⟨rfl, R.out.go ((Below.refl _ _).alloc (Nat.le_refl _) _), Blk.new _ _ _⟩
      case rest =>
        obtain ⟨rfl, hs, hbo⟩ := hcut
        obtain ⟨w2, rfl⟩ : ∃ W, W = wc := ⟨_, rfl⟩
        have hro := R.out.lt
        generalize wr.heap.size = o at *
        have T0 := Lib.hid (show ChT w w.heap.size (w.heap.size + 1) o none (Sp.rights a b 2) w2 from ⟨hs, hbo, by omega⟩)
        clear hs hbo R
        go_wp2_with fail
        go_loopw [12] (fun f wr => ∃ out l, f = .bool (Option.isSome out) ∧ ChT w w.heap.size (w.heap.size + 1) o out l wr ∧ l.foldl Sp.later out = Sp.choose a b) (fun _ W => chLen W (w.heap.size + 1))
        case atStart => exact ⟨none, Sp.rights a b 2, rfl, T0.out, rfl⟩
        case round =>
          obtain ⟨out, l, rfl, ht, hfo⟩ := hrel
          have T := Lib.hid ht
          have HF := Lib.hid hfo
          clear ht hfo T0
          obtain ⟨s, q, hc⟩ := T.out.s.ch
          go_upto_region 12 with fail
          rcases l with _ | ⟨m, l⟩
          · refine InReg.region ?_
            show InReg _ _ _ [0, 1, 2] _ _
            refine InReg.default (w' := wr) (c := w.heap.size + 1) (z := mtA Sp.mt0) rfl rfl (by simp [go_sem, execOp, rcase, Act.eval]; rfl) hc ?_
            refine InReg.val (w' := wr) (v := goInt (-1)) rfl rfl (by simp [go_sem, execOp, Act.eval, Act.put]) ?_
            refine InReg.val (w' := wr) (v := .bool false) rfl rfl (by simp [go_sem, execOp, Act.eval, Act.put, goInt]) ?_
            refine InReg.nil ?_
            clear hc
            rcases out with _ | m
            · go_wp2_with (refine wpList_store_row rfl MetaT _ _ rfl w.heap.size _ rfl rfl MetaT (mtV Sp.mt0).toArray T.out.s.br (by kernel_rfl) rfl (by kernel_rfl) ?_)
              have hfo := HF.out
              rw [List.foldl_nil] at hfo
              have hz := (T.out.s.br.row (ds := #[.int .u64 0, .int .i64 0, .int .i64 0, .int .i64 0, .int .i64 0, .int .i64 0])).at6
              obtain ⟨z0, z1, z2, z3, z4, z5⟩ := hz
              refine bodyPost_ret (v := chooseV none) (by simp [results, Tryz.results145, go_sem, chooseV, mtV, Sp.mt0, Sp.root0, z0, z1, z2, z3, z4, z5]) rfl ⟨by rw [← hfo], below_setRow T.out.s.hb T.out.s.hr _⟩
            · go_wp2_with (first
                | (refine wpList_row MetaT _ rfl o rfl rfl MetaT _ (0, 0) _ T.out.bo Tryz.underlying49 rfl rfl ?_)
                | (refine wpList_store_row rfl MetaT _ _ rfl w.heap.size _ rfl rfl MetaT (mtV Sp.mt0).toArray T.out.s.br (by kernel_rfl) rfl (by kernel_rfl) ?_))
              have hfo := HF.out
              rw [List.foldl_nil] at hfo
              have hz := (T.out.s.br.row (ds := #[.int .u64 m.txn, .int .i64 m.main.page, .int .i64 m.main.count, .int .i64 m.main.flags, .int .i64 m.free, .int .i64 m.last])).at6
              obtain ⟨z0, z1, z2, z3, z4, z5⟩ := hz
              refine bodyPost_ret (v := chooseV (some m)) (by simp [results, Tryz.results145, go_sem, chooseV, mtV, Sp.mt0, Sp.root0, z0, z1, z2, z3, z4, z5]) rfl ⟨by rw [← hfo], below_setRow T.out.s.hb T.out.s.hr _⟩
          · refine InReg.region ?_
            show InReg _ _ _ [0, 1, 2] _ _
            refine InReg.recv (w' := wr) (c := w.heap.size + 1) (z := mtA Sp.mt0) rfl rfl (by simp [go_sem, execOp, rcase, Act.eval]; rfl) hc (by simp) ?_
            have hW := Lib.hid (T.out.pop hc)
            refine InReg.val (w' := wr.setChan (w.heap.size + 1) 2 (((m :: l).map mtA).toArray.extract 1 ((m :: l).map mtA).toArray.size) false s (q + 1) false) (v := goInt 0) rfl rfl (by simp [go_sem, execOp, Act.eval, Act.put]) ?_
            refine InReg.val (w' := wr.setChan (w.heap.size + 1) 2 (((m :: l).map mtA).toArray.extract 1 ((m :: l).map mtA).toArray.size) false s (q + 1) false) (v := .bool true) rfl rfl (by simp [go_sem, execOp, Act.eval, Act.put, goInt]) ?_
            refine InReg.nil ?_
            rw [show (((m :: l).map mtA).toArray.getD 0 undef) = mtA m from rfl]
            have hcl : chLen (wr.setChan (w.heap.size + 1) 2 (((m :: l).map mtA).toArray.extract 1 ((m :: l).map mtA).toArray.size) false s (q + 1) false) (w.heap.size + 1) < chLen wr (w.heap.size + 1) := by
              unfold chLen
              rw [hc, heap_setChan _ _ _ _ _ _ _ _ T.out.s.lt]
              simp
            generalize wr.setChan (w.heap.size + 1) 2 (((m :: l).map mtA).toArray.extract 1 ((m :: l).map mtA).toArray.size) false s (q + 1) false = w5 at *
            clear hc
            have HCL := Lib.hid hcl
            clear hcl
            have hlen : chLen wr (w.heap.size + 1) = l.length + 1 := T.out.len
            have HLN := Lib.hid hlen
            clear hlen HCL
            replace T := Lib.hid hW.out
            clear hW
            go_upto_region 16 with fail
            go_simp
            go_cut [13] (fun s13 W => ∃ g, s13 = .pointer (some ⟨g, 0, none⟩) ∧ ChT w w.heap.size (w.heap.size + 1) o out l W ∧ Blk W g MetaT (mtV m).toArray)
            case first =>
              simp only [mtA]
              go_wp2_with (refine wpList_new MetaT _ _ rfl rfl rfl rfl rfl rfl _ rfl (of_decide_eq_true (by kernel_rfl)) (by kernel_rfl) (by kernel_rfl) (by kernel_rfl) ?_)
              go_meet
              case rel => exact ⟨_, rfl, T.out.go ((Below.refl _ _).alloc (Nat.le_refl _) _), Blk.new _ _ _⟩
            case rest =>
              obtain ⟨g, rfl, ht, hbg⟩ := hcut
              obtain ⟨w6, rfl⟩ : ∃ W, W = wc := ⟨_, rfl⟩
              have hf := HF.out
              rw [List.foldl_cons] at hf
              replace HF := Lib.hid hf
              replace T := Lib.hid ht
              have HG := Lib.hid hbg
              have c0 : w6.cell? ⟨g, 0, none⟩ = some (.int .u64 m.txn) := hbg.cell 0
              clear hf ht hbg
              rcases out with _ | o1
              · go_wp2_with (first
                  | (refine wpList_row MetaT _ rfl g rfl rfl MetaT _ (0, 0) _ HG.out Tryz.underlying49 rfl rfl ?_)
                  | (refine wpList_store_row rfl MetaT _ _ rfl o _ rfl rfl MetaT (mtV Sp.mt0).toArray T.out.bo (by kernel_rfl) rfl (by kernel_rfl) ?_))
                go_roundw
                case measure =>
                  rw [HLN.out, (T.out.put m).len]
                  exact Nat.lt_succ_self _
                case rel =>
                  repeat apply Exists.intro
                  exact ⟨⟨some m, l, rfl, T.out.put m, HF.out⟩, rfl⟩
              · have o0 : w6.cell? ⟨o, 0, none⟩ = some (.int .u64 o1.txn) := T.out.bo.cell 0
                by_cases hlt : o1.txn < m.txn
                · have hl : Sp.later (some o1) m = some m := by simp [Sp.later, hlt]
                  have HL := Lib.hid hl
                  clear hl
                  go_wp2_with (first
                    | (refine wpList_row MetaT _ rfl g rfl rfl MetaT _ (0, 0) _ HG.out Tryz.underlying49 rfl rfl ?_)
                    | (refine wpList_store_row rfl MetaT _ _ rfl o _ rfl rfl MetaT (mtV o1).toArray T.out.bo (by kernel_rfl) rfl (by kernel_rfl) ?_))
                  go_roundw
                  case measure =>
                    rw [HLN.out, (T.out.put m).len]
                    exact Nat.lt_succ_self _
                  case rel =>
                    repeat apply Exists.intro
                    exact ⟨⟨some m, l, rfl, T.out.put m, by rw [← HL.out]; exact HF.out⟩, rfl⟩
                · have hl : Sp.later (some o1) m = some o1 := by simp [Sp.later, hlt]
                  have HL := Lib.hid hl
                  clear hl
                  go_wp2_with fail
                  go_roundw
                  case measure =>
                    rw [HLN.out, T.out.len]
                    exact Nat.lt_succ_self _
                  case rel =>
                    exact ⟨some o1, rfl, l, T.out, by rw [← HL.out]; exact HF.out⟩
end Go.Proofs.YtmcpkhknjdiocaaGreatDoor
namespace Go.Proofs.YtmcpkhknjdiocaaGreatDoor
open Go.RowKit
attribute [local go_sem low] mk_extract
attribute [local go_sem] After.cell After.frozen mk_extract_end ByteArray.mk_append_mk
open Go.Conc
namespace Sp
/-- The free slots below k that a process may take. -/
def frees (sl : List Sl) (pid : Int) (k : Nat) : List Nat := (List.range k).filter fun i => decide ((sl.getD i sl0).pid = 0 ∧ 0 < pid)
def claim (sl : List Sl) (pid : Int) : Option Nat := (frees sl pid 8).head?
def claimed (sl : List Sl) (pid : Int) : List Sl := match claim sl pid with | some i => sl.set i ⟨pid, 0⟩ | none => sl
theorem frees_succ (sl : List Sl) (pid : Int) (k : Nat) : frees sl pid (k + 1) = frees sl pid k ++ (if (sl.getD k sl0).pid = 0 ∧ 0 < pid then [k] else []) := by
  unfold frees
  rw [List.range_succ, List.filter_append]
  congr 1
  by_cases h : (sl.getD k sl0).pid = 0 ∧ 0 < pid
  · rw [if_pos h, List.filter_cons, if_pos (by simpa using h)]; rfl
  · rw [if_neg h, List.filter_cons, if_neg (by simpa using h)]; rfl
theorem frees_len (sl : List Sl) (pid : Int) (k : Nat) : (frees sl pid k).length ≤ k := by
  unfold frees
  have := List.length_filter_le (fun i => decide ((sl.getD i sl0).pid = 0 ∧ 0 < pid)) (List.range k)
  simpa using this
theorem frees_lt {sl : List Sl} {pid : Int} {k i : Nat} (h : i ∈ frees sl pid k) : i < k := by
  unfold frees at h
  have := (List.mem_filter.1 h).1
  simpa using this
end Sp
theorem slV_drop : ∀ (sl : List Sp.Sl) (k : Nat), k < sl.length → ((sl.flatMap slV).drop (k * 2)).take 2 = slV (sl.getD k Sp.sl0)
  | [], _, h => absurd h (by simp)
  | s :: sl, 0, _ => rfl
  | s :: sl, k + 1, h => by
    have := slV_drop sl k (by simpa using h)
    rw [List.flatMap_cons, show (k + 1) * 2 = k * 2 + 2 by omega]
    exact this
theorem idx8 (sl : List Sp.Sl) (hl : sl.length = 8) (k : Nat) (hk : k < 8) (W : World) : (Instr.index 36 (.agg (sl.flatMap slV).toArray) (.int .i64 (k : Int))).run Tryz.prog W = .ok (.agg #[.int .i64 (sl.getD k Sp.sl0).pid, .int .u64 (sl.getD k Sp.sl0).txn]) W := by
  have h1 : (sizeOf SlotT).run Tryz.prog W = .ok 2 W := by kernel_rfl
  have h2 : (isAgg SlotT).run Tryz.prog W = .ok true W := by kernel_rfl
  have hk' : (0 : Int) ≤ (k : Int) ∧ (k : Int) < ((8 : Nat) : Int) := by omega
  have he : (sl.flatMap slV).toArray.extract (k * 2) (k * 2 + 2) = #[.int .i64 (sl.getD k Sp.sl0).pid, .int .u64 (sl.getD k Sp.sl0).txn] := by
    have := slV_drop sl k (by omega)
    rw [List.extract_toArray, List.extract_eq_take_drop, Nat.add_sub_cancel_left, this]
    rfl
  simp [Instr.index, part, run_underlying Tryz.underlying36, asIntOf, Result.andThen, h1, h2, hk]
  have hd := slV_drop sl k (by omega)
  simpa [slV, List.getD_eq_getElem?_getD] using hd
/-- The lock, and the channel with the slots that are free so far. -/
structure ClS (W0 : World) (l c : Nat) (wr : Int) (sl : List Sp.Sl) (L : List Nat) (w : World) : Prop where
  hb : Below W0.heap.size W0 w
  lk : LockAt w l wr sl
  hc : W0.heap.size ≤ c
  hl : l < W0.heap.size
  ch : ∃ s q, w.heap[c]? = some (.chan 8 (L.map fun i : Nat => Value.int .i64 (i : Int)).toArray false s q false)
theorem ClS.lt {W0 w : World} {l c : Nat} {wr : Int} {sl : List Sp.Sl} {L : List Nat} (h : ClS W0 l c wr sl L w) : c < w.heap.size := by
  obtain ⟨s, q, hc⟩ := h.ch
  exact (Array.getElem?_eq_some_iff.1 hc).1
theorem ClS.go {W0 w w' : World} {l c : Nat} {wr : Int} {sl : List Sp.Sl} {L : List Nat} (h : ClS W0 l c wr sl L w) (hb : Below w.heap.size w w') : ClS W0 l c wr sl L w' := by
  have hlt := h.lt
  obtain ⟨s, q, hc⟩ := h.ch
  exact ⟨h.hb.trans (hb.mono h.hb.size), h.lk.go hb, h.hc, h.hl, ⟨s, q, (hb.block c hlt).trans hc⟩⟩
theorem ClS.chan {W0 w : World} {l c : Nat} {wr : Int} {sl : List Sp.Sl} {L L' : List Nat} (h : ClS W0 l c wr sl L w) {buf : Array Value} (hb : buf = (L'.map fun i : Nat => Value.int .i64 (i : Int)).toArray) (s q : Nat) : ClS W0 l c wr sl L' (w.setChan c 8 buf false s q false) := by
  subst hb
  refine ⟨below_setChan h.hb h.hc _ _ _ _ _ _, ⟨?_, h.lk.len⟩, h.hc, h.hl, ⟨s, q, heap_setChan _ _ _ _ _ _ _ _ h.lt⟩⟩
  have hne : c ≠ l := by have := h.hc; have := h.hl; omega
  have hbr := h.lk.bl
  unfold Blk at hbr ⊢
  simp only [World.setChan]
  rw [Array.getElem?_setIfInBounds_ne hne]
  exact hbr
theorem mkChanI (w : World) : (Instr.makeChan 122 (.int .i64 8)).run Tryz.prog w = .ok (.chan (some w.heap.size)) (w.alloc (.chan 8 #[] false 0 0 false)) := by kernel_rfl
def claimV (sl : List Sp.Sl) (pid : Int) : Value := match Sp.claim sl pid with | some i => .tuple #[.int .i64 (i : Int), .nilIface] | none => .tuple #[.int .i64 (-1), .iface ErrT (.int .i64 15)]
set_option maxRecDepth 100000 in
set_option maxHeartbeats 6400000 in
theorem claim_any (l : Nat) (wn : Int) (sl : List Sp.Sl) (pid : Int) (w : World) (hl : LockAt w l wn sl) :
    Calls Tryz.prog 17 #[.pointer (some ⟨l, 0, none⟩), .int .i64 pid] w fun e w' => e = .returned (claimV sl pid) ∧ LockAt w' l wn (Sp.claimed sl pid) ∧ Chg (OneM l) w w' := by
  have hmk := mkChanI
  have hlw := hl.bl.lt
  have hll := hl.len
  have R0 := Lib.hid (show ClS w l w.heap.size wn sl (Sp.frees sl pid 0) (w.alloc (.chan 8 #[] false 0 0 false)) from
    ⟨(Below.refl _ _).alloc (Nat.le_refl _) _, hl.go ((Below.refl _ _).alloc (Nat.le_refl _) _), Nat.le_refl _, hlw, ⟨0, 0, heap_alloc_new w _⟩⟩)
  have hcl : ∀ j v, (sl.flatMap slV).toArray[j]? = some v → (w.alloc (.chan 8 #[] false 0 0 false)).cell? ⟨l, 1 + j, none⟩ = some v := fun j v hv => by
    refine (R0.out.lk.bl.cell (1 + j)).trans ?_
    rw [List.getElem?_toArray, lkV, Nat.add_comm 1, List.getElem?_cons_succ, ← List.getElem?_toArray]
    exact hv
  have HCL := Lib.hid hcl
  have hsz16 : (sl.flatMap slV).toArray.size = 16 := by rw [List.size_toArray, slV_len, hll]
  have HSZ := Lib.hid hsz16
  have HIX := Lib.hid (fun k hk W => idx8 sl hll k hk W)
  have HPID := Lib.hid (fun sl' (h : Sp.claimed sl pid = sl') => h)
  clear hl hcl hll hsz16
  go_enter Tryz.func17, Tryz.ntmps17
  go_upto_region 3 with (refine wpList_at 36 _ rfl l 1 rfl rfl (sl.flatMap slV).toArray _ HCL.out Tryz.underlying36 rfl (by rw [HSZ.out]; kernel_rfl) ?_)
  clear hmk HCL HSZ HPID
  go_loopw [15] (fun i wk => ∃ k : Nat, k ≤ 8 ∧ i = .int .i64 k ∧ ClS w l w.heap.size wn sl (Sp.frees sl pid k) wk) (fun i _ => 8 - (intOf i).toNat)
  case atStart => exact ⟨0, by omega, rfl, R0.out⟩
  case round =>
    obtain ⟨k, hk, rfl, hs⟩ := hrel
    have R := Lib.hid hs
    clear hs R0
    by_cases hk8 : k < 8
    · have hix := HIX.out k hk8
      have HF := Lib.hid (Sp.frees_succ sl pid k)
      have hlen := Sp.frees_len sl pid k
      generalize sl.getD k Sp.sl0 = x at *
      obtain ⟨xp, xt⟩ := x
      dsimp only at hix HF
      have h8 : (k : Int) < 8 := by omega
      go_upto_region 5 with fail
      clear hix
      have R1 := Lib.hid (R.out.go ((Below.refl _ _).alloc (Nat.le_refl _) (.cells #[.int .i64 xp, .int .u64 xt] SlotT)))
      by_cases hx : xp = 0
      · by_cases hp : 0 < pid
        · have e1 : (xp == 0) = true := beq_iff_eq.2 hx
          have HX := Lib.hid (show Sp.frees sl pid (k + 1) = Sp.frees sl pid k ++ [k] by rw [HF.out, if_pos ⟨hx, hp⟩])
          clear hx
          go_upto_region 6 with fail
          obtain ⟨s, q, hc⟩ := R1.out.ch
          refine InReg.region ?_
          show InReg _ _ _ [0, 1, 2] _ _
          generalize hW : wr.alloc (.cells #[.int .i64 xp, .int .u64 xt] SlotT) = W at *
          refine InReg.val (w' := W) (v := .chan (some w.heap.size)) rfl rfl (by simp [go_sem, execOp, Act.eval]) ?_
          refine InReg.val (w' := W) (v := .int .i64 (k : Int)) rfl rfl (by simp [go_sem, execOp, Act.eval, Act.put]) ?_
          refine InReg.send (w' := W) (c := w.heap.size) (v := .int .i64 (k : Int)) (z := .tuple #[]) rfl rfl (by simp [go_sem, execOp, scase, Act.eval, Act.put]) hc (by rw [List.size_toArray, List.length_map]; omega) ?_
          refine InReg.nil ?_
          have HP := Lib.hid (R1.out.chan (L' := Sp.frees sl pid (k + 1)) (buf := ((Sp.frees sl pid k).map fun i : Nat => Value.int .i64 (i : Int)).toArray.push (.int .i64 (k : Int))) (by rw [HX.out]; simp) (s + 1) q)
          clear hc
          go_wp2_with fail
          go_roundw
          case rel => exact ⟨k + 1, by omega, by go_num, by first | exact HP.out | (have h := HP.out; rw [List.push_toArray] at h; exact h)⟩
          case measure => simp [intOf]; omega
        · have e1 : (xp == 0) = true := beq_iff_eq.2 hx
          have HX := Lib.hid (show Sp.frees sl pid (k + 1) = Sp.frees sl pid k by rw [HF.out, if_neg (fun h => hp h.2), List.append_nil])
          clear hx
          go_wp2_with fail
          go_roundw
          case rel => exact ⟨k + 1, by omega, by go_num, by rw [HX.out]; exact R1.out⟩
          case measure => simp [intOf]; omega
      · have e1 : (xp == 0) = false := beq_eq_false_iff_ne.2 hx
        have HX := Lib.hid (show Sp.frees sl pid (k + 1) = Sp.frees sl pid k by rw [HF.out, if_neg (fun h => hx h.1), List.append_nil])
        clear hx
        go_wp2_with fail
        go_roundw
        case rel => exact ⟨k + 1, by omega, by go_num, by rw [HX.out]; exact R1.out⟩
        case measure => simp [intOf]; omega
    · obtain rfl : k = 8 := by omega
      clear hk8 hk
      go_upto_region 9 with fail
      obtain ⟨s, q, hc⟩ := R.out.ch
      have hCL := Sp.frees_len sl pid 8
      rcases hL : Sp.frees sl pid 8 with _ | ⟨i, L⟩
      · rw [hL] at hc
        have HV := Lib.hid (show claimV sl pid = .tuple #[.int .i64 (-1), .iface ErrT (.int .i64 15)] by unfold claimV Sp.claim; rw [hL]; rfl)
        have HD := Lib.hid (show Sp.claimed sl pid = sl by unfold Sp.claimed Sp.claim; rw [hL]; rfl)
        refine InReg.region ?_
        show InReg _ _ _ [0, 1, 2] _ _
        refine InReg.default (w' := wr) (c := w.heap.size) (z := .int .i64 0) rfl rfl (by simp [go_sem, execOp, rcase, Act.eval]) hc ?_
        refine InReg.val (w' := wr) (v := goInt (-1)) rfl rfl (by simp [go_sem, execOp, Act.eval, Act.put]) ?_
        refine InReg.val (w' := wr) (v := .bool false) rfl rfl (by simp [go_sem, execOp, Act.eval, Act.put, goInt]) ?_
        refine InReg.nil ?_
        clear hc hL
        go_wp2_with fail
        refine bodyPost_ret (v := .tuple #[.int .i64 (-1), .iface ErrT (.int .i64 15)]) (by simp [results, Tryz.results17, go_sem]) rfl ⟨by rw [HV.out], by rw [HD.out]; exact R.out.lk, Chg.of_below R.out.hb⟩
      · have hi8 : i < 8 := Sp.frees_lt (sl := sl) (pid := pid) (by rw [hL]; exact List.mem_cons_self)
        have HV := Lib.hid (show claimV sl pid = .tuple #[.int .i64 (i : Int), .nilIface] by unfold claimV Sp.claim; rw [hL]; rfl)
        have HD := Lib.hid (show Sp.claimed sl pid = sl.set i ⟨pid, 0⟩ by unfold Sp.claimed Sp.claim; rw [hL]; rfl)
        rw [hL] at hc
        refine InReg.region ?_
        show InReg _ _ _ [0, 1, 2] _ _
        refine InReg.recv (w' := wr) (c := w.heap.size) (z := .int .i64 0) rfl rfl (by simp [go_sem, execOp, rcase, Act.eval]) hc (by simp) ?_
        have RW := Lib.hid (R.out.chan (L' := L) (buf := (((i :: L).map fun i : Nat => Value.int .i64 (i : Int)).toArray.extract 1 ((i :: L).map fun i : Nat => Value.int .i64 (i : Int)).toArray.size)) (by simp; exact List.take_of_length_le (by simp)) s (q + 1))
        generalize wr.setChan w.heap.size 8 (((i :: L).map fun i : Nat => Value.int .i64 (i : Int)).toArray.extract 1 ((i :: L).map fun i : Nat => Value.int .i64 (i : Int)).toArray.size) false s (q + 1) false = W5 at *
        refine InReg.val (w' := W5) (v := goInt 0) rfl rfl (by simp [go_sem, execOp, Act.eval, Act.put]) ?_
        refine InReg.val (w' := W5) (v := .bool true) rfl rfl (by simp [go_sem, execOp, Act.eval, Act.put, goInt]) ?_
        refine InReg.nil ?_
        rw [show (((i :: L).map fun i : Nat => Value.int .i64 (i : Int)).toArray.getD 0 undef) = .int .i64 (i : Int) from rfl]
        clear hc hL R
        have c0 := RW.out.lk.pid hi8
        have f0 := RW.out.lk.bl.frozen (1 + i * 2)
        have c1 := RW.out.lk.txn hi8
        have f1 := RW.out.lk.bl.frozen (1 + i * 2 + 1)
        have hi8' : (i : Int) < 8 := by omega
        go_wp2_with fail
        refine bodyPost_ret (v := .tuple #[.int .i64 (i : Int), .nilIface]) (by simp [results, Tryz.results17, go_sem]) rfl ⟨by rw [HV.out], by rw [HD.out]; exact RW.out.lk.put i ⟨pid, 0⟩, ?_⟩
        exact ((Chg.of_below RW.out.hb).trans (Chg.set1 _ _ _ _)).trans (Chg.set1 _ _ _ _)
end Go.Proofs.YtmcpkhknjdiocaaGreatDoor
