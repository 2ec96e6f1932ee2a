/- slices.EqualFunc at items and at free pages. slices.EqualFunc at free pages. Whether two pages are the same. The known page: what the laws ask ahead of all else. More words for a walk: a load of a whole block under a guard. The known page: the walk. -/
import Derived.Test.YtienlhckcpfknaaQB06
import Derived.Laws.Tables
import Derived.Laws.IdiomStrings
import Derived.Laws.BytesArg
import Derived.Laws.BitsAllLaws
import Derived.Deep.DeepCutAuto
import Derived.Outline
set_option linter.unusedSimpArgs false
set_option linter.unusedVariables false
namespace Go.Proofs.Ytienlhckcpfknaa
open Go.RowKit
attribute [local go_sem low] mk_extract
attribute [local go_sem] After.cell After.frozen mk_extract_end ByteArray.mk_append_mk
namespace Sp
def sameFree (x y : Free) : Bool := decide (x = y)
end Sp
set_option maxRecDepth 100000 in
set_option maxHeartbeats 1600000 in
theorem sameFree_any (x y : Sp.Free) (V W : Option Addr) (c d : Nat) {M N : Nat → Prop} (w : World) (hx : Ints w M V x.ids) (hy : Ints w N W y.ids) :
    Calls Try.prog 52 #[.agg #[.int .u64 x.txn, .slice V x.ids.length c], .agg #[.int .u64 y.txn, .slice W y.ids.length d]] w fun e w' => e = .returned (.bool (Sp.sameFree x y)) ∧ Below w.heap.size w w' := by
  obtain ⟨tx, ids⟩ := x
  obtain ⟨ty, jds⟩ := y
  have Hx := Lib.hid hx
  have Hy := Lib.hid hy
  clear hx hy
  have hsz : w.heap.size < w.heap.size + 1 + 1 := by omega
  go_enter Try.func52, Try.ntmps52
  go_wp2_with (go_at_call 53; refine (equalInts ids jds V W c d _ (Hx.out.go (by (repeat (first | (with_reducible exact Below.refl _ _) | (with_reducible assumption) | (refine below_step (by assumption) (by first | omega | (simp; done) | (simp; omega)) ?_) | (with_reducible refine Below.alloc ?_ (by first | omega | (simp; done) | (simp; omega)) _) | (with_reducible refine Below.drew ?_) | (with_reducible refine below_drewN ?_ _) | (with_reducible refine Below.setCell ?_ (by first | omega | (simp; done) | (simp; omega)) _))))) (Hy.out.go (by (repeat (first | (with_reducible exact Below.refl _ _) | (with_reducible assumption) | (refine below_step (by assumption) (by first | omega | (simp; done) | (simp; omega)) ?_) | (with_reducible refine Below.alloc ?_ (by first | omega | (simp; done) | (simp; omega)) _) | (with_reducible refine Below.drew ?_) | (with_reducible refine below_drewN ?_ _) | (with_reducible refine Below.setCell ?_ (by first | omega | (simp; done) | (simp; omega)) _)))))).mono ?_; rintro e w2 ⟨rfl, hb2⟩; have hz := hb2.size; have hsz : w.heap.size < w2.heap.size := Nat.lt_of_lt_of_le (by first | exact hsz | omega | (simp; done) | (simp; omega)) hz; obtain ⟨hc2, hf2⟩ := bcell hb2)
  all_goals
    go_ret
    refine ⟨ret_bool ?_, by (repeat (first | (with_reducible exact Below.refl _ _) | (with_reducible assumption) | (refine below_step (by assumption) (by first | omega | (simp; done) | (simp; omega)) ?_) | (with_reducible refine Below.alloc ?_ (by first | omega | (simp; done) | (simp; omega)) _) | (with_reducible refine Below.drew ?_) | (with_reducible refine below_drewN ?_ _) | (with_reducible refine Below.setCell ?_ (by first | omega | (simp; done) | (simp; omega)) _)))⟩
    go_light
    simp only [Sp.sameFree]
    grind
set_option maxRecDepth 100000 in
set_option maxHeartbeats 1600000 in
theorem equalItems (l m : List Sp.Item) (A B : Option Addr) (c d : Nat) {M N : Nat → Prop} (w : World) (hl : Items w M A l) (hm : Items w N B m) :
    Calls Try.prog 54 #[.slice A l.length c, .slice B m.length d, .func (.func 55) #[] #[]] w fun e w' => e = .returned (.bool (decide (l = m))) ∧ Below w.heap.size w w' := by
  have hlen := hl.len
  have hmen := hm.len
  have Hl := Lib.hid hl
  have Hm := Lib.hid hm
  clear hl hm
  by_cases he : l.length = m.length
  · have he1 : ((l.length : Int) == (m.length : Int)) = true := by simp [he]
    have he2 : ((l.length : Int) != (m.length : Int)) = false := by simp [he]
    have HE := Lib.hid he
    clear he
    go_enter Try.func54, Try.ntmps54
    go_wp2
    go_loopw [17] (fun i wr => ∃ k : Nat, k ≤ l.length ∧ i = .int .i64 k ∧ Below w.heap.size w wr ∧ Hid (∀ j, j < k → l.getD j Sp.item0 = m.getD j Sp.item0)) (fun i _ => l.length - (intOf i).toNat)
    case atStart => exact ⟨0, Nat.zero_le _, rfl, Below.refl _ _, fun j h => absurd h (by omega)⟩
    case round =>
      obtain ⟨k, hk, rfl, hb, hok⟩ := hrel
      have hsz0 := hb.size
      by_cases hlt : k < l.length
      · obtain ⟨b, off, rfl, hbl, hc⟩ := Hl.out.at_ hlt
        have hltm : k < m.length := HE.out ▸ hlt
        obtain ⟨b2, off2, rfl, hbl2, hc2⟩ := Hm.out.at_ hltm
        obtain ⟨V, cv, hi, ht⟩ := hc k hlt
        obtain ⟨V2, cv2, hi2, ht2⟩ := hc2 k hltm
        clear hc hc2
        have hi := hi.keep (w' := wr) fun j => hb.cell (p := ⟨_, _, none⟩) hbl
        have hi2 := hi2.keep (w' := wr) fun j => hb.cell (p := ⟨_, _, none⟩) hbl2
        have ht := Lib.hid (ht.go hb)
        have ht2 := Lib.hid (ht2.go hb)
        obtain ⟨h0, h1, h2, h3, h4, h5, h6, h7, h8, h9⟩ := hi
        obtain ⟨g0, g1, g2, g3, g4, g5, g6, g7, g8, g9⟩ := hi2
        have hbw : b < wr.heap.size := by omega
        have hbw2 : b2 < wr.heap.size := by omega
        have hne : l.getD k Sp.item0 ≠ m.getD k Sp.item0 → l ≠ m := fun h => Sp.ne_at h
        have HNE := Lib.hid hne
        have hnx : l.getD k Sp.item0 = m.getD k Sp.item0 → ∀ j, j < k + 1 → l.getD j Sp.item0 = m.getD j Sp.item0 := fun h j hj => by
          rcases Nat.lt_succ_iff_lt_or_eq.1 hj with h' | rfl
          · exact hok.out j h'
          · exact h
        have HNX := Lib.hid hnx
        clear hne hnx
        generalize l.getD k Sp.item0 = x at *
        generalize m.getD k Sp.item0 = y at *
        go_wp2_with (go_at_call 55; refine (sameItem_any x y V V2 cv cv2 _ (ht.out.go (by (repeat (first | (with_reducible exact Below.refl _ _) | (with_reducible assumption) | (refine below_step (by assumption) (by first | omega | (simp; done) | (simp; omega)) ?_) | (with_reducible refine Below.alloc ?_ (by first | omega | (simp; done) | (simp; omega)) _) | (with_reducible refine Below.drew ?_) | (with_reducible refine below_drewN ?_ _) | (with_reducible refine Below.setCell ?_ (by first | omega | (simp; done) | (simp; omega)) _))))) (ht2.out.go (by (repeat (first | (with_reducible exact Below.refl _ _) | (with_reducible assumption) | (refine below_step (by assumption) (by first | omega | (simp; done) | (simp; omega)) ?_) | (with_reducible refine Below.alloc ?_ (by first | omega | (simp; done) | (simp; omega)) _) | (with_reducible refine Below.drew ?_) | (with_reducible refine below_drewN ?_ _) | (with_reducible refine Below.setCell ?_ (by first | omega | (simp; done) | (simp; omega)) _)))))).mono ?_; rintro e w2 ⟨rfl, hb2⟩; have hz2 := hb2.size)
        all_goals first
          | (go_ret
             refine ⟨ret_bool ?_, by (repeat (first | (with_reducible exact Below.refl _ _) | (with_reducible assumption) | (refine below_step (by assumption) (by first | omega | (simp; done) | (simp; omega)) ?_) | (with_reducible refine Below.alloc ?_ (by first | omega | (simp; done) | (simp; omega)) _) | (with_reducible refine Below.drew ?_) | (with_reducible refine below_drewN ?_ _) | (with_reducible refine Below.setCell ?_ (by first | omega | (simp; done) | (simp; omega)) _)))⟩
             have hxy : x ≠ y := by
               go_light
               simp only [Sp.sameItem] at *
               grind
             simpa using HNE.out hxy)
          | (have hxy : x = y := by
               go_light
               simp only [Sp.sameItem] at *
               grind
             exact ⟨⟨k + 1, by omega, by go_num, by (repeat (first | (with_reducible exact Below.refl _ _) | (with_reducible assumption) | (refine below_step (by assumption) (by first | omega | (simp; done) | (simp; omega)) ?_) | (with_reducible refine Below.alloc ?_ (by first | omega | (simp; done) | (simp; omega)) _) | (with_reducible refine Below.drew ?_) | (with_reducible refine below_drewN ?_ _) | (with_reducible refine Below.setCell ?_ (by first | omega | (simp; done) | (simp; omega)) _))), HNX.out hxy⟩, by simp [intOf]; omega⟩)
      · have hkl : k = l.length := by omega
        go_wp2
        go_ret
        refine ⟨ret_bool ?_, hb⟩
        have := Sp.eq_all HE.out (fun j hj => hok.out j (by omega))
        simp [this]
  · have he1 : ((l.length : Int) == (m.length : Int)) = false := by rw [beq_eq_false_iff_ne]; omega
    have he2 : ((l.length : Int) != (m.length : Int)) = true := by rw [bne_iff_ne]; omega
    have HE := Lib.hid he
    clear he
    go_enter Try.func54, Try.ntmps54
    go_wp2
    go_ret
    refine ⟨ret_bool ?_, Below.refl _ _⟩
    have hne : l ≠ m := fun e => HE.out (by rw [e])
    simp [hne]
end Go.Proofs.Ytienlhckcpfknaa
namespace Go.Proofs.Ytienlhckcpfknaa
open Go.RowKit
attribute [local go_sem low] mk_extract
attribute [local go_sem] After.cell After.frozen mk_extract_end ByteArray.mk_append_mk
set_option maxRecDepth 100000 in
set_option maxHeartbeats 1600000 in
theorem equalFrees (l m : List Sp.Free) (A B : Option Addr) (c d : Nat) {M N : Nat → Prop} (w : World) (hl : Frees w M A l) (hm : Frees w N B m) :
    Calls Try.prog 57 #[.slice A l.length c, .slice B m.length d, .func (.func 52) #[] #[]] w fun e w' => e = .returned (.bool (decide (l = m))) ∧ Below w.heap.size w w' := by
  have hlen := hl.len
  have hmen := hm.len
  have Hl := Lib.hid hl
  have Hm := Lib.hid hm
  clear hl hm
  by_cases he : l.length = m.length
  · have he1 : ((l.length : Int) == (m.length : Int)) = true := by simp [he]
    have he2 : ((l.length : Int) != (m.length : Int)) = false := by simp [he]
    have HE := Lib.hid he
    clear he
    go_enter Try.func57, Try.ntmps57
    go_wp2
    go_loopw [17] (fun i wr => ∃ k : Nat, k ≤ l.length ∧ i = .int .i64 k ∧ Below w.heap.size w wr ∧ Hid (∀ j, j < k → l.getD j Sp.free0 = m.getD j Sp.free0)) (fun i _ => l.length - (intOf i).toNat)
    case atStart => exact ⟨0, Nat.zero_le _, rfl, Below.refl _ _, fun j h => absurd h (by omega)⟩
    case round =>
      obtain ⟨k, hk, rfl, hb, hok⟩ := hrel
      have hsz0 := hb.size
      by_cases hlt : k < l.length
      · obtain ⟨b, off, rfl, hbl, hc⟩ := Hl.out.at_ hlt
        have hltm : k < m.length := HE.out ▸ hlt
        obtain ⟨b2, off2, rfl, hbl2, hc2⟩ := Hm.out.at_ hltm
        obtain ⟨V, cv, ⟨h0, h1⟩, ht, _⟩ := hc k hlt
        obtain ⟨V2, cv2, ⟨g0, g1⟩, ht2, _⟩ := hc2 k hltm
        clear hc hc2
        have h0 := (hb.cell (p := ⟨_, _, none⟩) hbl).trans h0
        have h1 := (hb.cell (p := ⟨_, _, none⟩) hbl).trans h1
        have g0 := (hb.cell (p := ⟨_, _, none⟩) hbl2).trans g0
        have g1 := (hb.cell (p := ⟨_, _, none⟩) hbl2).trans g1
        have ht := Lib.hid (ht.go hb)
        have ht2 := Lib.hid (ht2.go hb)
        have hbw : b < wr.heap.size := by omega
        have hbw2 : b2 < wr.heap.size := by omega
        have hne : l.getD k Sp.free0 ≠ m.getD k Sp.free0 → l ≠ m := fun h => Sp.ne_at h
        have HNE := Lib.hid hne
        have hnx : l.getD k Sp.free0 = m.getD k Sp.free0 → ∀ j, j < k + 1 → l.getD j Sp.free0 = m.getD j Sp.free0 := fun h j hj => by
          rcases Nat.lt_succ_iff_lt_or_eq.1 hj with h' | rfl
          · exact hok.out j h'
          · exact h
        have HNX := Lib.hid hnx
        clear hne hnx
        generalize l.getD k Sp.free0 = x at *
        generalize m.getD k Sp.free0 = y at *
        go_wp2_with (go_at_call 52; refine (sameFree_any x y V V2 cv cv2 _ (ht.out.go (by (repeat (first | (with_reducible exact Below.refl _ _) | (with_reducible assumption) | (refine below_step (by assumption) (by first | omega | (simp; done) | (simp; omega)) ?_) | (with_reducible refine Below.alloc ?_ (by first | omega | (simp; done) | (simp; omega)) _) | (with_reducible refine Below.drew ?_) | (with_reducible refine below_drewN ?_ _) | (with_reducible refine Below.setCell ?_ (by first | omega | (simp; done) | (simp; omega)) _))))) (ht2.out.go (by (repeat (first | (with_reducible exact Below.refl _ _) | (with_reducible assumption) | (refine below_step (by assumption) (by first | omega | (simp; done) | (simp; omega)) ?_) | (with_reducible refine Below.alloc ?_ (by first | omega | (simp; done) | (simp; omega)) _) | (with_reducible refine Below.drew ?_) | (with_reducible refine below_drewN ?_ _) | (with_reducible refine Below.setCell ?_ (by first | omega | (simp; done) | (simp; omega)) _)))))).mono ?_; rintro e w2 ⟨rfl, hb2⟩; have hz2 := hb2.size)
        all_goals first
          | (go_ret
             refine ⟨ret_bool ?_, by (repeat (first | (with_reducible exact Below.refl _ _) | (with_reducible assumption) | (refine below_step (by assumption) (by first | omega | (simp; done) | (simp; omega)) ?_) | (with_reducible refine Below.alloc ?_ (by first | omega | (simp; done) | (simp; omega)) _) | (with_reducible refine Below.drew ?_) | (with_reducible refine below_drewN ?_ _) | (with_reducible refine Below.setCell ?_ (by first | omega | (simp; done) | (simp; omega)) _)))⟩
             have hxy : x ≠ y := by
               go_light
               simp only [Sp.sameFree] at *
               grind
             simpa using HNE.out hxy)
          | (have hxy : x = y := by
               go_light
               simp only [Sp.sameFree] at *
               grind
             exact ⟨⟨k + 1, by omega, by go_num, by (repeat (first | (with_reducible exact Below.refl _ _) | (with_reducible assumption) | (refine below_step (by assumption) (by first | omega | (simp; done) | (simp; omega)) ?_) | (with_reducible refine Below.alloc ?_ (by first | omega | (simp; done) | (simp; omega)) _) | (with_reducible refine Below.drew ?_) | (with_reducible refine below_drewN ?_ _) | (with_reducible refine Below.setCell ?_ (by first | omega | (simp; done) | (simp; omega)) _))), HNX.out hxy⟩, by simp [intOf]; omega⟩)
      · have hkl : k = l.length := by omega
        go_wp2
        go_ret
        refine ⟨ret_bool ?_, hb⟩
        have := Sp.eq_all HE.out (fun j hj => hok.out j (by omega))
        simp [this]
  · have he1 : ((l.length : Int) == (m.length : Int)) = false := by rw [beq_eq_false_iff_ne]; omega
    have he2 : ((l.length : Int) != (m.length : Int)) = true := by rw [bne_iff_ne]; omega
    have HE := Lib.hid he
    clear he
    go_enter Try.func57, Try.ntmps57
    go_wp2
    go_ret
    refine ⟨ret_bool ?_, Below.refl _ _⟩
    have hne : l ≠ m := fun e => HE.out (by rw [e])
    simp [hne]
end Go.Proofs.Ytienlhckcpfknaa
namespace Go.Proofs.Ytienlhckcpfknaa
open Go.RowKit
attribute [local go_sem low] mk_extract
attribute [local go_sem] After.cell After.frozen mk_extract_end ByteArray.mk_append_mk
set_option maxRecDepth 100000 in
set_option maxHeartbeats 400000 in
theorem mt_eq (m n : Sp.Mt) (W : World) : (binOp .eql 30 (.agg #[.int .u64 m.txn, .int .i64 m.main.page, .int .i64 m.main.count, .int .i64 m.main.flags, .int .i64 m.free, .int .i64 m.last]) (.agg #[.int .u64 n.txn, .int .i64 n.main.page, .int .i64 n.main.count, .int .i64 n.main.flags, .int .i64 n.free, .int .i64 n.last])).run Try.prog W = .ok (.bool (decide (m = n))) W := by
  obtain ⟨a, ⟨b, c, d⟩, e, f⟩ := m
  obtain ⟨a', ⟨b', c', d'⟩, e', f'⟩ := n
  go_simp
  try simp only [Sp.Mt.mk.injEq, Sp.Root.mk.injEq]
  by_cases h1 : a = a' <;> by_cases h2 : b = b' <;> by_cases h3 : c = c' <;> by_cases h4 : d = d' <;> by_cases h5 : e = e' <;> by_cases h6 : f = f' <;> simp [h1, h2, h3, h4, h5, h6]
set_option maxRecDepth 100000 in
set_option maxHeartbeats 1600000 in
theorem samePage_any (p q : Sp.Page) (r s : Refs) {M N : Nat → Prop} (w : World) (hp : PageRd w M p r) (hq : PageRd w N q s) :
    Calls Try.prog 18 #[.agg (pageV p r).toArray, .agg (pageV q s).toArray] w fun e w' => e = .returned (.bool (Sp.samePage p q)) ∧ Below w.heap.size w w' := by
  have Hp := Lib.hid hp
  have Hq := Lib.hid hq
  clear hp hq
  have hmt := mt_eq p.mt q.mt
  have hsz : w.heap.size < w.heap.size + 1 + 1 := by omega
  have hsz1 : w.heap.size + 1 < w.heap.size + 1 + 1 := by omega
  simp only [pageV]
  go_enter Try.func18, Try.ntmps18
  go_wp2_with (first
    | (go_at_call 54; refine (equalItems p.items q.items r.I s.I r.i s.i _ (Hp.out.items.go (by (repeat (first | (with_reducible exact Below.refl _ _) | (with_reducible assumption) | (refine below_step (by assumption) (by first | omega | (simp; done) | (simp; omega)) ?_) | (with_reducible refine Below.alloc ?_ (by first | omega | (simp; done) | (simp; omega)) _) | (with_reducible refine Below.drew ?_) | (with_reducible refine below_drewN ?_ _) | (with_reducible refine Below.setCell ?_ (by first | omega | (simp; done) | (simp; omega)) _))))) (Hq.out.items.go (by (repeat (first | (with_reducible exact Below.refl _ _) | (with_reducible assumption) | (refine below_step (by assumption) (by first | omega | (simp; done) | (simp; omega)) ?_) | (with_reducible refine Below.alloc ?_ (by first | omega | (simp; done) | (simp; omega)) _) | (with_reducible refine Below.drew ?_) | (with_reducible refine below_drewN ?_ _) | (with_reducible refine Below.setCell ?_ (by first | omega | (simp; done) | (simp; omega)) _)))))).mono ?_; (rintro e w2 ⟨rfl, hb2⟩; have hz := hb2.size; have hsz : w.heap.size < w2.heap.size := Nat.lt_of_lt_of_le (by first | exact hsz | omega | (simp; done) | (simp; omega)) hz; have hsz1 : w.heap.size + 1 < w2.heap.size := Nat.lt_of_lt_of_le (by first | exact hsz1 | omega | (simp; done) | (simp; omega)) hz; obtain ⟨hc2, hf2⟩ := bcell hb2))
    | (go_at_call 53; refine (equalInts p.kids q.kids r.D s.D r.d s.d _ (Hp.out.kids.go (by (repeat (first | (with_reducible exact Below.refl _ _) | (with_reducible assumption) | (refine below_step (by assumption) (by first | omega | (simp; done) | (simp; omega)) ?_) | (with_reducible refine Below.alloc ?_ (by first | omega | (simp; done) | (simp; omega)) _) | (with_reducible refine Below.drew ?_) | (with_reducible refine below_drewN ?_ _) | (with_reducible refine Below.setCell ?_ (by first | omega | (simp; done) | (simp; omega)) _))))) (Hq.out.kids.go (by (repeat (first | (with_reducible exact Below.refl _ _) | (with_reducible assumption) | (refine below_step (by assumption) (by first | omega | (simp; done) | (simp; omega)) ?_) | (with_reducible refine Below.alloc ?_ (by first | omega | (simp; done) | (simp; omega)) _) | (with_reducible refine Below.drew ?_) | (with_reducible refine below_drewN ?_ _) | (with_reducible refine Below.setCell ?_ (by first | omega | (simp; done) | (simp; omega)) _)))))).mono ?_; (rintro e w2 ⟨rfl, hb2⟩; have hz := hb2.size; have hsz : w.heap.size < w2.heap.size := Nat.lt_of_lt_of_le (by first | exact hsz | omega | (simp; done) | (simp; omega)) hz; have hsz1 : w.heap.size + 1 < w2.heap.size := Nat.lt_of_lt_of_le (by first | exact hsz1 | omega | (simp; done) | (simp; omega)) hz; obtain ⟨hc2, hf2⟩ := bcell hb2))
    | (go_at_call 57; refine (equalFrees p.free q.free r.F s.F r.f s.f _ (Hp.out.free.go (by (repeat (first | (with_reducible exact Below.refl _ _) | (with_reducible assumption) | (refine below_step (by assumption) (by first | omega | (simp; done) | (simp; omega)) ?_) | (with_reducible refine Below.alloc ?_ (by first | omega | (simp; done) | (simp; omega)) _) | (with_reducible refine Below.drew ?_) | (with_reducible refine below_drewN ?_ _) | (with_reducible refine Below.setCell ?_ (by first | omega | (simp; done) | (simp; omega)) _))))) (Hq.out.free.go (by (repeat (first | (with_reducible exact Below.refl _ _) | (with_reducible assumption) | (refine below_step (by assumption) (by first | omega | (simp; done) | (simp; omega)) ?_) | (with_reducible refine Below.alloc ?_ (by first | omega | (simp; done) | (simp; omega)) _) | (with_reducible refine Below.drew ?_) | (with_reducible refine below_drewN ?_ _) | (with_reducible refine Below.setCell ?_ (by first | omega | (simp; done) | (simp; omega)) _)))))).mono ?_; (rintro e w2 ⟨rfl, hb2⟩; have hz := hb2.size; have hsz : w.heap.size < w2.heap.size := Nat.lt_of_lt_of_le (by first | exact hsz | omega | (simp; done) | (simp; omega)) hz; have hsz1 : w.heap.size + 1 < w2.heap.size := Nat.lt_of_lt_of_le (by first | exact hsz1 | omega | (simp; done) | (simp; omega)) hz; obtain ⟨hc2, hf2⟩ := bcell hb2))
    | (go_at_call_of 56 (Value.slice r.K p.keys.length r.k); refine (equalTxts p.keys q.keys r.K s.K r.k s.k _ (Hp.out.keys.go (by (repeat (first | (with_reducible exact Below.refl _ _) | (with_reducible assumption) | (refine below_step (by assumption) (by first | omega | (simp; done) | (simp; omega)) ?_) | (with_reducible refine Below.alloc ?_ (by first | omega | (simp; done) | (simp; omega)) _) | (with_reducible refine Below.drew ?_) | (with_reducible refine below_drewN ?_ _) | (with_reducible refine Below.setCell ?_ (by first | omega | (simp; done) | (simp; omega)) _))))) (Hq.out.keys.go (by (repeat (first | (with_reducible exact Below.refl _ _) | (with_reducible assumption) | (refine below_step (by assumption) (by first | omega | (simp; done) | (simp; omega)) ?_) | (with_reducible refine Below.alloc ?_ (by first | omega | (simp; done) | (simp; omega)) _) | (with_reducible refine Below.drew ?_) | (with_reducible refine below_drewN ?_ _) | (with_reducible refine Below.setCell ?_ (by first | omega | (simp; done) | (simp; omega)) _)))))).mono ?_; (rintro e w2 ⟨rfl, hb2⟩; have hz := hb2.size; have hsz : w.heap.size < w2.heap.size := Nat.lt_of_lt_of_le (by first | exact hsz | omega | (simp; done) | (simp; omega)) hz; have hsz1 : w.heap.size + 1 < w2.heap.size := Nat.lt_of_lt_of_le (by first | exact hsz1 | omega | (simp; done) | (simp; omega)) hz; obtain ⟨hc2, hf2⟩ := bcell hb2))
    | (go_at_call_of 56 (Value.slice r.V p.vals.length r.v); refine (equalTxts p.vals q.vals r.V s.V r.v s.v _ (Hp.out.vals.go (by (repeat (first | (with_reducible exact Below.refl _ _) | (with_reducible assumption) | (refine below_step (by assumption) (by first | omega | (simp; done) | (simp; omega)) ?_) | (with_reducible refine Below.alloc ?_ (by first | omega | (simp; done) | (simp; omega)) _) | (with_reducible refine Below.drew ?_) | (with_reducible refine below_drewN ?_ _) | (with_reducible refine Below.setCell ?_ (by first | omega | (simp; done) | (simp; omega)) _))))) (Hq.out.vals.go (by (repeat (first | (with_reducible exact Below.refl _ _) | (with_reducible assumption) | (refine below_step (by assumption) (by first | omega | (simp; done) | (simp; omega)) ?_) | (with_reducible refine Below.alloc ?_ (by first | omega | (simp; done) | (simp; omega)) _) | (with_reducible refine Below.drew ?_) | (with_reducible refine below_drewN ?_ _) | (with_reducible refine Below.setCell ?_ (by first | omega | (simp; done) | (simp; omega)) _)))))).mono ?_; (rintro e w2 ⟨rfl, hb2⟩; have hz := hb2.size; have hsz : w.heap.size < w2.heap.size := Nat.lt_of_lt_of_le (by first | exact hsz | omega | (simp; done) | (simp; omega)) hz; have hsz1 : w.heap.size + 1 < w2.heap.size := Nat.lt_of_lt_of_le (by first | exact hsz1 | omega | (simp; done) | (simp; omega)) hz; obtain ⟨hc2, hf2⟩ := bcell hb2)))
  all_goals
    go_ret
    refine ⟨ret_bool ?_, by (repeat (first | (with_reducible exact Below.refl _ _) | (with_reducible assumption) | (refine below_step (by assumption) (by first | omega | (simp; done) | (simp; omega)) ?_) | (with_reducible refine Below.alloc ?_ (by first | omega | (simp; done) | (simp; omega)) _) | (with_reducible refine Below.drew ?_) | (with_reducible refine below_drewN ?_ _) | (with_reducible refine Below.setCell ?_ (by first | omega | (simp; done) | (simp; omega)) _)))⟩
    unfold Sp.samePage
    clear Hp Hq hmt
    go_light
    have he : (p = q) ↔ (p.kind = q.kind ∧ p.items = q.items ∧ p.keys = q.keys ∧ p.kids = q.kids ∧ p.text = q.text ∧ p.vals = q.vals ∧ p.free = q.free ∧ p.next = q.next ∧ p.mt = q.mt) := by
      obtain ⟨a, b, c, d, e, f, g, h, i⟩ := p
      obtain ⟨a', b', c', d', e', f', g', h', i'⟩ := q
      simp
    rw [Bool.eq_iff_iff, decide_eq_true_iff (p := p = q), he]
    grind
end Go.Proofs.Ytienlhckcpfknaa
namespace Go.Proofs.Ytienlhckcpfknaa
open Go.RowKit
attribute [local go_sem low] mk_extract
attribute [local go_sem] After.cell After.frozen mk_extract_end ByteArray.mk_append_mk
namespace Sp
def kn : Page := ⟨1, [⟨[97], 1, [120], 0, 0, [], 0, root0⟩, ⟨[98], 3, [], 0, 0, [[49], [50]], 0, root0⟩], [], [], [], [], [], 0, mt0⟩
theorem kn_is : isPage kn = true := by decide +kernel
theorem kn_read : readOk (bytes kn) = true := by decide +kernel
theorem kn_parse : parse (bytes kn) = kn := by decide +kernel
theorem kn_len : (bytes kn).length ≤ 4611686018427387904 := by decide +kernel
theorem kn_no : samePage kn pg0 = false := by decide +kernel
theorem pg0_is : isPage pg0 = false := by decide +kernel
theorem pg0_bytes : bytes pg0 = [] := by decide +kernel
theorem nil_read : readOk [] = false := by decide +kernel
end Sp
end Go.Proofs.Ytienlhckcpfknaa
namespace Go.Proofs.Ytienlhckcpfknaa
open Go.RowKit
attribute [local go_sem low] mk_extract
attribute [local go_sem] After.cell After.frozen mk_extract_end ByteArray.mk_append_mk
theorem wpList_row {P : Program} {ops : Array Oper} {rest : List Oper} {o : Oper} {a : Act} {w : World} {Q : Exit → Act → World → Prop} (ty : TypeId) (x : Operand) (ho : o.op = .load ty x)
    (g : Nat) (hx : a.eval x = .pointer (some ⟨g, 0, none⟩)) (hgd : Region.wanted o (yielded ops a.tmps) = true) (t : TypeId) (cs : Array Value) (fr : Nat × Nat) (d : TypeDesc) (hg : w.heap[g]? = some (.cells cs t fr))
    (hu : P.underlying ty = some d) (hd : (match d with | .struct _ | .array _ _ => true | _ => false) = true) (hi : (P.info? ty).map (·.size) = some cs.size)
    (h : wpList P ops Q rest (a.put o.dst (.agg cs)) w) : wpList P ops Q (o :: rest) a w :=
  wpList_step fun _ hK => by
    rw [if_pos hgd]
    exact wp_load_row ty x ho g hx t cs fr d hg hu hd hi (hK _ _ h)
/-- What is known of a world stands for it. -/
theorem wp_gen {P : Program} {c : Code} {Q : Exit → Act → World → Prop} {a : Act} {w : World} (R : World → Prop) (hR : R w) (h : ∀ W, R W → c.wp P Q a W) : c.wp P Q a w := h w hR
theorem run_loadVar_at {P : Program} (w : World) (g off : Nat) (ty : TypeId) (cs : Array Value) (d : TypeDesc) (hc : ∀ j v, cs[j]? = some v → w.cell? ⟨g, off + j, none⟩ = some v)
    (hu : P.underlying ty = some d) (hd : (match d with | .struct _ | .array _ _ => true | _ => false) = true) (hi : (P.info? ty).map (·.size) = some cs.size) :
    (loadVar ty ⟨g, off, none⟩).run P w = .ok (.agg cs) w := by
  have hl : (loadCells ⟨g, off, none⟩ cs.toList.length).run P w = .ok cs.toList.toArray w :=
    run_loadCells_list (P := P) w ⟨g, off, none⟩ cs.toList (fun j v hv => by
      have hadd : (⟨g, off, none⟩ : Addr).add j = ⟨g, off + j, none⟩ := by unfold Addr.add; split <;> simp_all
      rw [hadd]
      exact hc j v (by simpa using hv))
  cases hq : P.info? ty with
  | none => simp [hq] at hi
  | some i =>
    have hs : i.size = cs.size := by simpa [hq] using hi
    have hagg : (isAgg ty).run P w = .ok true w := by
      unfold isAgg
      rw [Sem.run_bind, run_underlying hu w]
      cases d <;> simp_all
    simp only [Array.length_toList, Array.toArray_toList] at hl
    simp [loadVar, Sem.run_bind, hagg, sizeOf, typeInfo, hq, hs, hl]
/-- A load of a struct that lies inside a block, in one step. -/
theorem wpList_at {P : Program} {ops : Array Oper} {rest : List Oper} {o : Oper} {a : Act} {w : World} {Q : Exit → Act → World → Prop} (ty : TypeId) (x : Operand) (ho : o.op = .load ty x)
    (g off : Nat) (hx : a.eval x = .pointer (some ⟨g, off, none⟩)) (hgd : Region.wanted o (yielded ops a.tmps) = true) (cs : Array Value) (d : TypeDesc) (hc : ∀ j v, cs[j]? = some v → w.cell? ⟨g, off + j, none⟩ = some v)
    (hu : P.underlying ty = some d) (hd : (match d with | .struct _ | .array _ _ => true | _ => false) = true) (hi : (P.info? ty).map (·.size) = some cs.size)
    (h : wpList P ops Q rest (a.put o.dst (.agg cs)) w) : wpList P ops Q (o :: rest) a w :=
  wpList_step fun _ hK => by
    rw [if_pos hgd]
    unfold Oper.wp execOp
    simp only [ho, hx, Instr.loadAt, Instr.sureAddr, Sem.run_bind, Sem.run_pure, Result.andThen_ok, run_loadVar_at w g off ty cs d hc hu hd hi]
    exact hK _ _ h
theorem setRow_alloc (w : World) (T : TypeId) (zs cs : Array Value) : (w.alloc (.cells zs T)).setRow w.heap.size cs = w.alloc (.cells cs T) := by
  have hh : (w.heap.push (.cells zs T)).modify w.heap.size (fun | .cells _ elem frozen => .cells cs elem frozen | o => o) = w.heap.push (.cells cs T) := by
    apply Array.ext_getElem?
    intro i
    rw [Array.getElem?_modify, Array.getElem?_push, Array.getElem?_push]
    by_cases h : w.heap.size = i
    · subst h
      simp
    · have h2 : ¬ i = w.heap.size := fun e => h e.symm
      simp [h, h2]
  exact congrArg (fun hp => { w with heap := hp }) hh
/-- A variable of its own that is laid and filled at once. -/
theorem wpList_new {P : Program} {ops : Array Oper} {rest : List Oper} {o p : Oper} {a : Act} {w : World} {Q : Exit → Act → World → Prop} (T : TypeId) (d : Tmp) (y : Operand)
    (ho : o.op = .alloc T) (hp : p.op = .store T (.tmp d) y) (hd : o.dst = some d) (hdp : p.dst = none) (hgo : o.guard = none) (hgp : p.guard = none) (cells : Array Value)
    (hy : (a.put (some d) (.pointer (some ⟨w.heap.size, 0, none⟩))).eval y = .agg cells)
    (hdl : d < a.tmps.size) (hz : ((P.info? T).bind (·.zero)).map (fun v => v.cells.size) = some cells.size) (hi : (P.info? T).map (·.size) = some cells.size) (h1 : cells.all (·.oneCell') = true)
    (h : wpList P ops Q rest (a.put (some d) (.pointer (some ⟨w.heap.size, 0, none⟩))) (w.alloc (.cells cells T))) : wpList P ops Q (o :: p :: rest) a w := by
  cases hq : P.info? T with
  | none => simp [hq] at hi
  | some i =>
    cases hz0 : i.zero with
    | none => simp [hq, hz0] at hz
    | some z =>
      have hzs : z.cells.size = cells.size := by simpa [hq, hz0] using hz
      refine wpList_plain hgo fun K hK => ?_
      unfold Oper.wp execOp
      have hrun : (Instr.alloc T true (.tuple #[])).run P w = .ok (.pointer (some ⟨w.heap.size, 0, none⟩)) (w.alloc (.cells z.cells T)) := by
        simp [Instr.alloc, zeroValue, typeInfo, hq, hz0, newVar, newRow, newObj, Sem.run_bind]
        rfl
      simp only [ho, Sem.run_bind, hrun, Result.andThen_ok]
      refine hK _ _ ?_
      rw [hd]
      refine wpList_store_row hgp T (.tmp d) y hp w.heap.size cells ?_ hy T z.cells (heap_alloc_new w _) hi hzs h1 ?_
      · simp [Act.eval, Act.put, hdl]
      · rw [setRow_alloc, hdp]
        exact h
theorem wpList_built {P : Program} {ops : Array Oper} {rest : List Oper} {o : Oper} {a : Act} {w : World} {Q : Exit → Act → World → Prop} (hg : o.guard = none) (t : TypeId) (parts : Array (Nat × Operand)) (ho : o.op = .build t parts) (cells : Array Value)
    (hf : P.built t (parts.map fun (i, x) => (i, a.eval x)).toList = some cells)
    (h : wpList P ops Q rest (a.put o.dst (.agg cells)) w) : wpList P ops Q (o :: rest) a w :=
  wpList_build hg t parts ho (by rw [hf]; rfl) (by rw [hf]; exact h)
/-- A load of a whole block inside a region whose order is open. -/
theorem wpQuiet_row {P : Program} {ops : Array Oper} {C : World → Prop} {Q : Act → Prop} {rest : List Oper} {o : Oper} {a : Act} (ty : TypeId) (x : Operand) (ho : o.op = .load ty x)
    (g : Nat) (hx : a.eval x = .pointer (some ⟨g, 0, none⟩)) (hgd : Region.wanted o (yielded ops a.tmps) = true) (t : TypeId) (cs : Array Value) (fr : Nat × Nat) (d : TypeDesc) (hg : ∀ w, C w → w.heap[g]? = some (.cells cs t fr))
    (hu : P.underlying ty = some d) (hd : (match d with | .struct _ | .array _ _ => true | _ => false) = true) (hi : (P.info? ty).map (·.size) = some cs.size)
    (h : wpQuiet P ops C Q rest (a.put o.dst (.agg cs))) : wpQuiet P ops C Q (o :: rest) a :=
  wpQuiet_step fun K hK => by
    rw [if_pos hgd]
    refine ⟨.agg cs, fun w hw => ?_, hK _ h⟩
    unfold Oper.quietAt execOp
    simp only [ho, hx, Instr.loadAt, Instr.sureAddr, Sem.run_bind, Sem.run_pure, Result.andThen_ok, run_loadVar_row w g t ty cs fr d (hg w hw) hu hd hi]
    exact ⟨rfl, rfl⟩
/-- A row of bytes of the call's own, block b. -/
structure ByS (b : Nat) (l : List UInt8) (w : World) : Prop where
  lt : b < w.heap.size
  cell : ∀ i, i < l.length → w.cell? ⟨b, i, none⟩ = some (.int .u8 ((l.getD i 0).toNat : Int))
  froz : ∀ i, i < l.length → w.frozen? ⟨b, i, none⟩ = false
theorem ByS.below {B b : Nat} {l : List UInt8} {w w' : World} (h : ByS b l w) (hb : Below B w w') (hB : b < B) : ByS b l w' :=
  ⟨Nat.lt_of_lt_of_le h.lt hb.size, fun i hi => (hb.cell (p := ⟨b, i, none⟩) hB).trans (h.cell i hi), fun i hi => (hb.frozen (p := ⟨b, i, none⟩) hB).trans (h.froz i hi)⟩
theorem ByS.set_ {b : Nat} {l : List UInt8} {w : World} (h : ByS b l w) {k : Nat} (hk : k < l.length) (c : UInt8) : ByS b (l.set k c) (w.setCell ⟨b, k, none⟩ (.int .u8 (c.toNat : Int))) := by
  refine ⟨by simpa using h.lt, fun i hi => ?_, fun i hi => ?_⟩
  · simp only [List.length_set] at hi
    by_cases hik : i = k
    · subst hik
      have := h.cell i hi
      rw [World.cell?_setCell_same _ _ _ this]
      simp [List.getD, hi]
    · rw [World.cell?_setCell_other w ⟨b, k, none⟩ ⟨b, i, none⟩ _ (by simp only [ne_eq, Addr.mk.injEq, and_true, true_and]; exact fun e => hik e.symm)]
      rw [h.cell i hi]
      simp [List.getD, List.getElem?_set, Ne.symm hik]
  · simp only [List.length_set] at hi
    rw [World.frozen?_setCell]
    exact h.froz i hi
theorem wpList_to_bytes {P : Program} {ops : Array Oper} {rest : List Oper} {o : Oper} {a : Act} {w : World} {Q : Exit → Act → World → Prop} (src dst e : TypeId) (x : Operand) (ho : o.op = .convert src dst x) (hgd : o.guard = none)
    (l : List UInt8) (hx : a.eval x = .string ⟨l.toArray⟩) (hs : P.underlying src = some .string) (hd : P.underlying dst = some (.slice e)) (he : P.underlying e = some (.int .u8))
    (h : ∀ W' cap, Below w.heap.size w W' → W'.heap.size = w.heap.size + 1 → ByS w.heap.size l W' → wpList P ops Q rest (a.put o.dst (.slice (some ⟨w.heap.size, 0, none⟩) l.length cap)) W') : wpList P ops Q (o :: rest) a w := by
  refine wpList_plain hgd fun K hK => ?_
  unfold Oper.wp execOp
  simp only [ho, hx, Sem.run_bind, run_bytes_of_string w src dst e ⟨l.toArray⟩ hs hd he, Result.andThen_ok]
  refine hK _ _ (h _ _ ((Below.refl _ _).drew.alloc (by simp) _) (by simp) ⟨by simp, fun i hi => ?_, fun i hi => ?_⟩)
  · have := heap_alloc_new w.drew (.cells (bytesRow ⟨l.toArray⟩ (grownCap w (ByteArray.size ⟨l.toArray⟩) 0 e)) e ((bytesRow ⟨l.toArray⟩ (grownCap w (ByteArray.size ⟨l.toArray⟩) 0 e)).size, (bytesRow ⟨l.toArray⟩ (grownCap w (ByteArray.size ⟨l.toArray⟩) 0 e)).size + 1))
    have h2 : w.drew.heap.size = w.heap.size := rfl
    rw [h2] at this
    rw [cell_of_row _ _ _ _ _ _ this, bytesRow_at _ _ _ (by simpa using hi)]
    simp [List.getD, hi]
  · have := heap_alloc_new w.drew (.cells (bytesRow ⟨l.toArray⟩ (grownCap w (ByteArray.size ⟨l.toArray⟩) 0 e)) e ((bytesRow ⟨l.toArray⟩ (grownCap w (ByteArray.size ⟨l.toArray⟩) 0 e)).size, (bytesRow ⟨l.toArray⟩ (grownCap w (ByteArray.size ⟨l.toArray⟩) 0 e)).size + 1))
    have hlen : i < (bytesRow ⟨l.toArray⟩ (grownCap w (ByteArray.size ⟨l.toArray⟩) 0 e)).size := by
      have := bytesRow_at ⟨l.toArray⟩ (grownCap w (ByteArray.size ⟨l.toArray⟩) 0 e) i (by simpa using hi)
      exact (Array.getElem?_eq_some_iff.1 this).1
    have h2 : w.drew.heap.size = w.heap.size := rfl
    rw [h2] at this
    simp only [World.frozen?, this]
    simp
    omega
theorem ByS.back {P : Program} {b cap : Nat} {l : List UInt8} {w : World} (h : ByS b l w) (src dst e : TypeId) (hs : P.underlying src = some (.slice e)) (he : P.underlying e = some (.int .u8)) (hd : P.underlying dst = some .string) {n : Nat} (hn : n = l.length) :
    (convert src dst (.slice (some ⟨b, 0, none⟩) n cap)).run P w = .ok (.string ⟨l.toArray⟩) w := by
  subst hn
  have := run_convert_bytes_arg (P := P) w src e hs he b 0 l.length cap (l.map fun c => (c.toNat : Int)) (by simp) (fun i hi => by rw [Nat.zero_add, h.cell i hi]; simp [List.getD, hi]) dst hd
  rw [this]
  congr 2
  apply ByteArray.ext
  apply Array.ext'
  rw [strOfNums_data, List.map_map]
  simp only [Function.comp_def, Int.toNat_natCast, UInt8.ofNat_toNat, List.map_id']
theorem wp_region_row {P : Program} {id : Nat} {Q : Exit → Act → World → Prop} {a : Act} {w : World} {l : List Oper} (hm : P.follows .mixedOrders = true) (hB : Region.lexB .any l.toArray = true)
    (h : wpQuiet P l.toArray (fun w' => ∃ x : After w.heap.size w, w' = x.w) (fun a' => ∀ w', Below w.heap.size w w' → Q .normal a' w') l a) : (Code.region id l.toArray true).wp P Q a w := wp_region_after hm hB w.heap.size h
theorem blk_after {W : World} {g : Nat} {t : TypeId} {cs : Array Value} (h : Blk W g t cs) : ∀ w', (∃ x : After W.heap.size W, w' = x.w) → w'.heap[g]? = some (.cells cs t (0, 0)) := by
  rintro _ ⟨x, rfl⟩
  exact h.below x.h h.lt
end Go.Proofs.Ytienlhckcpfknaa
namespace Go.Proofs.Ytienlhckcpfknaa
open Go.RowKit
attribute [local go_sem low] mk_extract
attribute [local go_sem] After.cell After.frozen mk_extract_end ByteArray.mk_append_mk
/-- The known page, as it lies. -/
def knR (w : World) : Refs := ⟨some ⟨w.heap.size + 1, 0, none⟩, none, none, none, none, 2, 0, 0, 0, 0⟩
def knW (w : World) : World := ((w.alloc (.cells #[.string ⟨#[49]⟩, .string ⟨#[50]⟩] StrT)).alloc (.cells #[.string ⟨#[97]⟩, .int .i64 1, .string ⟨#[120]⟩, .int .i64 0, .int .i64 0, .slice none 0 0, .int .i64 0, .int .i64 0, .int .i64 0, .int .i64 0, .string ⟨#[98]⟩, .int .i64 3, .string ⟨#[]⟩, .int .i64 0, .int .i64 0, .slice (some ⟨w.heap.size, 0, none⟩) 2 2, .int .i64 0, .int .i64 0, .int .i64 0, .int .i64 0] ItemT)).alloc (.cells #[.int .i64 1, .slice (some ⟨w.heap.size + 1, 0, none⟩) 2 2, .slice none 0 0, .slice none 0 0, .string ⟨#[]⟩, .slice none 0 0, .slice none 0 0, .int .i64 0, .int .u64 0, .int .i64 0, .int .i64 0, .int .i64 0, .int .i64 0, .int .i64 0] PageT)
theorem knW_rd (w : World) : PageRd (knW w) NoM Sp.kn (knR w) := by
  have b1 : Blk (knW w) w.heap.size StrT #[.string ⟨#[49]⟩, .string ⟨#[50]⟩] := ((Blk.new w StrT #[.string ⟨#[49]⟩, .string ⟨#[50]⟩]).alloc (.cells #[.string ⟨#[97]⟩, .int .i64 1, .string ⟨#[120]⟩, .int .i64 0, .int .i64 0, .slice none 0 0, .int .i64 0, .int .i64 0, .int .i64 0, .int .i64 0, .string ⟨#[98]⟩, .int .i64 3, .string ⟨#[]⟩, .int .i64 0, .int .i64 0, .slice (some ⟨w.heap.size, 0, none⟩) 2 2, .int .i64 0, .int .i64 0, .int .i64 0, .int .i64 0] ItemT)).alloc (.cells #[.int .i64 1, .slice (some ⟨w.heap.size + 1, 0, none⟩) 2 2, .slice none 0 0, .slice none 0 0, .string ⟨#[]⟩, .slice none 0 0, .slice none 0 0, .int .i64 0, .int .u64 0, .int .i64 0, .int .i64 0, .int .i64 0, .int .i64 0, .int .i64 0] PageT)
  have b2 : Blk (knW w) (w.heap.size + 1) ItemT #[.string ⟨#[97]⟩, .int .i64 1, .string ⟨#[120]⟩, .int .i64 0, .int .i64 0, .slice none 0 0, .int .i64 0, .int .i64 0, .int .i64 0, .int .i64 0, .string ⟨#[98]⟩, .int .i64 3, .string ⟨#[]⟩, .int .i64 0, .int .i64 0, .slice (some ⟨w.heap.size, 0, none⟩) 2 2, .int .i64 0, .int .i64 0, .int .i64 0, .int .i64 0] := (blk_second w (.cells #[.string ⟨#[49]⟩, .string ⟨#[50]⟩] StrT) ItemT #[.string ⟨#[97]⟩, .int .i64 1, .string ⟨#[120]⟩, .int .i64 0, .int .i64 0, .slice none 0 0, .int .i64 0, .int .i64 0, .int .i64 0, .int .i64 0, .string ⟨#[98]⟩, .int .i64 3, .string ⟨#[]⟩, .int .i64 0, .int .i64 0, .slice (some ⟨w.heap.size, 0, none⟩) 2 2, .int .i64 0, .int .i64 0, .int .i64 0, .int .i64 0]).alloc (.cells #[.int .i64 1, .slice (some ⟨w.heap.size + 1, 0, none⟩) 2 2, .slice none 0 0, .slice none 0 0, .string ⟨#[]⟩, .slice none 0 0, .slice none 0 0, .int .i64 0, .int .u64 0, .int .i64 0, .int .i64 0, .int .i64 0, .int .i64 0, .int .i64 0] PageT)
  refine ⟨⟨by decide, .inr ⟨w.heap.size + 1, 0, rfl, b2.lt, id, fun k hk => ?_⟩⟩, Row.nil_, Row.nil_, Row.nil_, Frees.nil_, by decide⟩
  have hk2 : k = 0 ∨ k = 1 := by
    have : k < 2 := hk
    omega
  rcases hk2 with rfl | rfl
  · exact ⟨none, 0, ⟨(b2.cell _).trans rfl, (b2.cell _).trans rfl, (b2.cell _).trans rfl, (b2.cell _).trans rfl, (b2.cell _).trans rfl, (b2.cell _).trans rfl, (b2.cell _).trans rfl, (b2.cell _).trans rfl, (b2.cell _).trans rfl, (b2.cell _).trans rfl⟩, Row.nil_⟩
  · refine ⟨some ⟨w.heap.size, 0, none⟩, 2, ⟨(b2.cell _).trans rfl, (b2.cell _).trans rfl, (b2.cell _).trans rfl, (b2.cell _).trans rfl, (b2.cell _).trans rfl, (b2.cell _).trans rfl, (b2.cell _).trans rfl, (b2.cell _).trans rfl, (b2.cell _).trans rfl, (b2.cell _).trans rfl⟩, ⟨by decide, .inr ⟨w.heap.size, 0, rfl, b1.lt, id, fun j u hu => ?_⟩⟩⟩
    refine (b1.cell (0 + j)).trans ?_
    rw [Nat.zero_add]
    simpa [Sp.kn, List.getD, tv] using hu
theorem kn_readV (r : Refs) : readV (Sp.bytes Sp.kn) r = .tuple #[.agg #[.int .i64 1, .slice r.I 2 r.i, .slice r.K 0 r.k, .slice r.D 0 r.d, .string ⟨#[]⟩, .slice r.V 0 r.v, .slice r.F 0 r.f, .int .i64 0, .int .u64 0, .int .i64 0, .int .i64 0, .int .i64 0, .int .i64 0, .int .i64 0], .nilIface] := by
  unfold readV
  rw [Sp.kn_read, Sp.kn_parse]
  rfl
theorem kn_readP : readPg (Sp.bytes Sp.kn) = Sp.kn := by
  unfold readPg
  rw [Sp.kn_read, Sp.kn_parse]
  rfl
theorem kn_readV0 (r : Refs) : readV [] r = .tuple #[.agg #[.int .i64 0, .slice r.I 0 r.i, .slice r.K 0 r.k, .slice r.D 0 r.d, .string ⟨#[]⟩, .slice r.V 0 r.v, .slice r.F 0 r.f, .int .i64 0, .int .u64 0, .int .i64 0, .int .i64 0, .int .i64 0, .int .i64 0, .int .i64 0], .iface 44 (.int .i64 12)] := by
  unfold readV
  rw [Sp.nil_read]
  rfl
/-- The two pages of the known law, as they lie. -/
structure KnS (W0 : World) (gp gq : Nat) (rp rq : Refs) (w : World) : Prop where
  hb : Below W0.heap.size W0 w
  bp : Blk w gp PageT (pageV Sp.kn rp).toArray
  bq : Blk w gq PageT (pageV Sp.kn rq).toArray
  rp : PageRd w NoM Sp.kn rp
  rq : PageRd w NoM Sp.kn rq
theorem KnS.go {W0 : World} {gp gq : Nat} {rp rq : Refs} {w w' : World} (h : KnS W0 gp gq rp rq w) (hb : Below w.heap.size w w') : KnS W0 gp gq rp rq w' :=
  ⟨h.hb.trans (hb.mono h.hb.size), h.bp.below hb h.bp.lt, h.bq.below hb h.bq.lt, h.rp.go hb, h.rq.go hb⟩
set_option maxRecDepth 100000 in
set_option maxHeartbeats 6400000 in
theorem known_any (w : World) : Calls Try.prog 13 #[] w fun e w' => e = .returned (.bool true) ∧ Below w.heap.size w w' := by
  have HP0 := Lib.hid (knW_rd w)
  have B0 := Lib.hid (show Blk (knW w) (w.heap.size + 1 + 1) PageT #[.int .i64 1, .slice (some ⟨w.heap.size + 1, 0, none⟩) 2 2, .slice none 0 0, .slice none 0 0, .string ⟨#[]⟩, .slice none 0 0, .slice none 0 0, .int .i64 0, .int .u64 0, .int .i64 0, .int .i64 0, .int .i64 0, .int .i64 0, .int .i64 0] by have := Blk.new ((w.alloc (.cells #[.string ⟨#[49]⟩, .string ⟨#[50]⟩] StrT)).alloc (.cells #[.string ⟨#[97]⟩, .int .i64 1, .string ⟨#[120]⟩, .int .i64 0, .int .i64 0, .slice none 0 0, .int .i64 0, .int .i64 0, .int .i64 0, .int .i64 0, .string ⟨#[98]⟩, .int .i64 3, .string ⟨#[]⟩, .int .i64 0, .int .i64 0, .slice (some ⟨w.heap.size, 0, none⟩) 2 2, .int .i64 0, .int .i64 0, .int .i64 0, .int .i64 0] ItemT)) PageT #[.int .i64 1, .slice (some ⟨w.heap.size + 1, 0, none⟩) 2 2, .slice none 0 0, .slice none 0 0, .string ⟨#[]⟩, .slice none 0 0, .slice none 0 0, .int .i64 0, .int .u64 0, .int .i64 0, .int .i64 0, .int .i64 0, .int .i64 0, .int .i64 0]; simp only [World.size_alloc] at this; exact this)
  have HB0 := Lib.hid (show Below w.heap.size w (knW w) from ((Below.refl _ w).alloc (by first | omega | (simp only [World.size_alloc]; omega)) _ |>.alloc (by first | omega | (simp only [World.size_alloc]; omega)) _).alloc (by first | omega | (simp only [World.size_alloc]; omega)) _)
  have HZ : w.heap.size + 3 ≤ (knW w).heap.size := by simp [knW]
  have HW := Lib.hid (show knW w = ((w.alloc (.cells #[.string ⟨#[49]⟩, .string ⟨#[50]⟩] StrT)).alloc (.cells #[.string ⟨#[97]⟩, .int .i64 1, .string ⟨#[120]⟩, .int .i64 0, .int .i64 0, .slice none 0 0, .int .i64 0, .int .i64 0, .int .i64 0, .int .i64 0, .string ⟨#[98]⟩, .int .i64 3, .string ⟨#[]⟩, .int .i64 0, .int .i64 0, .slice (some ⟨w.heap.size, 0, none⟩) 2 2, .int .i64 0, .int .i64 0, .int .i64 0, .int .i64 0] ItemT)).alloc (.cells #[.int .i64 1, .slice (some ⟨w.heap.size + 1, 0, none⟩) 2 2, .slice none 0 0, .slice none 0 0, .string ⟨#[]⟩, .slice none 0 0, .slice none 0 0, .int .i64 0, .int .u64 0, .int .i64 0, .int .i64 0, .int .i64 0, .int .i64 0, .int .i64 0] PageT) from rfl)
  go_enter Try.func13, Try.ntmps13
  go_upto_region 2 with fail
  rw [← HW.out]
  clear HW
  generalize knW w = w1 at *
  have hsz : w.heap.size < w1.heap.size := by omega
  have hsz2 : w.heap.size + 1 + 1 < w1.heap.size := by omega
  obtain ⟨⟨xxa, xxb, xxc, xxd, xxe, xxf, xxg, xxh, xxi, xxj, xxk, xxl, xxm, xxn⟩, _⟩ := B0.out.at14
  go_upto_region 3 with (first
    | (go_at_call 20; refine (bytes_any (M := NoM) Sp.kn (knR w) _ HP0.out).mono ?_; rintro e w2 ⟨rfl, hb2⟩; have HB2 := Lib.hid hb2; clear hb2)
    | (go_at_call 14; refine (read_any (Sp.bytes Sp.kn) _ Sp.kn_len).mono ?_; rintro e w3 ⟨r, rfl, hp, hb3⟩; rw [kn_readV]; have HB3 := Lib.hid hb3; have HQ3 := Lib.hid hp; clear hp hb3))
  have hz2 := HB2.out.size
  have hz3 := HB3.out.size
  have HB4 := Lib.hid (((HB0.out.trans (HB2.out.mono (by omega))).trans (HB3.out.mono (by omega))).alloc (by omega) (.cells #[.int .i64 1, .slice r.I 2 r.i, .slice r.K 0 r.k, .slice r.D 0 r.d, .string ⟨#[]⟩, .slice r.V 0 r.v, .slice r.F 0 r.f, .int .i64 0, .int .u64 0, .int .i64 0, .int .i64 0, .int .i64 0, .int .i64 0, .int .i64 0] PageT))
  have B4 := Lib.hid (((B0.out.below HB2.out (by omega)).below HB3.out (by omega)).alloc (.cells #[.int .i64 1, .slice r.I 2 r.i, .slice r.K 0 r.k, .slice r.D 0 r.d, .string ⟨#[]⟩, .slice r.V 0 r.v, .slice r.F 0 r.f, .int .i64 0, .int .u64 0, .int .i64 0, .int .i64 0, .int .i64 0, .int .i64 0, .int .i64 0] PageT))
  have Q4 := Lib.hid (Blk.new w3 PageT #[.int .i64 1, .slice r.I 2 r.i, .slice r.K 0 r.k, .slice r.D 0 r.d, .string ⟨#[]⟩, .slice r.V 0 r.v, .slice r.F 0 r.f, .int .i64 0, .int .u64 0, .int .i64 0, .int .i64 0, .int .i64 0, .int .i64 0, .int .i64 0])
  have HP4 := Lib.hid (((HP0.out.go HB2.out).go HB3.out).chg ((Chg.refl NoM w3).alloc (.cells #[.int .i64 1, .slice r.I 2 r.i, .slice r.K 0 r.k, .slice r.D 0 r.d, .string ⟨#[]⟩, .slice r.V 0 r.v, .slice r.F 0 r.f, .int .i64 0, .int .u64 0, .int .i64 0, .int .i64 0, .int .i64 0, .int .i64 0, .int .i64 0] PageT)))
  have HQ4 := Lib.hid (show PageRd (w3.alloc (.cells #[.int .i64 1, .slice r.I 2 r.i, .slice r.K 0 r.k, .slice r.D 0 r.d, .string ⟨#[]⟩, .slice r.V 0 r.v, .slice r.F 0 r.f, .int .i64 0, .int .u64 0, .int .i64 0, .int .i64 0, .int .i64 0, .int .i64 0, .int .i64 0] PageT)) NoM Sp.kn r from by have h := HQ3.out NoM (fun _ _ h => h); rw [kn_readP] at h; exact h.chg ((Chg.refl NoM w3).alloc (.cells #[.int .i64 1, .slice r.I 2 r.i, .slice r.K 0 r.k, .slice r.D 0 r.d, .string ⟨#[]⟩, .slice r.V 0 r.v, .slice r.F 0 r.f, .int .i64 0, .int .u64 0, .int .i64 0, .int .i64 0, .int .i64 0, .int .i64 0, .int .i64 0] PageT)))
  have hz4 : w3.heap.size < (w3.alloc (.cells #[.int .i64 1, .slice r.I 2 r.i, .slice r.K 0 r.k, .slice r.D 0 r.d, .string ⟨#[]⟩, .slice r.V 0 r.v, .slice r.F 0 r.f, .int .i64 0, .int .u64 0, .int .i64 0, .int .i64 0, .int .i64 0, .int .i64 0, .int .i64 0] PageT)).heap.size := by simp
  have hq3 : w.heap.size + 1 + 1 < w3.heap.size := by omega
  clear HB0 B0 HP0 HQ3 HB2 HB3 xxa xxb xxc xxd xxe xxf xxg xxh xxi xxj xxk xxl xxm xxn
  generalize w3.alloc (.cells #[.int .i64 1, .slice r.I 2 r.i, .slice r.K 0 r.k, .slice r.D 0 r.d, .string ⟨#[]⟩, .slice r.V 0 r.v, .slice r.F 0 r.f, .int .i64 0, .int .u64 0, .int .i64 0, .int .i64 0, .int .i64 0, .int .i64 0, .int .i64 0] PageT) = w4 at *
  generalize w3.heap.size = q at *
  clear hz2 hz3 hsz hsz2 HZ
  go_upto_region 4 with (go_at_call 14; refine (read_any [] _ (by simp)).mono ?_; rintro e w5 ⟨r2, rfl, hp5, hb5⟩; rw [kn_readV0]; have HB5 := Lib.hid hb5; clear hp5 hb5)
  have hz5 := HB5.out.size
  have HB6 := Lib.hid ((HB4.out.trans (HB5.out.mono (by omega))).alloc (by omega) (.cells #[.int .i64 0, .slice r2.I 0 r2.i, .slice r2.K 0 r2.k, .slice r2.D 0 r2.d, .string ⟨#[]⟩, .slice r2.V 0 r2.v, .slice r2.F 0 r2.f, .int .i64 0, .int .u64 0, .int .i64 0, .int .i64 0, .int .i64 0, .int .i64 0, .int .i64 0] PageT))
  have B6 := Lib.hid ((B4.out.below HB5.out (by omega)).alloc (.cells #[.int .i64 0, .slice r2.I 0 r2.i, .slice r2.K 0 r2.k, .slice r2.D 0 r2.d, .string ⟨#[]⟩, .slice r2.V 0 r2.v, .slice r2.F 0 r2.f, .int .i64 0, .int .u64 0, .int .i64 0, .int .i64 0, .int .i64 0, .int .i64 0, .int .i64 0] PageT))
  have Q6 := Lib.hid ((Q4.out.below HB5.out (by omega)).alloc (.cells #[.int .i64 0, .slice r2.I 0 r2.i, .slice r2.K 0 r2.k, .slice r2.D 0 r2.d, .string ⟨#[]⟩, .slice r2.V 0 r2.v, .slice r2.F 0 r2.f, .int .i64 0, .int .u64 0, .int .i64 0, .int .i64 0, .int .i64 0, .int .i64 0, .int .i64 0] PageT))
  have HP6 := Lib.hid ((HP4.out.go HB5.out).chg ((Chg.refl NoM w5).alloc (.cells #[.int .i64 0, .slice r2.I 0 r2.i, .slice r2.K 0 r2.k, .slice r2.D 0 r2.d, .string ⟨#[]⟩, .slice r2.V 0 r2.v, .slice r2.F 0 r2.f, .int .i64 0, .int .u64 0, .int .i64 0, .int .i64 0, .int .i64 0, .int .i64 0, .int .i64 0] PageT)))
  have HQ6 := Lib.hid ((HQ4.out.go HB5.out).chg ((Chg.refl NoM w5).alloc (.cells #[.int .i64 0, .slice r2.I 0 r2.i, .slice r2.K 0 r2.k, .slice r2.D 0 r2.d, .string ⟨#[]⟩, .slice r2.V 0 r2.v, .slice r2.F 0 r2.f, .int .i64 0, .int .u64 0, .int .i64 0, .int .i64 0, .int .i64 0, .int .i64 0, .int .i64 0] PageT)))
  have hz6 : q < (w5.alloc (.cells #[.int .i64 0, .slice r2.I 0 r2.i, .slice r2.K 0 r2.k, .slice r2.D 0 r2.d, .string ⟨#[]⟩, .slice r2.V 0 r2.v, .slice r2.F 0 r2.f, .int .i64 0, .int .u64 0, .int .i64 0, .int .i64 0, .int .i64 0, .int .i64 0, .int .i64 0] PageT)).heap.size := by simp; omega
  clear HB4 B4 Q4 HP4 HQ4 HB5
  generalize w5.alloc (.cells #[.int .i64 0, .slice r2.I 0 r2.i, .slice r2.K 0 r2.k, .slice r2.D 0 r2.d, .string ⟨#[]⟩, .slice r2.V 0 r2.v, .slice r2.F 0 r2.f, .int .i64 0, .int .u64 0, .int .i64 0, .int .i64 0, .int .i64 0, .int .i64 0, .int .i64 0] PageT) = w6 at *
  clear hz5 hz4
  have S := Lib.hid (⟨HB6.out, B6.out, Q6.out, HP6.out, HQ6.out⟩ : KnS w (w.heap.size + 1 + 1) q (knR w) r w6)
  clear HB6 B6 Q6 HP6 HQ6 hz6 hq3
  go_wp2_with (first
    | (refine wpList_row PageT _ rfl (w.heap.size + 1 + 1) rfl rfl PageT _ (0, 0) _ S.out.bp Try.underlying32 rfl rfl ?_)
    | (refine wpList_row PageT _ rfl q rfl rfl PageT _ (0, 0) _ S.out.bq Try.underlying32 rfl rfl ?_)
    | (go_at_call_of 16 (Sp.kn); refine (isPage_any (M := NoM) Sp.kn (knR w) _ S.out.rp).mono ?_; rintro e w7 ⟨rfl, hb2⟩; rw [Sp.kn_is]; replace S := Lib.hid (S.out.go hb2); clear hb2)
    | (go_at_call 16; refine (isPage_any (M := NoM) Sp.pg0 refs0 _ (pageRd0 _ _ _)).mono ?_; rintro e w7 ⟨rfl, hb2⟩; rw [Sp.pg0_is]; replace S := Lib.hid (S.out.go hb2); clear hb2)
    | (go_at_call_of 18 r; refine (samePage_any (M := NoM) (N := NoM) Sp.kn Sp.kn (knR w) r _ S.out.rp S.out.rq).mono ?_; rintro e w7 ⟨rfl, hb2⟩; rw [show Sp.samePage Sp.kn Sp.kn = true from decide_eq_true rfl]; replace S := Lib.hid (S.out.go hb2); clear hb2)
    | (go_at_call 18; refine (samePage_any (M := NoM) (N := NoM) Sp.kn Sp.pg0 (knR w) refs0 _ S.out.rp (pageRd0 _ _ _)).mono ?_; rintro e w7 ⟨rfl, hb2⟩; rw [Sp.kn_no]; replace S := Lib.hid (S.out.go hb2); clear hb2)
    | (go_at_call 22; refine (errIs_same 12 _).mono ?_; rintro e w7 ⟨rfl, rfl⟩)
    | (go_at_call 20; refine (bytes_any (M := NoM) Sp.pg0 refs0 _ (pageRd0 _ _ _)).mono ?_; rintro e w7 ⟨rfl, hb2⟩; rw [Sp.pg0_bytes]; replace S := Lib.hid (S.out.go hb2); clear hb2)
    | (go_at_call_of 23 (97 : UInt8); refine (short_any [97] _).mono ?_; rintro e w7 ⟨rfl, hb2⟩; rw [show Sp.short [97] = true from by decide +kernel]; replace S := Lib.hid (S.out.go hb2); clear hb2)
    | (go_at_call_of 23 (49 : UInt8); refine (short_any [49, 50, 51, 52, 53, 54, 55, 56, 57] _).mono ?_; rintro e w7 ⟨rfl, hb2⟩; rw [show Sp.short [49, 50, 51, 52, 53, 54, 55, 56, 57] = false from by decide +kernel]; replace S := Lib.hid (S.out.go hb2); clear hb2)
    | (go_at_call 23; refine (short_any [] _).mono ?_; rintro e w7 ⟨rfl, hb2⟩; rw [show Sp.short [] = false from by decide +kernel]; replace S := Lib.hid (S.out.go hb2); clear hb2)
    | fail)
  go_ret
  exact ⟨rfl, S.out.hb⟩
end Go.Proofs.Ytienlhckcpfknaa
