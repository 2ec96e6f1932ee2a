/- The document's equality of free pages. The document's Same. A meta, a text, a row of bools that come in. A text that comes in, with its size. -/
import Derived.Test.YtienlhckcpfknaaQB16
import Derived.Deep.DeepCutAuto
import Derived.Deep.Grids
set_option linter.unusedSimpArgs false
set_option linter.unusedVariables false
namespace Go.Proofs.Ytienlhckcpfknaa
open Go.RowKit
attribute [local go_sem low] mk_extract
attribute [local go_sem] After.cell After.frozen mk_extract_end ByteArray.mk_append_mk
set_option maxRecDepth 100000 in
set_option maxHeartbeats 1600000 in
theorem dSameFrees (l m : List Sp.Free) (A B : Option Addr) (c d : Nat) {M N : Nat → Prop} (w : World) (hl : Frees w M A l) (hm : Frees w N B m) :
    Calls Try.prog 60 #[.slice A l.length c, .slice B m.length d] w fun e w' => e = .returned (.bool (decide (l = m))) ∧ Below w.heap.size w w' := by
  have hlen := hl.len
  have hmen := hm.len
  have Hl := Lib.hid hl
  have Hm := Lib.hid hm
  clear hl hm
  by_cases he : l.length = m.length
  · have he1 : ((l.length : Int) == (m.length : Int)) = true := by simp [he]
    have he2 : ((l.length : Int) != (m.length : Int)) = false := by simp [he]
    have HE := Lib.hid he
    clear he
    go_enter Try.func60, Try.ntmps60
    go_wp2
    go_loopw [5] (fun i wr => ∃ k : Nat, k ≤ l.length ∧ i = .int .i64 k ∧ Below w.heap.size w wr ∧ Hid (∀ j, j < k → l.getD j Sp.free0 = m.getD j Sp.free0)) (fun i _ => l.length - (intOf i).toNat)
    case atStart => exact ⟨0, Nat.zero_le _, rfl, Below.refl _ _, fun j h => absurd h (by omega)⟩
    case round =>
      obtain ⟨k, hk, rfl, hb, hok⟩ := hrel
      have hsz0 := hb.size
      by_cases hlt : k < l.length
      · obtain ⟨b, off, rfl, hbl, hc⟩ := Hl.out.at_ hlt
        have hltm : k < m.length := HE.out ▸ hlt
        obtain ⟨b2, off2, rfl, hbl2, hc2⟩ := Hm.out.at_ hltm
        obtain ⟨V, cv, ⟨h0, h1⟩, ht, _⟩ := hc k hlt
        obtain ⟨V2, cv2, ⟨g0, g1⟩, ht2, _⟩ := hc2 k hltm
        clear hc hc2
        have h0 := (hb.cell (p := ⟨_, _, none⟩) hbl).trans h0
        have h1 := (hb.cell (p := ⟨_, _, none⟩) hbl).trans h1
        have g0 := (hb.cell (p := ⟨_, _, none⟩) hbl2).trans g0
        have g1 := (hb.cell (p := ⟨_, _, none⟩) hbl2).trans g1
        have ht := Lib.hid (ht.go hb)
        have ht2 := Lib.hid (ht2.go hb)
        have hbw : b < wr.heap.size := by omega
        have hbw2 : b2 < wr.heap.size := by omega
        have hne : l.getD k Sp.free0 ≠ m.getD k Sp.free0 → l ≠ m := fun h => Sp.ne_at h
        have HNE := Lib.hid hne
        have hnx : l.getD k Sp.free0 = m.getD k Sp.free0 → ∀ j, j < k + 1 → l.getD j Sp.free0 = m.getD j Sp.free0 := fun h j hj => by
          rcases Nat.lt_succ_iff_lt_or_eq.1 hj with h' | rfl
          · exact hok.out j h'
          · exact h
        have HNX := Lib.hid hnx
        clear hne hnx
        generalize l.getD k Sp.free0 = x at *
        generalize m.getD k Sp.free0 = y at *
        obtain ⟨tx, ids⟩ := x
        obtain ⟨ty, jds⟩ := y
        simp only at *
        by_cases htx : tx = ty
        · have e1 : (tx != ty) = false := by simp [htx]
          have HTX := Lib.hid htx
          clear htx
          rcases hij : decide (ids = jds) with _ | _
          · have C := Lib.hid (fun w h1 h2 => show Calls Try.prog 59 #[.slice V ids.length cv, .slice V2 jds.length cv2] w (fun e w' => e = .returned (.bool false) ∧ Below w.heap.size w w') from by have h := dSameInts ids jds V V2 cv cv2 (M := M) (N := N) w h1 h2; rw [hij] at h; exact h)
            have HIJ := Lib.hid hij
            clear hij
            go_wp2
            refine wp_region_after (by kernel_rfl) (by kernel_rfl) (wr.heap.size) ?_
            repeat (go_big_quiet_step ((go_at_call 59; exact after_call (Nat.le_refl _) (C.out _ (Ints.go ht.out (After.h _)) (Ints.go ht2.out (After.h _))))))
            refine wpQuiet_nil ?_
            intro w2 hb2
            go_wp2
            go_ret
            refine ⟨ret_bool ?_, by (repeat (first | (with_reducible exact Below.refl _ _) | (with_reducible assumption) | (refine below_step (by assumption) (by first | omega | (simp; done) | (simp; omega)) ?_) | (with_reducible refine Below.alloc ?_ (by first | omega | (simp; done) | (simp; omega)) _) | (with_reducible refine Below.drew ?_) | (with_reducible refine below_drewN ?_ _) | (with_reducible refine Below.setCell ?_ (by first | omega | (simp; done) | (simp; omega)) _)))⟩
            simpa using HNE.out (fun e => of_decide_eq_false HIJ.out (by injection e))
          · have C := Lib.hid (fun w h1 h2 => show Calls Try.prog 59 #[.slice V ids.length cv, .slice V2 jds.length cv2] w (fun e w' => e = .returned (.bool true) ∧ Below w.heap.size w w') from by have h := dSameInts ids jds V V2 cv cv2 (M := M) (N := N) w h1 h2; rw [hij] at h; exact h)
            have HIJ := Lib.hid hij
            clear hij
            go_wp2
            refine wp_region_after (by kernel_rfl) (by kernel_rfl) (wr.heap.size) ?_
            repeat (go_big_quiet_step ((go_at_call 59; exact after_call (Nat.le_refl _) (C.out _ (Ints.go ht.out (After.h _)) (Ints.go ht2.out (After.h _))))))
            refine wpQuiet_nil ?_
            intro w2 hb2
            go_wp2
            exact ⟨⟨k + 1, by omega, by go_num, by (repeat (first | (with_reducible exact Below.refl _ _) | (with_reducible assumption) | (refine below_step (by assumption) (by first | omega | (simp; done) | (simp; omega)) ?_) | (with_reducible refine Below.alloc ?_ (by first | omega | (simp; done) | (simp; omega)) _) | (with_reducible refine Below.drew ?_) | (with_reducible refine below_drewN ?_ _) | (with_reducible refine Below.setCell ?_ (by first | omega | (simp; done) | (simp; omega)) _))), HNX.out (by rw [HTX.out, of_decide_eq_true HIJ.out])⟩, by simp [intOf]; omega⟩
        · have e1 : (tx != ty) = true := by simp [htx]
          have HTX := Lib.hid htx
          clear htx
          go_wp2
          refine wp_region_after (by kernel_rfl) (by kernel_rfl) (wr.heap.size) ?_
          repeat (go_big_quiet_step (fail))
          refine wpQuiet_nil ?_
          intro w2 hb2
          go_wp2
          go_ret
          refine ⟨ret_bool ?_, by (repeat (first | (with_reducible exact Below.refl _ _) | (with_reducible assumption) | (refine below_step (by assumption) (by first | omega | (simp; done) | (simp; omega)) ?_) | (with_reducible refine Below.alloc ?_ (by first | omega | (simp; done) | (simp; omega)) _) | (with_reducible refine Below.drew ?_) | (with_reducible refine below_drewN ?_ _) | (with_reducible refine Below.setCell ?_ (by first | omega | (simp; done) | (simp; omega)) _)))⟩
          simpa using HNE.out (fun e => HTX.out (by injection e))
      · have hkl : k = l.length := by omega
        go_wp2
        go_ret
        refine ⟨ret_bool ?_, hb⟩
        have := Sp.eq_all HE.out (fun j hj => hok.out j (by omega))
        simp [this]
  · have he1 : ((l.length : Int) == (m.length : Int)) = false := by rw [beq_eq_false_iff_ne]; omega
    have he2 : ((l.length : Int) != (m.length : Int)) = true := by rw [bne_iff_ne]; omega
    have HE := Lib.hid he
    clear he
    go_enter Try.func60, Try.ntmps60
    go_wp2
    go_ret
    refine ⟨ret_bool ?_, Below.refl _ _⟩
    have hne : l ≠ m := fun e => HE.out (by rw [e])
    simp [hne]
end Go.Proofs.Ytienlhckcpfknaa
namespace Go.Proofs.Ytienlhckcpfknaa
open Go.RowKit
attribute [local go_sem low] mk_extract
attribute [local go_sem] After.cell After.frozen mk_extract_end ByteArray.mk_append_mk
set_option maxRecDepth 100000 in
set_option maxHeartbeats 400000 in
theorem mt_neq (m n : Sp.Mt) (W : World) : (binOp .neq 30 (.agg #[.int .u64 m.txn, .int .i64 m.main.page, .int .i64 m.main.count, .int .i64 m.main.flags, .int .i64 m.free, .int .i64 m.last]) (.agg #[.int .u64 n.txn, .int .i64 n.main.page, .int .i64 n.main.count, .int .i64 n.main.flags, .int .i64 n.free, .int .i64 n.last])).run Try.prog W = .ok (.bool (!decide (m = n))) W := by
  obtain ⟨a, ⟨b, c, d⟩, e, f⟩ := m
  obtain ⟨a', ⟨b', c', d'⟩, e', f'⟩ := n
  go_simp
  try simp only [Sp.Mt.mk.injEq, Sp.Root.mk.injEq]
  by_cases h1 : a = a' <;> by_cases h2 : b = b' <;> by_cases h3 : c = c' <;> by_cases h4 : d = d' <;> by_cases h5 : e = e' <;> by_cases h6 : f = f' <;> simp [h1, h2, h3, h4, h5, h6]
namespace Sp
def likeB (p q : Page) : Bool := decide (p.kind = q.kind) && decide (p.items.length = q.items.length) && decide (p.keys = q.keys) && decide (p.kids = q.kids) && decide (p.text = q.text) && decide (p.vals = q.vals) && decide (p.free = q.free) && decide (p.next = q.next) && decide (p.mt = q.mt)
theorem like_yes {p q : Page} (h : likeB p q = true) : p.items.length = q.items.length ∧ (p.items = q.items → samePage p q = true) := by
  simp only [likeB, Bool.and_eq_true, decide_eq_true_eq] at h
  obtain ⟨⟨⟨⟨⟨⟨⟨⟨h1, h2⟩, h3⟩, h4⟩, h5⟩, h6⟩, h7⟩, h8⟩, h9⟩ := h
  refine ⟨h2, fun hi => ?_⟩
  obtain ⟨a, b, c, d, e, f, g, h, i⟩ := p
  obtain ⟨a', b', c', d', e', f', g', h', i'⟩ := q
  simp only at h1 h2 h3 h4 h5 h6 h7 h8 h9 hi
  subst h1 hi h3 h4 h5 h6 h7 h8 h9
  simp [samePage]
theorem like_no {p q : Page} (h : likeB p q = false) : samePage p q = false := by
  rcases hs : samePage p q with _ | _
  · rfl
  · have e := of_decide_eq_true hs
    subst e
    simp [likeB] at h
theorem like_items {p q : Page} (h : p.items ≠ q.items) : samePage p q = false := decide_eq_false fun e => h (by rw [e])
end Sp
set_option maxRecDepth 100000 in
set_option maxHeartbeats 6400000 in
theorem dSame_any (p q : Sp.Page) (r s : Refs) {M N : Nat → Prop} (w : World) (hp : PageRd w M p r) (hq : PageRd w N q s) :
    Calls Try.prog 19 #[.agg (pageV p r).toArray, .agg (pageV q s).toArray] w fun e w' => e = .returned (.bool (Sp.samePage p q)) ∧ Below w.heap.size w w' := by
  have Hp := Lib.hid hp
  have Hq := Lib.hid hq
  clear hp hq
  have hmt := mt_neq p.mt q.mt
  have hsz : w.heap.size < w.heap.size + 1 + 1 := by omega
  have hsz1 : w.heap.size + 1 < w.heap.size + 1 + 1 := by omega
  have B1 := Lib.hid ((Blk.new w PageT (pageV p r).toArray).alloc (.cells (pageV q s).toArray PageT))
  have B2 := Lib.hid (blk_second w (.cells (pageV p r).toArray PageT) PageT (pageV q s).toArray)
  simp only [pageV] at *
  go_enter Try.func19, Try.ntmps19
  go_upto_region 1 with fail
  have hB0 : Below w.heap.size w ((w.alloc (.cells #[.int .i64 p.kind, .slice r.I p.items.length r.i, .slice r.K p.keys.length r.k, .slice r.D p.kids.length r.d, .string ⟨p.text.toArray⟩, .slice r.V p.vals.length r.v, .slice r.F p.free.length r.f, .int .i64 p.next, .int .u64 p.mt.txn, .int .i64 p.mt.main.page, .int .i64 p.mt.main.count, .int .i64 p.mt.main.flags, .int .i64 p.mt.free, .int .i64 p.mt.last] PageT)).alloc (.cells #[.int .i64 q.kind, .slice s.I q.items.length s.i, .slice s.K q.keys.length s.k, .slice s.D q.kids.length s.d, .string ⟨q.text.toArray⟩, .slice s.V q.vals.length s.v, .slice s.F q.free.length s.f, .int .i64 q.next, .int .u64 q.mt.txn, .int .i64 q.mt.main.page, .int .i64 q.mt.main.count, .int .i64 q.mt.main.flags, .int .i64 q.mt.free, .int .i64 q.mt.last] PageT)) := by go_grown
  obtain ⟨⟨a0, a1, a2, a3, a4, a5, a6, a7, a8, a9, a10, a11, a12, a13⟩, _⟩ := B1.out.at14
  obtain ⟨⟨b0, b1, b2, b3, b4, b5, b6, b7, b8, b9, b10, b11, b12, b13⟩, _⟩ := B2.out.at14
  have hsz : w.heap.size < ((w.alloc (.cells #[.int .i64 p.kind, .slice r.I p.items.length r.i, .slice r.K p.keys.length r.k, .slice r.D p.kids.length r.d, .string ⟨p.text.toArray⟩, .slice r.V p.vals.length r.v, .slice r.F p.free.length r.f, .int .i64 p.next, .int .u64 p.mt.txn, .int .i64 p.mt.main.page, .int .i64 p.mt.main.count, .int .i64 p.mt.main.flags, .int .i64 p.mt.free, .int .i64 p.mt.last] PageT)).alloc (.cells #[.int .i64 q.kind, .slice s.I q.items.length s.i, .slice s.K q.keys.length s.k, .slice s.D q.kids.length s.d, .string ⟨q.text.toArray⟩, .slice s.V q.vals.length s.v, .slice s.F q.free.length s.f, .int .i64 q.next, .int .u64 q.mt.txn, .int .i64 q.mt.main.page, .int .i64 q.mt.main.count, .int .i64 q.mt.main.flags, .int .i64 q.mt.free, .int .i64 q.mt.last] PageT)).heap.size := by simp; omega
  have hsz1 : w.heap.size + 1 < ((w.alloc (.cells #[.int .i64 p.kind, .slice r.I p.items.length r.i, .slice r.K p.keys.length r.k, .slice r.D p.kids.length r.d, .string ⟨p.text.toArray⟩, .slice r.V p.vals.length r.v, .slice r.F p.free.length r.f, .int .i64 p.next, .int .u64 p.mt.txn, .int .i64 p.mt.main.page, .int .i64 p.mt.main.count, .int .i64 p.mt.main.flags, .int .i64 p.mt.free, .int .i64 p.mt.last] PageT)).alloc (.cells #[.int .i64 q.kind, .slice s.I q.items.length s.i, .slice s.K q.keys.length s.k, .slice s.D q.kids.length s.d, .string ⟨q.text.toArray⟩, .slice s.V q.vals.length s.v, .slice s.F q.free.length s.f, .int .i64 q.next, .int .u64 q.mt.txn, .int .i64 q.mt.main.page, .int .i64 q.mt.main.count, .int .i64 q.mt.main.flags, .int .i64 q.mt.free, .int .i64 q.mt.last] PageT)).heap.size := by simp
  generalize (w.alloc (.cells #[.int .i64 p.kind, .slice r.I p.items.length r.i, .slice r.K p.keys.length r.k, .slice r.D p.kids.length r.d, .string ⟨p.text.toArray⟩, .slice r.V p.vals.length r.v, .slice r.F p.free.length r.f, .int .i64 p.next, .int .u64 p.mt.txn, .int .i64 p.mt.main.page, .int .i64 p.mt.main.count, .int .i64 p.mt.main.flags, .int .i64 p.mt.free, .int .i64 p.mt.last] PageT)).alloc (.cells #[.int .i64 q.kind, .slice s.I q.items.length s.i, .slice s.K q.keys.length s.k, .slice s.D q.kids.length s.d, .string ⟨q.text.toArray⟩, .slice s.V q.vals.length s.v, .slice s.F q.free.length s.f, .int .i64 q.next, .int .u64 q.mt.txn, .int .i64 q.mt.main.page, .int .i64 q.mt.main.count, .int .i64 q.mt.main.flags, .int .i64 q.mt.free, .int .i64 q.mt.last] PageT) = W0 at *
  go_wp2_with (first
    | (go_at_call 59; refine (dSameInts p.kids q.kids r.D s.D r.d s.d _ (Hp.out.kids.go (by (repeat (first | (with_reducible exact Below.refl _ _) | (with_reducible assumption) | (refine below_step (by assumption) (by first | omega | (simp; done) | (simp; omega)) ?_) | (with_reducible refine Below.alloc ?_ (by first | omega | (simp; done) | (simp; omega)) _) | (with_reducible refine Below.drew ?_) | (with_reducible refine below_drewN ?_ _) | (with_reducible refine Below.setCell ?_ (by first | omega | (simp; done) | (simp; omega)) _))))) (Hq.out.kids.go (by (repeat (first | (with_reducible exact Below.refl _ _) | (with_reducible assumption) | (refine below_step (by assumption) (by first | omega | (simp; done) | (simp; omega)) ?_) | (with_reducible refine Below.alloc ?_ (by first | omega | (simp; done) | (simp; omega)) _) | (with_reducible refine Below.drew ?_) | (with_reducible refine below_drewN ?_ _) | (with_reducible refine Below.setCell ?_ (by first | omega | (simp; done) | (simp; omega)) _)))))).mono ?_; (rintro e w2 ⟨rfl, hb2⟩; have hz := hb2.size; have hsz : w.heap.size < w2.heap.size := Nat.lt_of_lt_of_le (by first | exact hsz | omega | (simp; done) | (simp; omega)) hz; have hsz1 : w.heap.size + 1 < w2.heap.size := Nat.lt_of_lt_of_le (by first | exact hsz1 | omega | (simp; done) | (simp; omega)) hz; obtain ⟨hc2, hf2⟩ := bcell hb2))
    | (go_at_call 60; refine (dSameFrees p.free q.free r.F s.F r.f s.f _ (Hp.out.free.go (by (repeat (first | (with_reducible exact Below.refl _ _) | (with_reducible assumption) | (refine below_step (by assumption) (by first | omega | (simp; done) | (simp; omega)) ?_) | (with_reducible refine Below.alloc ?_ (by first | omega | (simp; done) | (simp; omega)) _) | (with_reducible refine Below.drew ?_) | (with_reducible refine below_drewN ?_ _) | (with_reducible refine Below.setCell ?_ (by first | omega | (simp; done) | (simp; omega)) _))))) (Hq.out.free.go (by (repeat (first | (with_reducible exact Below.refl _ _) | (with_reducible assumption) | (refine below_step (by assumption) (by first | omega | (simp; done) | (simp; omega)) ?_) | (with_reducible refine Below.alloc ?_ (by first | omega | (simp; done) | (simp; omega)) _) | (with_reducible refine Below.drew ?_) | (with_reducible refine below_drewN ?_ _) | (with_reducible refine Below.setCell ?_ (by first | omega | (simp; done) | (simp; omega)) _)))))).mono ?_; (rintro e w2 ⟨rfl, hb2⟩; have hz := hb2.size; have hsz : w.heap.size < w2.heap.size := Nat.lt_of_lt_of_le (by first | exact hsz | omega | (simp; done) | (simp; omega)) hz; have hsz1 : w.heap.size + 1 < w2.heap.size := Nat.lt_of_lt_of_le (by first | exact hsz1 | omega | (simp; done) | (simp; omega)) hz; obtain ⟨hc2, hf2⟩ := bcell hb2))
    | (go_at_call_of 58 (Value.slice r.K p.keys.length r.k); refine (dSameTexts p.keys q.keys r.K s.K r.k s.k _ (Hp.out.keys.go (by (repeat (first | (with_reducible exact Below.refl _ _) | (with_reducible assumption) | (refine below_step (by assumption) (by first | omega | (simp; done) | (simp; omega)) ?_) | (with_reducible refine Below.alloc ?_ (by first | omega | (simp; done) | (simp; omega)) _) | (with_reducible refine Below.drew ?_) | (with_reducible refine below_drewN ?_ _) | (with_reducible refine Below.setCell ?_ (by first | omega | (simp; done) | (simp; omega)) _))))) (Hq.out.keys.go (by (repeat (first | (with_reducible exact Below.refl _ _) | (with_reducible assumption) | (refine below_step (by assumption) (by first | omega | (simp; done) | (simp; omega)) ?_) | (with_reducible refine Below.alloc ?_ (by first | omega | (simp; done) | (simp; omega)) _) | (with_reducible refine Below.drew ?_) | (with_reducible refine below_drewN ?_ _) | (with_reducible refine Below.setCell ?_ (by first | omega | (simp; done) | (simp; omega)) _)))))).mono ?_; (rintro e w2 ⟨rfl, hb2⟩; have hz := hb2.size; have hsz : w.heap.size < w2.heap.size := Nat.lt_of_lt_of_le (by first | exact hsz | omega | (simp; done) | (simp; omega)) hz; have hsz1 : w.heap.size + 1 < w2.heap.size := Nat.lt_of_lt_of_le (by first | exact hsz1 | omega | (simp; done) | (simp; omega)) hz; obtain ⟨hc2, hf2⟩ := bcell hb2))
    | (go_at_call_of 58 (Value.slice r.V p.vals.length r.v); refine (dSameTexts p.vals q.vals r.V s.V r.v s.v _ (Hp.out.vals.go (by (repeat (first | (with_reducible exact Below.refl _ _) | (with_reducible assumption) | (refine below_step (by assumption) (by first | omega | (simp; done) | (simp; omega)) ?_) | (with_reducible refine Below.alloc ?_ (by first | omega | (simp; done) | (simp; omega)) _) | (with_reducible refine Below.drew ?_) | (with_reducible refine below_drewN ?_ _) | (with_reducible refine Below.setCell ?_ (by first | omega | (simp; done) | (simp; omega)) _))))) (Hq.out.vals.go (by (repeat (first | (with_reducible exact Below.refl _ _) | (with_reducible assumption) | (refine below_step (by assumption) (by first | omega | (simp; done) | (simp; omega)) ?_) | (with_reducible refine Below.alloc ?_ (by first | omega | (simp; done) | (simp; omega)) _) | (with_reducible refine Below.drew ?_) | (with_reducible refine below_drewN ?_ _) | (with_reducible refine Below.setCell ?_ (by first | omega | (simp; done) | (simp; omega)) _)))))).mono ?_; (rintro e w2 ⟨rfl, hb2⟩; have hz := hb2.size; have hsz : w.heap.size < w2.heap.size := Nat.lt_of_lt_of_le (by first | exact hsz | omega | (simp; done) | (simp; omega)) hz; have hsz1 : w.heap.size + 1 < w2.heap.size := Nat.lt_of_lt_of_le (by first | exact hsz1 | omega | (simp; done) | (simp; omega)) hz; obtain ⟨hc2, hf2⟩ := bcell hb2)))
  all_goals first
    | (go_ret
       refine ⟨ret_bool ?_, by (repeat (first | (with_reducible exact Below.refl _ _) | (with_reducible assumption) | (refine below_step (by assumption) (by first | omega | (simp; done) | (simp; omega)) ?_) | (with_reducible refine Below.alloc ?_ (by first | omega | (simp; done) | (simp; omega)) _) | (with_reducible refine Below.drew ?_) | (with_reducible refine below_drewN ?_ _) | (with_reducible refine Below.setCell ?_ (by first | omega | (simp; done) | (simp; omega)) _)))⟩
       refine (Sp.like_no ?_).symm
       unfold Sp.likeB
       clear Hp Hq hmt B1 B2
       go_light
       grind)
    | (have hlk : Sp.likeB p q = true := by
         unfold Sp.likeB
         clear Hp Hq hmt B1 B2
         go_light
         grind
       have hb : Below (w.heap.size + 1 + 1) W0 w2 := by (repeat (first | (with_reducible exact Below.refl _ _) | (with_reducible assumption) | (refine below_step (by assumption) (by first | omega | (simp; done) | (simp; omega)) ?_) | (with_reducible refine Below.alloc ?_ (by first | omega | (simp; done) | (simp; omega)) _) | (with_reducible refine Below.drew ?_) | (with_reducible refine below_drewN ?_ _) | (with_reducible refine Below.setCell ?_ (by first | omega | (simp; done) | (simp; omega)) _)))
       have hB : Below w.heap.size w w2 := by (repeat (first | (with_reducible exact Below.refl _ _) | (with_reducible assumption) | (refine below_step (by assumption) (by first | omega | (simp; done) | (simp; omega)) ?_) | (with_reducible refine Below.alloc ?_ (by first | omega | (simp; done) | (simp; omega)) _) | (with_reducible refine Below.drew ?_) | (with_reducible refine below_drewN ?_ _) | (with_reducible refine Below.setCell ?_ (by first | omega | (simp; done) | (simp; omega)) _)))
       have B1 := B1.out.below hb (by omega)
       have B2 := B2.out.below hb (by omega)
       have hzb := hb.size
       clear hmt a0 a1 a2 a3 a4 a5 a6 a7 a8 a9 a10 a11 a12 a13 b0 b1 b2 b3 b4 b5 b6 b7 b8 b9 b10 b11 b12 b13
       have c1 : w2.cell? ⟨w.heap.size, 1, none⟩ = some (.slice r.I p.items.length r.i) := B1.cell 1
       have d1 : w2.cell? ⟨w.heap.size + 1, 1, none⟩ = some (.slice s.I q.items.length s.i) := B2.cell 1
       have hsz1 : w.heap.size + 1 < w2.heap.size := by omega
       have hsz : w.heap.size < w2.heap.size := by omega
       clear hb hzb B1 B2
       obtain ⟨w1, rfl⟩ : ∃ W, W = w2 := ⟨_, rfl⟩
       obtain ⟨hle, hyes⟩ := Sp.like_yes hlk
       have HYES := Lib.hid hyes
       have HNO := Lib.hid (Sp.like_items (p := p) (q := q))
       have HLE := Lib.hid hle
       have hpi := Hp.out.items.go hB
       have hqi := Hq.out.items.go hB
       have hpl := hpi.len
       have HPI := Lib.hid hpi
       have HQI := Lib.hid hqi
       clear hyes hle hlk Hp Hq hpi hqi
       generalize p.items = l at *
       generalize q.items = m at *
       go_wp2_with fail
       go_loopw [5] (fun i wr => ∃ k : Nat, k ≤ l.length ∧ i = .int .i64 k ∧ Below w1.heap.size w1 wr ∧ Hid (∀ j, j < k → l.getD j Sp.item0 = m.getD j Sp.item0)) (fun i _ => l.length - (intOf i).toNat)
       case atStart => exact ⟨0, Nat.zero_le _, rfl, Below.refl _ _, fun j h => absurd h (by omega)⟩
       case round =>
         obtain ⟨k, hk, rfl, hb, hok⟩ := hrel
         have hszr := hb.size
         have hszw : w.heap.size < wr.heap.size := by omega
         have hszw1 : w.heap.size + 1 < wr.heap.size := by omega
         have c1 := (hb.cell (p := ⟨w.heap.size, 1, none⟩) hsz).trans c1
         have d1 := (hb.cell (p := ⟨w.heap.size + 1, 1, none⟩) hsz1).trans d1
         by_cases hlt : k < l.length
         · obtain ⟨b, off, hA, hbl, hc⟩ := HPI.out.at_ hlt
           have hltm : k < m.length := by have := HLE.out; omega
           obtain ⟨b2, off2, hA2, hbl2, hc2⟩ := HQI.out.at_ hltm
           rw [hA] at c1
           rw [hA2] at d1
           obtain ⟨V, cv, hi, ht⟩ := hc k hlt
           obtain ⟨V2, cv2, hi2, ht2⟩ := hc2 k hltm
           clear hc hc2 hA hA2
           have hi := hi.keep (w' := wr) fun j => hb.cell (p := ⟨_, _, none⟩) hbl
           have hi2 := hi2.keep (w' := wr) fun j => hb.cell (p := ⟨_, _, none⟩) hbl2
           have ht := Lib.hid (ht.go hb)
           have ht2 := Lib.hid (ht2.go hb)
           obtain ⟨h0, h1, h2, h3, h4, h5, h6, h7, h8, h9⟩ := hi
           obtain ⟨g0, g1, g2, g3, g4, g5, g6, g7, g8, g9⟩ := hi2
           have hbw : b < wr.heap.size := by omega
           have hbw2 : b2 < wr.heap.size := by omega
           have hne : l.getD k Sp.item0 ≠ m.getD k Sp.item0 → l ≠ m := fun h => Sp.ne_at h
           have HNE := Lib.hid hne
           have hnx : l.getD k Sp.item0 = m.getD k Sp.item0 → ∀ j, j < k + 1 → l.getD j Sp.item0 = m.getD j Sp.item0 := fun h j hj => by
             rcases Nat.lt_succ_iff_lt_or_eq.1 hj with h' | rfl
             · exact hok.out j h'
             · exact h
           have HNX := Lib.hid hnx
           clear hne hnx
           generalize l.getD k Sp.item0 = x at *
           generalize m.getD k Sp.item0 = y at *
           have C := Lib.hid (fun w => dSameItem x y V V2 cv cv2 (M := M) (N := N) w)
           cases hxy : Sp.sameItem x y
           · rw [hxy] at C
             have HXY := Lib.hid hxy
             clear hxy
             go_wp2
             refine wp_region_after (by kernel_rfl) (by kernel_rfl) (wr.heap.size) ?_
             repeat (go_big_quiet_step ((go_at_call 61; exact after_call (Nat.le_refl _) (C.out _ (Txts.go ht.out (After.h _)) (Txts.go ht2.out (After.h _))))))
             refine wpQuiet_nil ?_
             intro w2 hb2
             go_wp2
             go_ret
             exact ⟨ret_bool (HNO.out (HNE.out (of_decide_eq_false HXY.out))).symm, by (repeat (first | (with_reducible exact Below.refl _ _) | (with_reducible assumption) | (refine below_step (by assumption) (by first | omega | (simp; done) | (simp; omega)) ?_) | (with_reducible refine Below.alloc ?_ (by first | omega | (simp; done) | (simp; omega)) _) | (with_reducible refine Below.drew ?_) | (with_reducible refine below_drewN ?_ _) | (with_reducible refine Below.setCell ?_ (by first | omega | (simp; done) | (simp; omega)) _)))⟩
           · rw [hxy] at C
             have HXY := Lib.hid hxy
             clear hxy
             go_wp2
             refine wp_region_after (by kernel_rfl) (by kernel_rfl) (wr.heap.size) ?_
             repeat (go_big_quiet_step ((go_at_call 61; exact after_call (Nat.le_refl _) (C.out _ (Txts.go ht.out (After.h _)) (Txts.go ht2.out (After.h _))))))
             refine wpQuiet_nil ?_
             intro w2 hb2
             go_wp2
             exact ⟨⟨k + 1, by omega, by go_num, by (repeat (first | (with_reducible exact Below.refl _ _) | (with_reducible assumption) | (refine below_step (by assumption) (by first | omega | (simp; done) | (simp; omega)) ?_) | (with_reducible refine Below.alloc ?_ (by first | omega | (simp; done) | (simp; omega)) _) | (with_reducible refine Below.drew ?_) | (with_reducible refine below_drewN ?_ _) | (with_reducible refine Below.setCell ?_ (by first | omega | (simp; done) | (simp; omega)) _))), HNX.out (of_decide_eq_true HXY.out)⟩, by simp [intOf]; omega⟩
         · have hkl : k = l.length := by omega
           go_wp2
           go_ret
           exact ⟨ret_bool (HYES.out (Sp.eq_all HLE.out fun j hj => hok.out j (by omega))).symm, by (repeat (first | (with_reducible exact Below.refl _ _) | (with_reducible assumption) | (refine below_step (by assumption) (by first | omega | (simp; done) | (simp; omega)) ?_) | (with_reducible refine Below.alloc ?_ (by first | omega | (simp; done) | (simp; omega)) _) | (with_reducible refine Below.drew ?_) | (with_reducible refine below_drewN ?_ _) | (with_reducible refine Below.setCell ?_ (by first | omega | (simp; done) | (simp; omega)) _)))⟩)
end Go.Proofs.Ytienlhckcpfknaa
namespace Go.Proofs.Ytienlhckcpfknaa
open Go.RowKit Go.WideShapes Go.ChangeShapes Go.Deep
/-- A slice that reads as a list of bools. -/
def Bools (w : World) (A : Option Addr) (l : List Bool) : Prop :=
  l.length ≤ 9223372036854775807 ∧ (l = [] ∨ ∃ b off, A = some ⟨b, off, none⟩ ∧ b < w.heap.size ∧ ∀ j, j < l.length → w.cell? ⟨b, off + j, none⟩ = some (.bool (l.getD j false)))
theorem Bools.go {w w' : World} {A : Option Addr} {l : List Bool} (h : Bools w A l) (hb : Below w.heap.size w w') : Bools w' A l := by
  refine ⟨h.1, ?_⟩
  rcases h.2 with h | ⟨b, off, e, hl, hc⟩
  · exact .inl h
  · exact .inr ⟨b, off, e, Nat.lt_of_lt_of_le hl hb.size, fun j hj => (hb.cell (p := ⟨b, off + j, none⟩) hl).trans (hc j hj)⟩
section
variable {H : Type} {enc : TypeId × Value → H} {w : World} {base : Nat} {spare : Nat → Bool} {held : Bool}
set_option maxRecDepth 100000 in
theorem open_meta {r : Reach} {b0 : Nat} {v : Value} {d : DataW H} {ps : List MemPlace} (hv : Value.okWide Try.prog w r b0 30 v) (h : DataW.Trod enc Try.prog w base spare held 30 v d ps) :
    ∃ m : Sp.Mt, v = .agg (mtV m).toArray ∧ 0 ≤ m.txn ∧ m.txn < 18446744073709551616 := by
  obtain ⟨cs, rfl, hsz⟩ := okWide_struct Try.underlying30 hv
  obtain ⟨fuel, hf⟩ := h
  obtain ⟨l⟩ := cs
  simp only [Value.cells] at hf
  obtain ⟨m, hm, hr⟩ := tr_meta hf
  exact ⟨m, by rw [hm], hr⟩
set_option maxRecDepth 100000 in
theorem open_txt {r : Reach} {b0 : Nat} {v : Value} {d : DataW H} {ps : List MemPlace} (hv : Value.okWide Try.prog w r b0 9 v) (h : DataW.Trod enc Try.prog w base spare held 9 v d ps) :
    ∃ s : Txt, v = .string ⟨s.toArray⟩ ∧ s.length ≤ 9223372036854775807 := by
  obtain ⟨s, rfl⟩ := okWide_string Try.underlying9 hv
  obtain ⟨fuel, hf⟩ := h
  simp only [Value.cells] at hf
  obtain ⟨s', hs, hl⟩ := tr_str hf
  exact ⟨s', hs, hl⟩
set_option maxRecDepth 100000 in
theorem open_bls {r : Reach} {b0 : Nat} {v : Value} {d : DataW H} {ps : List MemPlace} (hv : Value.okWide Try.prog w r b0 67 v) (h : DataW.Trod enc Try.prog w base (fun _ => true) held 67 v d ps) :
    ∃ (l : List Bool) (A : Option Addr) (c : Nat), v = .slice A l.length c ∧ Bools w A l := by
  obtain ⟨a, n, c, rfl⟩ := okWide_slice Try.underlying67 hv
  obtain ⟨fuel, hf⟩ := h
  rcases open_bools Try.underlying67 Try.underlying4 (by kernel_rfl) hf with ⟨hc, _⟩ | ⟨a', len, cap, B, hc, _, hl, hm, _, hcell⟩
  · simp only [Value.cells, List.cons.injEq, and_true] at hc
    exact ⟨[], none, 0, hc, by simp, .inl rfl⟩
  · simp only [Value.cells, List.cons.injEq, and_true] at hc
    unfold maxLen at hm
    refine ⟨(List.range len).map B, some a', cap, by rw [hc]; simp, by simp; omega, ?_⟩
    rcases Nat.eq_zero_or_pos len with h0 | h0
    · left; rw [h0]; rfl
    · right
      obtain ⟨b, off, rfl, hbl⟩ := addr_of (hcell 0 (by omega))
      refine ⟨b, off, rfl, hbl, fun j hj => ?_⟩
      rw [List.length_map, List.length_range] at hj
      have := hcell j (by omega)
      rw [Go.WideShapes.add_plain] at this
      rw [this, List.getD_eq_getElem?_getD, List.getElem?_map, List.getElem?_range hj]
      rfl
end
end Go.Proofs.Ytienlhckcpfknaa
namespace Go.Proofs.Ytienlhckcpfknaa
open Go.RowKit Go.WideShapes Go.ChangeShapes Go.Deep
section
variable {H : Type} {enc : TypeId × Value → H} {w : World} {base : Nat} {spare : Nat → Bool} {held : Bool}
set_option maxRecDepth 100000 in
theorem open_txts {r : Reach} {b0 : Nat} {v : Value} {d : DataW H} {ps : List MemPlace} (hv : Value.okWide Try.prog w r b0 9 v) (h : DataW.Trod enc Try.prog w base spare held 9 v d ps)
    (hwt : ∀ n ∈ d.weights Try.prog 9, n ≤ reachBytes) : ∃ s : Txt, v = .string ⟨s.toArray⟩ ∧ s.length ≤ 140737488355328 := by
  obtain ⟨s, rfl⟩ := okWide_string Try.underlying9 hv
  obtain ⟨fuel, hf⟩ := h
  simp only [Value.cells] at hf
  obtain ⟨s', hs, hx, _⟩ := DataW.trod_string Try.underlying9 hf
  simp only [List.cons.injEq, and_true] at hs
  have hd : d = .lit (.string s'.data.toList) := congrArg Prod.fst hx
  subst hd
  have := hwt s'.data.toList.length (by simp [DataW.weights])
  refine ⟨s'.data.toList, hs, ?_⟩
  unfold reachBytes at this
  omega
end
end Go.Proofs.Ytienlhckcpfknaa
