/- The document's cuts: what their methods do. PageBack: what is written is read; one byte changed, one less, one more, and it is corrupt: the walk. More words for a walk: bytes made a text; what an append leaves of other blocks. Metas: a new file's, its place, its bytes. Channels within one goroutine, in the walk's own form: a region that sends, or selects one receive with a default. -/
import Derived.Test.YtienlhckcpfknaaQB08
import Derived.RegionTactic
import Derived.BigRegion
import Derived.Conc.LoneCalls
import Derived.Conc.LoneSelectN
set_option linter.unusedSimpArgs false
set_option linter.unusedVariables false
namespace Go.Proofs.Ytienlhckcpfknaa
open Go.RowKit
attribute [local go_sem low] mk_extract
attribute [local go_sem] After.cell After.frozen mk_extract_end ByteArray.mk_append_mk
/-- A cut of the document's in memory. -/
def DCut (w : World) (g : Nat) (s : Txt) (bad : Bool) : Prop := Blk w g 80 #[.string ⟨s.toArray⟩, .bool bad]
namespace Sp
/-- A number at the front, at most so much; else it is bad. -/
def Cut.int (most : Int) (c : Cut) : Int × Cut := if most < c.u64.1 then (0, ⟨c.u64.2.s, true⟩) else c.u64
theorem Cut.int_rng (most : Int) (hm : 0 ≤ most) (c : Cut) : 0 ≤ (Cut.int most c).1 ∧ (Cut.int most c).1 ≤ most := by
  unfold Cut.int
  have := c.u64_rng
  split
  · exact ⟨Int.le_refl _, hm⟩
  · omega
theorem Cut.int_len (most : Int) (c : Cut) : (Cut.int most c).2.s.length ≤ c.s.length := by
  unfold Cut.int
  have := c.u64_len
  split <;> exact this
end Sp
theorem or_len (x y : UInt8) : bits .or .i64 (wrap64 (x.toNat : Int)) (wrap64 (wrap64 (y.toNat : Int) * 256)) = Sp.Cut.lenOf [x, y] := by
  have hx := x.toNat_lt
  have hy := y.toNat_lt
  have e1 : wrap64 (x.toNat : Int) = ((x.toNat : Nat) : Int) := by simp [wrap64, IntKind.wrap_i64]; omega
  have e2 : wrap64 (wrap64 (y.toNat : Int) * 256) = ((2 ^ 8 * y.toNat : Nat) : Int) := by simp [wrap64, IntKind.wrap_i64]; omega
  rw [e1, e2]
  show IntKind.i64.wrap ((BitVec.ofInt 64 ((x.toNat : Nat) : Int) ||| BitVec.ofInt 64 ((2 ^ 8 * y.toNat : Nat) : Int)).toNat : Int) = _
  rw [BitVec.toNat_or, ofInt_u64 _ (by omega), ofInt_u64 _ (by omega), Nat.or_comm, ← Nat.two_pow_add_eq_or_of_lt (by omega : x.toNat < 2 ^ 8)]
  simp only [Sp.Cut.lenOf, List.getD_cons_zero, List.getD_cons_succ, IntKind.wrap_i64]
  omega
theorem str_at (s : Txt) (j : Nat) (hj : j < s.length) (W : World) : (Instr.index 9 (.string ⟨s.toArray⟩) (.int .i64 (j : Int))).run Try.prog W = .ok (.int .u8 (s[j].toNat : Int)) W := by
  rw [run_index_string W 9 _ .i64 (j : Int) Try.underlying9]
  have hz : (ByteArray.mk s.toArray).size = s.length := by show s.toArray.size = _; exact List.size_toArray
  rw [dif_pos ⟨Int.natCast_nonneg _, by rw [hz]; omega⟩]
  rfl
set_option maxRecDepth 100000 in
set_option maxHeartbeats 400000 in
theorem dTake_any (n : Int) (hn : 0 ≤ n) (hn2 : n ≤ 4611686018427387904) (g : Nat) (s : Txt) (bad : Bool) (w : World) (hs : s.length ≤ 4611686018427387904) (hc : DCut w g s bad) :
    Calls Try.prog 85 #[.pointer (some ⟨g, 0, none⟩), .int .i64 n] w fun e w' => e = .returned (.string ⟨(Sp.Cut.take ⟨s, bad⟩ n.toNat).toArray⟩) ∧
      DCut w' g (Sp.Cut.rest ⟨s, bad⟩ n.toNat).s (Sp.Cut.rest ⟨s, bad⟩ n.toNat).bad ∧ Chg (OneM g) w w' := by
  have h0 := hc.cell 0
  have h1 := hc.cell 1
  have f0 := hc.frozen 0
  have f1 := hc.frozen 1
  simp at h0 h1
  have Hc := Lib.hid hc
  clear hc
  cases bad
  · by_cases hl : (s.length : Int) < n
    · go_enter Try.func85, Try.ntmps85
      go_wp2
      go_ret
      have hn' : s.length < n.toNat := by omega
      refine ⟨?_, ?_, Chg.set1 _ _ _ _⟩
      · simp [Sp.Cut.take, hn']
      · simpa [Sp.Cut.rest, hn', DCut] using Hc.out.set_ 1 (.bool true)
    · go_enter Try.func85, Try.ntmps85
      go_wp2
      go_ret
      have hn' : ¬ s.length < n.toNat := by omega
      refine ⟨?_, ?_, Chg.set1 _ _ _ _⟩
      · simp [Sp.Cut.take, hn']
      · simpa [Sp.Cut.rest, hn', DCut] using Hc.out.set_ 0 (.string ⟨(s.drop n.toNat).toArray⟩)
  · go_enter Try.func85, Try.ntmps85
    go_wp2
    go_ret
    refine ⟨?_, ?_, Chg.set1 _ _ _ _⟩
    · simp [Sp.Cut.take]
    · simpa [Sp.Cut.rest, DCut] using Hc.out.set_ 1 (.bool true)
set_option maxRecDepth 100000 in
set_option maxHeartbeats 400000 in
theorem dCutNum_any (g : Nat) (s : Txt) (bad : Bool) (w : World) (hs : s.length ≤ 4611686018427387904) (hc : DCut w g s bad) :
    Calls Try.prog 37 #[.pointer (some ⟨g, 0, none⟩)] w fun e w' => e = .returned (.int .u64 (Sp.unle (Sp.Cut.take ⟨s, bad⟩ 8))) ∧
      DCut w' g (Sp.Cut.rest ⟨s, bad⟩ 8).s (Sp.Cut.rest ⟨s, bad⟩ 8).bad ∧ Chg (OneM g) w w' := by
  have Hc := Lib.hid hc
  clear hc
  have hl8 : (Sp.Cut.take ⟨s, bad⟩ 8).length ≤ 8 := by
    unfold Sp.Cut.take
    split
    · simp
    · simp; omega
  go_enter Try.func37, Try.ntmps37
  go_wp2_with fail
  refine (dTake_any 8 (by omega) (by omega) g s bad w hs Hc.out).mono ?_
  rintro e w1 ⟨rfl, hc1, hk1⟩
  have Hc1 := Lib.hid hc1
  clear hc1
  simp only [show Int.toNat 8 = 8 from rfl] at *
  generalize hb : Sp.Cut.take ⟨s, bad⟩ 8 = b at *
  have HB := Lib.hid hb
  clear hb
  have hl8' : (b.length : Int) ≤ 8 := by omega
  go_wp2
  go_loop [4, 5] (fun n i => ∃ k : Nat, k ≤ b.length ∧ i = .int .i64 ((k : Int) - 1) ∧ n = .int .u64 (Sp.unle (b.drop k))) (fun _ i => (intOf i + 1).toNat)
  case atStart => exact ⟨b.length, Nat.le_refl _, rfl, by simp [Sp.unle]⟩
  case round =>
    obtain ⟨k, hk, rfl, rfl⟩ := hrel
    by_cases hlt : 0 < k
    · obtain ⟨j, rfl⟩ : ∃ j, k = j + 1 := ⟨k - 1, by omega⟩
      have hr := Sp.unle_lt7 (b.drop (j + 1)) (by simp; omega)
      have HD := Lib.hid (Sp.unle_drop b j (by omega))
      have e1 : ((j + 1 : Nat) : Int) - 1 = (j : Int) := by omega
      rw [e1]
      clear e1
      have HO := Lib.hid (Sp.or_byte (Sp.unle (b.drop (j + 1))) b[j] hr.1 hr.2)
      generalize Sp.unle (b.drop (j + 1)) = m at *
      go_wp2
      refine ⟨⟨j, by omega, by go_num, ?_⟩, by simp [intOf]⟩
      rw [HD.out, ← HO.out]
      rfl
    · have hk0 : k = 0 := by omega
      subst hk0
      go_wp2
      go_ret
      rw [HB.out]
      exact ⟨rfl, Hc1.out, hk1⟩
set_option maxRecDepth 100000 in
set_option maxHeartbeats 400000 in
theorem dInt_any (most : Int) (hm : 0 ≤ most) (hm2 : most ≤ 1073741824) (g : Nat) (s : Txt) (bad : Bool) (w : World) (hs : s.length ≤ 4611686018427387904) (hc : DCut w g s bad) :
    Calls Try.prog 86 #[.pointer (some ⟨g, 0, none⟩), .int .i64 most] w fun e w' => e = .returned (.int .i64 (Sp.Cut.int most ⟨s, bad⟩).1) ∧
      DCut w' g (Sp.Cut.int most ⟨s, bad⟩).2.s (Sp.Cut.int most ⟨s, bad⟩).2.bad ∧ Chg (OneM g) w w' := by
  have Hc := Lib.hid hc
  clear hc
  have hr := Sp.Cut.u64_rng ⟨s, bad⟩
  have HN := Lib.hid (show Calls Try.prog 37 #[.pointer (some ⟨g, 0, none⟩)] w (fun e w' => e = .returned (.int .u64 (Sp.Cut.u64 ⟨s, bad⟩).1) ∧ DCut w' g (Sp.Cut.u64 ⟨s, bad⟩).2.s (Sp.Cut.u64 ⟨s, bad⟩).2.bad ∧ Chg (OneM g) w w') from dCutNum_any g s bad w hs Hc.out)
  unfold Sp.Cut.int
  generalize Sp.Cut.u64 ⟨s, bad⟩ = ud at *
  obtain ⟨u, d⟩ := ud
  simp only at *
  obtain ⟨hr0, hr1⟩ := hr
  by_cases hlt : most < u
  · rw [if_pos hlt]
    go_enter Try.func86, Try.ntmps86
    go_wp2_with (go_at_call 37; refine HN.out.mono ?_; rintro e w1 ⟨rfl, hc1, hk1⟩; have h1 := hc1.cell 1; have f1 := hc1.frozen 1; simp at h1; have Hc1 := Lib.hid hc1; clear hc1)
    go_ret
    refine ⟨rfl, ?_, hk1.trans (Chg.set1 _ _ _ _)⟩
    simpa [DCut] using Hc1.out.set_ 1 (.bool true)
  · rw [if_neg hlt]
    go_enter Try.func86, Try.ntmps86
    go_wp2_with (go_at_call 37; refine HN.out.mono ?_; rintro e w1 ⟨rfl, hc1, hk1⟩; have Hc1 := Lib.hid hc1; clear hc1)
    go_ret
    exact ⟨rfl, Hc1.out, hk1⟩
set_option maxRecDepth 100000 in
set_option maxHeartbeats 400000 in
theorem dCutText_any (g : Nat) (s : Txt) (bad : Bool) (w : World) (hs : s.length ≤ 4611686018427387904) (hc : DCut w g s bad) :
    Calls Try.prog 88 #[.pointer (some ⟨g, 0, none⟩)] w fun e w' => e = .returned (.string ⟨(Sp.Cut.text ⟨s, bad⟩).1.toArray⟩) ∧
      DCut w' g (Sp.Cut.text ⟨s, bad⟩).2.s (Sp.Cut.text ⟨s, bad⟩).2.bad ∧ Chg (OneM g) w w' := by
  have h0 := hc.cell 0
  have h1 := hc.cell 1
  have f0 := hc.frozen 0
  have f1 := hc.frozen 1
  simp at h0 h1
  have hgw := hc.lt
  have Hc := Lib.hid hc
  clear hc
  cases bad
  · by_cases hl : s.length < 2
    · go_enter Try.func88, Try.ntmps88
      go_wp2
      go_ret
      have ht : Sp.Cut.take ⟨s, false⟩ 2 = [] := by unfold Sp.Cut.take; rw [if_pos (.inr hl)]
      have hr : Sp.Cut.rest ⟨s, false⟩ 2 = ⟨s, true⟩ := by unfold Sp.Cut.rest; rw [if_pos (.inr hl)]
      refine ⟨?_, ?_, Chg.set1 _ _ _ _⟩
      · simp [Sp.Cut.text, ht]
      · simpa [Sp.Cut.text, ht, hr, DCut] using Hc.out.set_ 1 (.bool true)
    · have hl2 : 2 ≤ s.length := by omega
      have ht : Sp.Cut.take ⟨s, false⟩ 2 = [s[0], s[1]] := by
        unfold Sp.Cut.take
        rw [if_neg (by simp; omega)]
        match s, hl2 with
        | x :: y :: r, _ => rfl
      have hr : Sp.Cut.rest ⟨s, false⟩ 2 = ⟨s.drop 2, false⟩ := by unfold Sp.Cut.rest; rw [if_neg (by simp; omega)]
      have HT : Hid (Sp.Cut.text ⟨s, false⟩ = (Sp.Cut.take ⟨s.drop 2, false⟩ (Sp.Cut.lenOf [s[0], s[1]]).toNat, if (Sp.Cut.rest ⟨s.drop 2, false⟩ (Sp.Cut.lenOf [s[0], s[1]]).toNat).bad then ⟨s, true⟩ else Sp.Cut.rest ⟨s.drop 2, false⟩ (Sp.Cut.lenOf [s[0], s[1]]).toNat)) := by
        show _ = _
        unfold Sp.Cut.text
        simp only [ht, hr]
        rw [if_neg (by simp)]
      clear ht hr
      have hn0 : 0 ≤ Sp.Cut.lenOf [s[0], s[1]] ∧ Sp.Cut.lenOf [s[0], s[1]] ≤ 65535 := by
        have h1 := s[0].toNat_lt
        have h2 := s[1].toNat_lt
        simp [Sp.Cut.lenOf]
        omega
      have HN0 := Lib.hid hn0
      clear hn0
      have hix0 : ∀ W, (Instr.index 9 (.string ⟨s.toArray⟩) (.int .i64 0)).run Try.prog W = .ok (.int .u8 (s[0].toNat : Int)) W := fun W => str_at s 0 (by omega) W
      have hix1 : ∀ W, (Instr.index 9 (.string ⟨s.toArray⟩) (.int .i64 1)).run Try.prog W = .ok (.int .u8 (s[1].toNat : Int)) W := fun W => str_at s 1 (by omega) W
      go_enter Try.func88, Try.ntmps88
      go_upto_region 4 with fail
      refine wp_region_after (by kernel_rfl) (by kernel_rfl) (w.heap.size) ?_
      repeat (go_big_quiet_step (fail))
      refine wpQuiet_nil ?_
      intro w2 hb2
      have Hc2 := Lib.hid (Hc.out.below hb2 hgw)
      have hk2 : Chg (OneM g) w w2 := .of_below hb2
      have h0 := Hc2.out.cell 0
      have h1 := Hc2.out.cell 1
      have f0 := Hc2.out.frozen 0
      have f1 := Hc2.out.frozen 1
      simp at h0 h1
      rw [or_len]
      clear hix0 hix1 hb2
      have HT2 := HT.out
      generalize Sp.Cut.lenOf [s[0], s[1]] = n at *
      clear HT
      have HT := Lib.hid HT2
      clear HT2
      obtain ⟨hn0, hn1⟩ := HN0.out
      by_cases hsh : (s.length : Int) < 2 + n
      · go_wp2
        go_ret
        have hr : (Sp.Cut.rest ⟨s.drop 2, false⟩ n.toNat) = ⟨s.drop 2, true⟩ := by unfold Sp.Cut.rest; rw [if_pos (.inr (by simp; omega))]
        have ht : (Sp.Cut.take ⟨s.drop 2, false⟩ n.toNat) = [] := by unfold Sp.Cut.take; rw [if_pos (.inr (by simp; omega))]
        rw [HT.out, hr, ht]
        refine ⟨rfl, ?_, hk2.trans (Chg.set1 _ _ _ _)⟩
        simpa [DCut] using Hc2.out.set_ 1 (.bool true)
      · go_wp2_with (go_at_call 85; refine (dTake_any n hn0 (by omega) g (s.drop 2) false _ (by simp; omega) (by simpa [DCut] using Hc2.out.set_ 0 (.string ⟨(s.drop 2).toArray⟩))).mono ?_; rintro e w3 ⟨rfl, hc3, hk3⟩; have Hc3 := Lib.hid hc3; clear hc3)
        go_ret
        have hr : (Sp.Cut.rest ⟨s.drop 2, false⟩ n.toNat).bad = false := by unfold Sp.Cut.rest; rw [if_neg (by simp; omega)]
        rw [HT.out, hr]
        have hc3 := Hc3.out
        rw [hr] at hc3
        refine ⟨rfl, ?_, (hk2.trans (Chg.set1 _ _ _ _)).trans hk3⟩
        simpa [hr] using hc3
  · go_enter Try.func88, Try.ntmps88
    go_wp2
    go_ret
    refine ⟨?_, ?_, Chg.set1 _ _ _ _⟩
    · simp [Sp.Cut.text, Sp.Cut.take]
    · simpa [Sp.Cut.text, Sp.Cut.take, Sp.Cut.rest, DCut] using Hc.out.set_ 1 (.bool true)
end Go.Proofs.Ytienlhckcpfknaa
namespace Go.Proofs.Ytienlhckcpfknaa
open Go.RowKit
attribute [local go_sem low] mk_extract
attribute [local go_sem] After.cell After.frozen mk_extract_end ByteArray.mk_append_mk
theorem PageRd.rng {w : World} {M : Nat → Prop} {p : Sp.Page} {r : Refs} (h : PageRd w M p r) : Sp.Rng p := by
  refine ⟨fun f hf => ?_, h.txn⟩
  obtain ⟨j, hj, rfl⟩ := List.getElem_of_mem hf
  obtain ⟨b, off, _, _, hc⟩ := h.free.at_ hj
  obtain ⟨V, c, _, _, h1, h2⟩ := hc j hj
  have e : p.free.getD j Sp.free0 = p.free[j] := by simp [List.getD, hj]
  rw [e] at h1 h2
  exact ⟨h1, h2⟩
theorem Sp.bytes_le {p : Sp.Page} (h : Sp.isPage p = true) : (Sp.bytes p).length ≤ 2000000 := by
  have := Sp.partsB_le h
  rw [Sp.bytes_of h]
  simp only [Sp.body, List.length_append, Sp.le8_length]
  omega
theorem readV_no {s : Txt} (h : Sp.readOk s = false) (r : Refs) : readV s r = .tuple #[.agg (pageV Sp.pg0 r).toArray, .iface 44 (.int .i64 12)] := by
  unfold readV
  rw [h]
  rfl
theorem readV_yes {s : Txt} (h : Sp.readOk s = true) (r : Refs) : readV s r = .tuple #[.agg (pageV (Sp.parse s) r).toArray, .nilIface] := by
  unfold readV
  rw [h]
  rfl
/-- Two pages, in blocks of their own. -/
structure BkS (W0 : World) (M N : Nat → Prop) (p q : Sp.Page) (r s : Refs) (g h : Nat) (w : World) : Prop where
  hb : Below W0.heap.size W0 w
  bp : Blk w g PageT (pageV p r).toArray
  bq : Blk w h PageT (pageV q s).toArray
  rp : PageRd w M p r
  rq : PageRd w N q s
theorem BkS.go {W0 : World} {M N : Nat → Prop} {p q : Sp.Page} {r s : Refs} {g h : Nat} {w w' : World} (k : BkS W0 M N p q r s g h w) (hb : Below w.heap.size w w') : BkS W0 M N p q r s g h w' :=
  ⟨k.hb.trans (hb.mono k.hb.size), k.bp.below hb k.bp.lt, k.bq.below hb k.bq.lt, k.rp.go hb, k.rq.go hb⟩
theorem BkS.start {M N : Nat → Prop} {p q : Sp.Page} {r s : Refs} {w : World} (hp : PageRd w M p r) (hq : PageRd w N q s) : BkS w M N p q r s w.heap.size (w.heap.size + 1) ((w.alloc (.cells (pageV p r).toArray PageT)).alloc (.cells (pageV q s).toArray PageT)) := by
  have hb : Below w.heap.size w ((w.alloc (.cells (pageV p r).toArray PageT)).alloc (.cells (pageV q s).toArray PageT)) := ((Below.refl _ _).alloc (Nat.le_refl _) _).alloc (by simp) _
  exact ⟨hb, (Blk.new w _ _).alloc _, blk_second w _ _ _, hp.go hb, hq.go hb⟩
set_option maxRecDepth 100000 in
set_option maxHeartbeats 1600000 in
theorem back_no (p q : Sp.Page) (r s : Refs) {M N : Nat → Prop} (w : World) (hp : PageRd w M p r) (hq : PageRd w N q s) (a2 a3 : Int) (hpp : Sp.isPage p = false) :
    Calls Try.prog 4 #[.agg (pageV p r).toArray, .agg (pageV q s).toArray, .int .u16 a2, .int .u8 a3] w fun e w' => e = .returned (.bool true) ∧ Below w.heap.size w w' := by
  have S := Lib.hid (BkS.start hp hq)
  have HP := Lib.hid hpp
  clear hp hq hpp
  simp only [pageV] at *
  go_enter Try.func4, Try.ntmps4
  go_upto_region 3 with (go_at_call 13; refine (known_any _).mono ?_; rintro e w1 ⟨rfl, hb1⟩; replace S := Lib.hid (S.out.go hb1); clear hb1)
  go_wp2_with (first
    | (refine wpList_row PageT _ rfl w.heap.size rfl rfl PageT _ (0, 0) _ S.out.bp Try.underlying32 rfl rfl ?_)
    | (go_at_call 20; refine (bytes_any (M := M) p r _ S.out.rp).mono ?_; rintro e w7 ⟨rfl, hb2⟩; rw [Sp.bytes_no HP.out]; replace S := Lib.hid (S.out.go hb2); clear hb2)
    | (go_at_call 16; refine (isPage_any (M := M) p r _ S.out.rp).mono ?_; rintro e w7 ⟨rfl, hb2⟩; rw [HP.out]; replace S := Lib.hid (S.out.go hb2); clear hb2))
  go_ret
  exact ⟨rfl, S.out.hb⟩
/-- The bytes of a page with one byte xored. -/
theorem xor_byte (x : UInt8) (n : Int) (h0 : 0 ≤ n) (h1 : n ≤ 255) : ∃ c : UInt8, bits .xor .u8 (x.toNat : Int) n = (c.toNat : Int) ∧ (n = 0 → c = x) ∧ (n ≠ 0 → x ≠ c) := by
  have hx := x.toNat_lt
  obtain ⟨m, rfl⟩ := Int.eq_ofNat_of_zero_le h0
  have hm : m < 256 := by omega
  have hxm : x.toNat ^^^ m < 2 ^ 8 := Nat.xor_lt_two_pow (by omega) (by omega)
  refine ⟨UInt8.ofNat (x.toNat ^^^ m), ?_, ?_, ?_⟩
  · rw [u8_xor _ _ (by omega) (by omega) (by omega) (by omega), Int.toNat_natCast, Int.toNat_natCast, UInt8.toNat_ofNat', Nat.mod_eq_of_lt hxm]
  · intro h
    have hm0 : m = 0 := by omega
    subst hm0
    simp
  · intro h e
    have e2 := congrArg UInt8.toNat e
    rw [UInt8.toNat_ofNat', Nat.mod_eq_of_lt hxm] at e2
    have e3 : x.toNat ^^^ (x.toNat ^^^ m) = x.toNat ^^^ x.toNat := by rw [← e2]
    rw [← Nat.xor_assoc, Nat.xor_self, Nat.zero_xor] at e3
    omega
theorem set_split {l : Txt} {k : Nat} (hk : k < l.length) (c : UInt8) : l.set k c = l.take k ++ c :: l.drop (k + 1) := by
  rw [List.set_eq_take_append_cons_drop, if_pos hk]
theorem get_split {l : Txt} {k : Nat} (hk : k < l.length) : l = l.take k ++ l.getD k 0 :: l.drop (k + 1) := by
  have h := List.take_append_drop k l
  rw [List.drop_eq_getElem_cons hk] at h
  have e : l.getD k 0 = l[k] := by simp [List.getD, hk]
  rw [e]
  exact h.symm
/-- The same, and a third page that was read. -/
structure BkT (W0 : World) (M N : Nat → Prop) (p q : Sp.Page) (r s x : Refs) (g h k : Nat) (w : World) : Prop where
  s : BkS W0 M N p q r s g h w
  bx : Blk w k PageT (pageV p x).toArray
  rx : PageRd w NoM p x
theorem BkT.go {W0 : World} {M N : Nat → Prop} {p q : Sp.Page} {r s x : Refs} {g h k : Nat} {w w' : World} (t : BkT W0 M N p q r s x g h k w) (hb : Below w.heap.size w w') : BkT W0 M N p q r s x g h k w' :=
  ⟨t.s.go hb, t.bx.below hb t.bx.lt, t.rx.go hb⟩
set_option maxRecDepth 100000 in
set_option maxHeartbeats 1600000 in
theorem back_yes (p q : Sp.Page) (r s : Refs) {M N : Nat → Prop} (w : World) (hp : PageRd w M p r) (hq : PageRd w N q s) (a2 a3 : Int) (h20 : 0 ≤ a2) (h21 : a2 ≤ 65535) (h30 : 0 ≤ a3) (h31 : a3 ≤ 255) (hpp : Sp.isPage p = true) :
    Calls Try.prog 4 #[.agg (pageV p r).toArray, .agg (pageV q s).toArray, .int .u16 a2, .int .u8 a3] w fun e w' => e = .returned (.bool true) ∧ Below w.heap.size w w' := by
  have S := Lib.hid (BkS.start hp hq)
  have HP := Lib.hid hpp
  have HR := Lib.hid hp.rng
  have HR2 := Lib.hid hq.rng
  have hl0 := Sp.bytes_len hpp
  have hl1 := Sp.bytes_le hpp
  have HOK := Lib.hid (Sp.readOk_bytes hpp hp.rng)
  have HPB := Lib.hid (Sp.parse_bytes hpp hp.rng)
  clear hp hq hpp
  simp only [pageV] at *
  go_enter Try.func4, Try.ntmps4
  go_upto_region 3 with (go_at_call 13; refine (known_any _).mono ?_; rintro e w1 ⟨rfl, hb1⟩; replace S := Lib.hid (S.out.go hb1); clear hb1)
  go_upto_region 6 with (first
    | (refine wpList_row PageT _ rfl w.heap.size rfl rfl PageT _ (0, 0) _ S.out.bp Try.underlying32 rfl rfl ?_)
    | (go_at_call 20; refine (bytes_any (M := M) p r _ S.out.rp).mono ?_; rintro e w7 ⟨rfl, hb2⟩; replace S := Lib.hid (S.out.go hb2); clear hb2)
    | (go_at_call 16; refine (isPage_any (M := M) p r _ S.out.rp).mono ?_; rintro e w7 ⟨rfl, hb2⟩; rw [HP.out]; replace S := Lib.hid (S.out.go hb2); clear hb2))
  go_cut [10, 11] (fun s10 s11 W => ∃ k x, s10 = .pointer (some ⟨k, 0, none⟩) ∧ s11 = .nilIface ∧ BkT w M N p q r s x w.heap.size (w.heap.size + 1) k W)
  case first =>
    go_wp2_with (first
      | (go_at_call 14; refine (read_any (Sp.bytes p) _ (by omega)).mono ?_; rintro e w7 ⟨x, rfl, hx, hb2⟩; rw [readV_yes HOK.out, HPB.out]; replace S := Lib.hid (S.out.go hb2); have X := Lib.hid (hx NoM (fun _ _ h => h)); clear hb2 hx)
      | (refine wpList_new PageT _ _ rfl rfl rfl rfl rfl rfl _ rfl (of_decide_eq_true (by kernel_rfl)) (by kernel_rfl) (by kernel_rfl) (by kernel_rfl) ?_))
    go_meet
    case rel =>
      have hx2 := X.out
      rw [show readPg (Sp.bytes p) = p from by unfold readPg; rw [HOK.out, if_pos rfl, HPB.out]] at hx2
      have hal : Below w7.heap.size w7 (w7.alloc (.cells (pageV p x).toArray PageT)) := (Below.refl _ _).alloc (Nat.le_refl _) _
      exact ⟨w7.heap.size, x, rfl, rfl, S.out.go hal, Blk.new w7 _ _, hx2.go hal⟩
  case rest =>
    obtain ⟨k, x, rfl, rfl, ht⟩ := hcut
    obtain ⟨w1, rfl⟩ : ∃ W, W = wc := ⟨_, rfl⟩
    have T := Lib.hid ht
    clear ht S
    go_upto_region 7 with fail
    go_cut [60] (fun s60 W => s60 = .bool false ∧ Below w.heap.size w W)
    case first =>
      have hn1 : decide (((Sp.bytes p).length : Int) < 9) = false := by rw [decide_eq_false_iff_not]; omega
      have hn2 : decide ((Sp.bytes p).length < 9) = false := by rw [decide_eq_false_iff_not]; omega
      have C1 := Lib.hid (fun (w' : World) (h1 : PageRd w' NoM p x) (h2 : PageRd w' M p r) => show Calls Try.prog 18 #[.agg (pageV p x).toArray, .agg (pageV p r).toArray] w' (fun e w2 => e = .returned (.bool true) ∧ Below w'.heap.size w' w2) from by have h := samePage_any p p x r w' h1 h2; rw [show Sp.samePage p p = true from decide_eq_true rfl] at h; exact h)
      rcases hqq : Sp.isPage q with _ | _
      · have C2 := Lib.hid (fun (w' : World) (h1 : PageRd w' N q s) => show Calls Try.prog 16 #[.agg (pageV q s).toArray] w' (fun e w2 => e = .returned (.bool false) ∧ Below w'.heap.size w' w2) from by have h := isPage_any q s w' h1; rw [hqq] at h; exact h)
        clear hqq
        refine wp_region_row (by kernel_rfl) (by kernel_rfl) ?_
        repeat (first | go_big_quiet_skip | (refine wpQuiet_row PageT _ rfl k rfl rfl PageT _ (0, 0) _ (blk_after T.out.bx) Try.underlying32 rfl rfl ?_; simp only [Act.put, List.setIfInBounds_toArray, List.set_cons_succ, List.set_cons_zero]) | (refine wpQuiet_row PageT _ rfl w.heap.size rfl rfl PageT _ (0, 0) _ (blk_after T.out.s.bp) Try.underlying32 rfl rfl ?_; simp only [Act.put, List.setIfInBounds_toArray, List.set_cons_succ, List.set_cons_zero]) | (refine wpQuiet_row PageT _ rfl (w.heap.size + 1) rfl rfl PageT _ (0, 0) _ (blk_after T.out.s.bq) Try.underlying32 rfl rfl ?_; simp only [Act.put, List.setIfInBounds_toArray, List.set_cons_succ, List.set_cons_zero]) | (go_big_quiet_step (first | (go_at_call 18; exact after_call (Nat.le_refl _) (C1.out _ (T.out.rx.go (After.h _)) (T.out.s.rp.go (After.h _)))) | (go_at_call 16; exact after_call (Nat.le_refl _) (C2.out _ (T.out.s.rq.go (After.h _)))))))
        refine wpQuiet_nil ?_
        intro w2 hb2
        go_wp2_with fail
        go_meet
        case rel => exact ⟨rfl, T.out.s.hb.trans (hb2.mono T.out.s.hb.size)⟩
      · have C2 := Lib.hid (fun (w' : World) (h1 : PageRd w' N q s) => show Calls Try.prog 16 #[.agg (pageV q s).toArray] w' (fun e w2 => e = .returned (.bool true) ∧ Below w'.heap.size w' w2) from by have h := isPage_any q s w' h1; rw [hqq] at h; exact h)
        have hsm : Sp.samePage p q = (Sp.bytes q == Sp.bytes p) := by
          unfold Sp.samePage
          by_cases e : p = q
          · subst e; simp
          · rw [decide_eq_false e]
            exact (beq_eq_false_iff_ne.2 fun h => e (Sp.bytes_inj hqq HP.out HR2.out HR.out h).symm).symm
        have C3 := Lib.hid (fun (w' : World) (h1 : PageRd w' M p r) (h2 : PageRd w' N q s) => show Calls Try.prog 18 #[.agg (pageV p r).toArray, .agg (pageV q s).toArray] w' (fun e w2 => e = .returned (.bool (Sp.bytes q == Sp.bytes p)) ∧ Below w'.heap.size w' w2) from by have h := samePage_any p q r s w' h1 h2; rw [hsm] at h; exact h)
        clear hqq hsm
        refine wp_region_row (by kernel_rfl) (by kernel_rfl) ?_
        repeat (first | go_big_quiet_skip | (refine wpQuiet_row PageT _ rfl k rfl rfl PageT _ (0, 0) _ (blk_after T.out.bx) Try.underlying32 rfl rfl ?_; simp only [Act.put, List.setIfInBounds_toArray, List.set_cons_succ, List.set_cons_zero]) | (refine wpQuiet_row PageT _ rfl w.heap.size rfl rfl PageT _ (0, 0) _ (blk_after T.out.s.bp) Try.underlying32 rfl rfl ?_; simp only [Act.put, List.setIfInBounds_toArray, List.set_cons_succ, List.set_cons_zero]) | (refine wpQuiet_row PageT _ rfl (w.heap.size + 1) rfl rfl PageT _ (0, 0) _ (blk_after T.out.s.bq) Try.underlying32 rfl rfl ?_; simp only [Act.put, List.setIfInBounds_toArray, List.set_cons_succ, List.set_cons_zero]) | (go_big_quiet_step (first | (go_at_call_of 18 x; exact after_call (Nat.le_refl _) (C1.out _ (T.out.rx.go (After.h _)) (T.out.s.rp.go (After.h _)))) | (go_at_call_of 18 s; exact after_call (Nat.le_refl _) (C3.out _ (T.out.s.rp.go (After.h _)) (T.out.s.rq.go (After.h _)))) | (go_at_call 16; exact after_call (Nat.le_refl _) (C2.out _ (T.out.s.rq.go (After.h _)))) | (go_at_call 20; exact after_call (Nat.le_refl _) (bytes_any q s _ (T.out.s.rq.go (After.h _)))))))
        refine wpQuiet_nil ?_
        intro w2 hb2
        go_wp2_with fail
        go_meet
        case rel => exact ⟨rfl, T.out.s.hb.trans (hb2.mono T.out.s.hb.size)⟩
    case rest =>
      obtain ⟨rfl, hb⟩ := hcut
      obtain ⟨w2, rfl⟩ : ∃ W, W = wc := ⟨_, rfl⟩
      have HB := Lib.hid hb
      clear hb T
      go_upto_region 9 with fail
      have hk0 : 0 ≤ a2 % ((Sp.bytes p).length : Int) := Int.emod_nonneg _ (by omega)
      have hk1 : a2 % ((Sp.bytes p).length : Int) < ((Sp.bytes p).length : Int) := Int.emod_lt_of_pos _ (by omega)
      obtain ⟨c, hc, hc0, hc1⟩ := xor_byte ((Sp.bytes p).getD (a2 % ((Sp.bytes p).length : Int)).toNat 0) a3 h30 h31
      have HC0 := Lib.hid hc0
      have HC1 := Lib.hid hc1
      have HC := Lib.hid hc
      clear hc0 hc1 hc
      go_upto_region 12 with (refine wpList_to_bytes 9 48 5 _ rfl rfl (Sp.bytes p) rfl Try.underlying9 Try.underlying48 Try.underlying5 ?_; intro w3 cap hb3 hz3 hy3; have HY3 := Lib.hid hy3; have HB3 := Lib.hid hb3; have cy3 := hy3.cell (a2 % ((Sp.bytes p).length : Int)).toNat (by omega); have fy3 := hy3.froz (a2 % ((Sp.bytes p).length : Int)).toNat (by omega); clear hy3 hb3 hz3)
      refine wp_gen (fun W => Below w.heap.size w W ∧ ByS w2.heap.size ((Sp.bytes p).set (a2 % ((Sp.bytes p).length : Int)).toNat c) W) ⟨?_, ?_⟩ ?_
      · exact (HB.out.trans (HB3.out.mono HB.out.size)).setCell (p := ⟨w2.heap.size, _, none⟩) HB.out.size _
      · have hy := HY3.out.set_ (k := (a2 % ((Sp.bytes p).length : Int)).toNat) (by omega) c
        rw [← HC.out] at hy
        have eg : (Sp.bytes p).getD (a2 % ((Sp.bytes p).length : Int)).toNat 0 = (Sp.bytes p)[(a2 % ((Sp.bytes p).length : Int)).toNat]'(by omega) := by
          rw [List.getD_eq_getElem?_getD, List.getElem?_eq_getElem (by omega)]
          rfl
        rw [eg] at hy
        exact hy
      clear HY3 HB3 cy3 fy3 HB
      intro w4 hw4
      have hback := hw4.2.back (P := Try.prog) (cap := cap) 48 9 5 Try.underlying48 Try.underlying5 Try.underlying9 (n := (Sp.bytes p).length) (by simp)
      have HB := Lib.hid hw4.1
      have hoc : Sp.readOk ((Sp.bytes p).set (a2 % ((Sp.bytes p).length : Int)).toNat c) = decide (a3 = 0) := by
        have hkl : (a2 % ((Sp.bytes p).length : Int)).toNat < (Sp.bytes p).length := by omega
        by_cases h : a3 = 0
        · rw [HC0.out h, decide_eq_true h, set_split hkl, ← get_split hkl]
          exact HOK.out
        · rw [decide_eq_false h, set_split hkl]
          exact Sp.byte_no HP.out (get_split hkl) (HC1.out h)
      have hln : ((Sp.bytes p).set (a2 % ((Sp.bytes p).length : Int)).toNat c).length = (Sp.bytes p).length := by simp
      have hlx : ((Sp.bytes p).set (a2 % ((Sp.bytes p).length : Int)).toNat c).length ≤ 4611686018427387904 := by rw [hln]; omega
      have HOC := Lib.hid hoc
      have HLX := Lib.hid hlx
      clear hw4 hoc hln hlx HC HC0 HC1
      generalize (Sp.bytes p).set (a2 % ((Sp.bytes p).length : Int)).toNat c = sc at *
      have hless : Sp.readOk ((Sp.bytes p).take ((Sp.bytes p).length - 1)) = false := by
        refine Sp.less_no HP.out HR.out (t := (Sp.bytes p).drop ((Sp.bytes p).length - 1)) ?_ (List.take_append_drop _ _).symm
        intro h
        have := congrArg List.length h
        simp only [List.length_drop, List.length_nil] at this
        omega
      have hmore : Sp.readOk (Sp.bytes p ++ [0]) = false := Sp.more_no HP.out HR.out (by simp)
      have HLE := Lib.hid hless
      have HMO := Lib.hid hmore
      clear hless hmore
      rcases hz : decide (a3 = 0) with _ | _
      · have h3 : ¬ a3 = 0 := of_decide_eq_false hz
        have h3b : (a3 == 0) = false := beq_eq_false_iff_ne.2 h3
        rw [hz] at HOC
        clear hz h3
        go_cut [15] (fun s15 W => s15 = .iface 44 (.int .i64 12) ∧ Below w.heap.size w W)
        case first =>
          go_wp2_with (first
          | (go_at_call 14; refine (read_any (sc) _ (by exact HLX.out)).mono ?_; rintro e w7 ⟨x, rfl, hx, hb2⟩; rw [readV_no HOC.out]; have HBX := Lib.hid (HB.out.trans (hb2.mono HB.out.size)); clear hb2 hx)
          | (refine wpList_new PageT _ _ rfl rfl rfl rfl rfl rfl _ rfl (of_decide_eq_true (by kernel_rfl)) (by kernel_rfl) (by kernel_rfl) (by kernel_rfl) ?_))
          go_meet
          case rel => exact ⟨rfl, HBX.out.alloc HBX.out.size _⟩
        case rest =>
          obtain ⟨rfl, hb⟩ := hcut
          obtain ⟨w5, rfl⟩ : ∃ W, W = wc := ⟨_, rfl⟩
          replace HB := Lib.hid hb
          clear hb hback
          go_upto_region 13 with fail
          go_cut [17] (fun s17 W => s17 = .iface 44 (.int .i64 12) ∧ Below w.heap.size w W)
          case first =>
            go_wp2_with (first
          | (go_at_call 14; refine (read_any ((Sp.bytes p).take ((Sp.bytes p).length - 1)) _ (by simp; omega)).mono ?_; rintro e w7 ⟨x, rfl, hx, hb2⟩; rw [readV_no HLE.out]; have HBX := Lib.hid (HB.out.trans (hb2.mono HB.out.size)); clear hb2 hx)
          | (refine wpList_new PageT _ _ rfl rfl rfl rfl rfl rfl _ rfl (of_decide_eq_true (by kernel_rfl)) (by kernel_rfl) (by kernel_rfl) (by kernel_rfl) ?_))
            go_meet
            case rel => exact ⟨rfl, HBX.out.alloc HBX.out.size _⟩
          case rest =>
            obtain ⟨rfl, hb⟩ := hcut
            obtain ⟨w6, rfl⟩ : ∃ W, W = wc := ⟨_, rfl⟩
            replace HB := Lib.hid hb
            clear hb
            go_upto_region 14 with fail
            go_cut [19] (fun s19 W => s19 = .iface 44 (.int .i64 12) ∧ Below w.heap.size w W)
            case first =>
              go_wp2_with (first
          | (go_at_call 14; refine (read_any (Sp.bytes p ++ [0]) _ (by simp; omega)).mono ?_; rintro e w7 ⟨x, rfl, hx, hb2⟩; rw [readV_no HMO.out]; have HBX := Lib.hid (HB.out.trans (hb2.mono HB.out.size)); clear hb2 hx)
          | (refine wpList_new PageT _ _ rfl rfl rfl rfl rfl rfl _ rfl (of_decide_eq_true (by kernel_rfl)) (by kernel_rfl) (by kernel_rfl) (by kernel_rfl) ?_))
              go_meet
              case rel => exact ⟨rfl, HBX.out.alloc HBX.out.size _⟩
            case rest =>
              obtain ⟨rfl, hb⟩ := hcut
              obtain ⟨w8, rfl⟩ : ∃ W, W = wc := ⟨_, rfl⟩
              replace HB := Lib.hid hb
              clear hb
              go_wp2_with (go_at_call 22; refine (errIs_same 12 _).mono ?_; rintro e w7 ⟨rfl, rfl⟩)
              go_ret
              exact ⟨rfl, HB.out⟩
      · have h3 : a3 = 0 := of_decide_eq_true hz
        have h3b : (a3 == 0) = true := beq_iff_eq.2 h3
        rw [hz] at HOC
        clear hz
        have H3 := Lib.hid h3
        clear h3
        go_cut [15] (fun s15 W => s15 = .nilIface ∧ Below w.heap.size w W)
        case first =>
          go_wp2_with (first
          | (go_at_call 14; refine (read_any (sc) _ (by exact HLX.out)).mono ?_; rintro e w7 ⟨x, rfl, hx, hb2⟩; rw [readV_yes HOC.out]; have HBX := Lib.hid (HB.out.trans (hb2.mono HB.out.size)); clear hb2 hx)
          | (refine wpList_new PageT _ _ rfl rfl rfl rfl rfl rfl _ rfl (of_decide_eq_true (by kernel_rfl)) (by kernel_rfl) (by kernel_rfl) (by kernel_rfl) ?_))
          go_meet
          case rel => exact ⟨rfl, HBX.out.alloc HBX.out.size _⟩
        case rest =>
          obtain ⟨rfl, hb⟩ := hcut
          obtain ⟨w5, rfl⟩ : ∃ W, W = wc := ⟨_, rfl⟩
          replace HB := Lib.hid hb
          clear hb hback
          go_upto_region 13 with fail
          go_cut [17] (fun s17 W => s17 = .iface 44 (.int .i64 12) ∧ Below w.heap.size w W)
          case first =>
            go_wp2_with (first
          | (go_at_call 14; refine (read_any ((Sp.bytes p).take ((Sp.bytes p).length - 1)) _ (by simp; omega)).mono ?_; rintro e w7 ⟨x, rfl, hx, hb2⟩; rw [readV_no HLE.out]; have HBX := Lib.hid (HB.out.trans (hb2.mono HB.out.size)); clear hb2 hx)
          | (refine wpList_new PageT _ _ rfl rfl rfl rfl rfl rfl _ rfl (of_decide_eq_true (by kernel_rfl)) (by kernel_rfl) (by kernel_rfl) (by kernel_rfl) ?_))
            go_meet
            case rel => exact ⟨rfl, HBX.out.alloc HBX.out.size _⟩
          case rest =>
            obtain ⟨rfl, hb⟩ := hcut
            obtain ⟨w6, rfl⟩ : ∃ W, W = wc := ⟨_, rfl⟩
            replace HB := Lib.hid hb
            clear hb
            go_upto_region 14 with fail
            go_cut [19] (fun s19 W => s19 = .iface 44 (.int .i64 12) ∧ Below w.heap.size w W)
            case first =>
              go_wp2_with (first
          | (go_at_call 14; refine (read_any (Sp.bytes p ++ [0]) _ (by simp; omega)).mono ?_; rintro e w7 ⟨x, rfl, hx, hb2⟩; rw [readV_no HMO.out]; have HBX := Lib.hid (HB.out.trans (hb2.mono HB.out.size)); clear hb2 hx)
          | (refine wpList_new PageT _ _ rfl rfl rfl rfl rfl rfl _ rfl (of_decide_eq_true (by kernel_rfl)) (by kernel_rfl) (by kernel_rfl) (by kernel_rfl) ?_))
              go_meet
              case rel => exact ⟨rfl, HBX.out.alloc HBX.out.size _⟩
            case rest =>
              obtain ⟨rfl, hb⟩ := hcut
              obtain ⟨w8, rfl⟩ : ∃ W, W = wc := ⟨_, rfl⟩
              replace HB := Lib.hid hb
              clear hb
              go_wp2_with (go_at_call 22; refine (errIs_same 12 _).mono ?_; rintro e w7 ⟨rfl, rfl⟩)
              go_ret
              exact ⟨rfl, HB.out⟩
theorem back_any (p q : Sp.Page) (r s : Refs) {M N : Nat → Prop} (w : World) (hp : PageRd w M p r) (hq : PageRd w N q s) (a2 a3 : Int) (h20 : 0 ≤ a2) (h21 : a2 ≤ 65535) (h30 : 0 ≤ a3) (h31 : a3 ≤ 255) :
    Calls Try.prog 4 #[.agg (pageV p r).toArray, .agg (pageV q s).toArray, .int .u16 a2, .int .u8 a3] w fun e w' => e = .returned (.bool true) ∧ Below w.heap.size w w' := by
  rcases h : Sp.isPage p with _ | _
  · exact back_no p q r s w hp hq a2 a3 h
  · exact back_yes p q r s w hp hq a2 a3 h20 h21 h30 h31 h
end Go.Proofs.Ytienlhckcpfknaa
namespace Go.Proofs.Ytienlhckcpfknaa
open Go.RowKit
attribute [local go_sem low] mk_extract
attribute [local go_sem] After.cell After.frozen mk_extract_end ByteArray.mk_append_mk
theorem ByS.of_blk {w : World} {b : Nat} {t : TypeId} {l : List UInt8} {cs : Array Value} (h : Blk w b t cs) (hc : cs = (l.map fun c => Value.int .u8 (c.toNat : Int)).toArray) : ByS b l w := by
  subst hc
  exact ⟨h.lt, fun i hi => by rw [h.cell i]; simp [List.getD, hi], fun i _ => h.frozen i⟩
theorem wpList_from_bytes {P : Program} {ops : Array Oper} {rest : List Oper} {o : Oper} {a : Act} {w : World} {Q : Exit → Act → World → Prop} (src dst e : TypeId) (x : Operand) (ho : o.op = .convert src dst x) (hgd : o.guard = none)
    (b cap n : Nat) (l : List UInt8) (hx : a.eval x = .slice (some ⟨b, 0, none⟩) n cap) (hn : n = l.length) (hs : P.underlying src = some (.slice e)) (he : P.underlying e = some (.int .u8)) (hd : P.underlying dst = some .string) (hB : ByS b l w)
    (h : wpList P ops Q rest (a.put o.dst (.string ⟨l.toArray⟩)) w) : wpList P ops Q (o :: rest) a w := by
  refine wpList_plain hgd fun K hK => ?_
  unfold Oper.wp execOp
  simp only [ho, hx, Sem.run_bind, hB.back src dst e hs he hd hn, Result.andThen_ok]
  exact hK _ _ h
theorem byte_of (k : Nat) (h : k < 256) : Value.int .u8 (k : Int) = .int .u8 ((UInt8.ofNat k).toNat : Int) := by
  rw [UInt8.toNat_ofNat', Nat.mod_eq_of_lt h]
theorem byte97 (k : Nat) (h : k < 100) : Value.int .u8 (97 + (k : Int)) = .int .u8 ((97 + UInt8.ofNat k).toNat : Int) := by
  have : (97 + UInt8.ofNat k).toNat = 97 + k := by
    rw [UInt8.toNat_add, UInt8.toNat_ofNat']
    show (97 + k % 256) % 256 = _
    omega
  rw [this]
  congr 1
/-- Behind an append a block that is not the row's is as it was. -/
theorem Blk.grown {w w' : World} {g : Nat} {t : TypeId} {cs : Array Value} {v : Value} {base : Nat} (h : Blk w g t cs) (hg : w.grownBy w' v.ownBlock) (hb : ∀ k, v.ownBlock = some k → base ≤ k) (hgb : g < base) : Blk w' g t cs :=
  h.chg (S := fun k => v.ownBlock = some k) (Chg.of_grown hg (fun k hk => .inl hk)) (fun e => by have := hb g e; omega)
/-- One page, in a block of its own. -/
structure OneS (W0 : World) (M : Nat → Prop) (p : Sp.Page) (r : Refs) (g : Nat) (w : World) : Prop where
  hb : Below W0.heap.size W0 w
  bp : Blk w g PageT (pageV p r).toArray
  rp : PageRd w M p r
theorem OneS.go {W0 : World} {M : Nat → Prop} {p : Sp.Page} {r : Refs} {g : Nat} {w w' : World} (k : OneS W0 M p r g w) (hb : Below w.heap.size w w') : OneS W0 M p r g w' :=
  ⟨k.hb.trans (hb.mono k.hb.size), k.bp.below hb k.bp.lt, k.rp.go hb⟩
/-- The same, and a page that was read. -/
structure TwoS (W0 : World) (M : Nat → Prop) (p q : Sp.Page) (r x : Refs) (g k : Nat) (w : World) : Prop where
  s : OneS W0 M p r g w
  bx : Blk w k PageT (pageV q x).toArray
  rx : PageRd w NoM q x
theorem TwoS.go {W0 : World} {M : Nat → Prop} {p q : Sp.Page} {r x : Refs} {g k : Nat} {w w' : World} (t : TwoS W0 M p q r x g k w) (hb : Below w.heap.size w w') : TwoS W0 M p q r x g k w' :=
  ⟨t.s.go hb, t.bx.below hb t.bx.lt, t.rx.go hb⟩
theorem TwoS.read {W0 : World} {M : Nat → Prop} {p q : Sp.Page} {r x : Refs} {g : Nat} {w : World} (s : OneS W0 M p r g w) (hx : PageRd w NoM q x) : TwoS W0 M p q r x g w.heap.size (w.alloc (.cells (pageV q x).toArray PageT)) :=
  have hal : Below w.heap.size w (w.alloc (.cells (pageV q x).toArray PageT)) := (Below.refl _ _).alloc (Nat.le_refl _) _
  ⟨s.go hal, Blk.new w _ _, hx.go hal⟩
theorem readPg_yes {s : Txt} (h : Sp.readOk s = true) : readPg s = Sp.parse s := by unfold readPg; rw [h, if_pos rfl]
theorem cell_one_at {w : World} {g : Nat} {t : TypeId} {u : Value} (h : Blk w g t #[u]) : ∀ j v, [u][j]? = some v → w.cell? ((⟨g, 0, none⟩ : Addr).add j) = some v := fun j v hv => by
  rcases j with _ | j
  · simp only [List.getElem?_cons_zero, Option.some.injEq] at hv
    subst hv
    rw [show (⟨g, 0, none⟩ : Addr).add 0 = ⟨g, 0, none⟩ from rfl]
    exact (h.cell 0).trans rfl
  · simp at hv
theorem nb_grown {w w' : World} {b base size n : Nat} {e t : TypeId} {v : Value} {xs : List Value} {cs : Array Value} (h : Blk w b t cs) (ho : w.ownsRow base e size v n xs) (hg : w.grownBy w' v.ownBlock) (hne : e ≠ t) : Blk w' b t cs :=
  h.chg (S := fun k => v.ownBlock = some k) (Chg.of_grown hg (fun k hk => .inl hk)) (fun e => own_not ho hne b e _ h)
end Go.Proofs.Ytienlhckcpfknaa
namespace Go.Proofs.Ytienlhckcpfknaa
open Go.RowKit
attribute [local go_sem low] mk_extract
attribute [local go_sem] After.cell After.frozen mk_extract_end ByteArray.mk_append_mk
namespace Sp
def pgM (m : Mt) : Page := ⟨6, [], [], [], [], [], [], 0, m⟩
def fresh (i : Int) : Mt := ⟨min (max i 0) 1, root0, 0, 2⟩
def metaB (m : Mt) : Txt := bytes (pgM m)
end Sp
set_option maxRecDepth 100000 in
set_option maxHeartbeats 400000 in
theorem place_any (n : Int) (h0 : 0 ≤ n) (h1 : n < 18446744073709551616) (w : World) : Calls Try.prog 30 #[.int .u64 n] w fun e w' => e = .returned (.int .i64 (n % 2)) ∧ w = w' := by
  have H1 := Lib.hid h1
  clear h1
  go_enter Try.func30, Try.ntmps30
  go_wp2
  go_ret
  refine ⟨ret_int ?_, rfl⟩
  have := H1.out
  first | rfl | (simp [IntKind.wrap_u64, IntKind.wrap_i64, Int.tmod_eq_emod_of_nonneg h0]; omega) | omega
set_option maxRecDepth 100000 in
set_option maxHeartbeats 400000 in
theorem fresh_any (i : Int) (w : World) : Calls Try.prog 32 #[.int .i64 i] w fun e w' => e = .returned (.agg (mtV (Sp.fresh i)).toArray) ∧ Below w.heap.size w w' := by
  go_enter Try.func32, Try.ntmps32
  go_wp2_with fail
  all_goals
    first
      | (have e : Sp.fresh i = ⟨0, Sp.root0, 0, 2⟩ := by
           unfold Sp.fresh
           congr 1
           omega
         rw [e])
      | (have e : Sp.fresh i = ⟨1, Sp.root0, 0, 2⟩ := by
           unfold Sp.fresh
           congr 1
           omega
         rw [e])
      | (have e : Sp.fresh i = ⟨i, Sp.root0, 0, 2⟩ := by
           unfold Sp.fresh
           congr 1
           omega
         rw [e])
    refine bodyPost_ret (v := .agg (mtV _).toArray) (by simp [results, Try.results32, go_sem, mtV, Sp.root0]) rfl ⟨rfl, by go_grown⟩
set_option maxRecDepth 100000 in
set_option maxHeartbeats 1600000 in
theorem metaBytes_any (m : Sp.Mt) (w : World) (hm : 0 ≤ m.txn ∧ m.txn < 18446744073709551616) : Calls Try.prog 28 #[.agg (mtV m).toArray] w fun e w' => e = .returned (.string ⟨(Sp.metaB m).toArray⟩) ∧ Below w.heap.size w w' := by
  have hb := Blk.new w 30 (mtV m).toArray
  have HB := Lib.hid hb
  have HM := Lib.hid hm
  clear hb hm
  simp only [mtV] at *
  go_enter Try.func28, Try.ntmps28
  go_wp2_with (first
    | (refine wpList_row 30 _ rfl w.heap.size rfl rfl 30 #[.int .u64 m.txn, .int .i64 m.main.page, .int .i64 m.main.count, .int .i64 m.main.flags, .int .i64 m.free, .int .i64 m.last] (0, 0) _ HB.out Try.underlying30 rfl rfl ?_)
    | (go_at_call 20; refine (bytes_any (M := NoM) (Sp.pgM m) refs0 _ ⟨Items.nil_, Row.nil_, Row.nil_, Row.nil_, Frees.nil_, HM.out⟩).mono ?_; rintro e w7 ⟨rfl, hb2⟩; have HB2 := Lib.hid hb2; clear hb2))
  go_ret
  exact ⟨rfl, ((Below.refl _ _).alloc (Nat.le_refl _) _).trans (HB2.out.mono (by simp))⟩
end Go.Proofs.Ytienlhckcpfknaa
namespace Go.Proofs.Ytienlhckcpfknaa
open Go.RowKit Go.Conc
section
variable {P : Program} {ops : Array Oper} {Q : Exit → Act → World → Prop} {a : Act} {w w' : World} {i : Nat} {rest : List Nat} {o : Oper}
/-- From these operations of a region on the statement comes to an end of which Q holds. -/
def InReg (P : Program) (ops : Array Oper) (Q : Exit → Act → World → Prop) (l : List Nat) (a : Act) (w : World) : Prop :=
  ∀ (b : Frame) (k : List Item) (cs : List Frame), ∃ e a' w', Q e a' w' ∧ Arrives P (lone (b.at a (.inRegion ops l :: k)) cs w) b k cs e a' w'
theorem InReg.region {id : Nat} (h : InReg P ops Q (List.range ops.size) a w) : (Code.region id ops false).wp P Q a w :=
  fun b k cs => let ⟨e, a', w', q, r⟩ := h b k cs; ⟨e, a', w', q, .of_steps (.one step_region) r⟩
theorem InReg.nil (h : Q .normal a w) : InReg P ops Q [] a w := fun _ _ _ => ⟨.normal, a, w, h, .one step_region_end⟩
theorem finish_put (ho : ops[i]? = some o) (b : Frame) (k : List Item) (v : Value) : (b.at a (.inRegion ops (i :: rest) :: k)).finish v = b.at (a.put o.dst v) (.inRegion ops rest :: k) := by
  rw [Frame.finish_at, ho]
  rfl
theorem InReg.val {v : Value} (ho : ops[i]? = some o) (hw : Region.wanted o (yielded ops a.tmps) = true) (hr : (execOp a.eval o).run P w = .ok (.value v) w') (h : InReg P ops Q rest (a.put o.dst v) w') : InReg P ops Q (i :: rest) a w := fun b k cs => by
  obtain ⟨e, a', w'', hq, harr⟩ := h b k cs
  refine ⟨e, a', w'', hq, .of_steps (.one (step_lone_go ?_)) harr⟩
  rw [stepG_op (b := b) (k := k) (cs := cs) (w := w) (rest := rest) ho hw, ← finish_put ho]
  simp [stepG.apply, hr]
theorem stepG_comm' {b : Frame} {k : List Item} {cs : List Frame} {cases : Array CommCase} {blocking : Bool} {shape : CommShape} (ho : ops[i]? = some o) (hw : Region.wanted o (yielded ops a.tmps) = true)
    (hr : (execOp a.eval o).run P w = .ok (.comm cases blocking shape) w') :
    ∃ es, stepG P true (G (b.at a (.inRegion ops (i :: rest) :: k)) cs) w = .comm (G (b.at a (.inRegion ops (i :: rest) :: k)) cs) cases blocking shape w' es := by
  rw [Go.Conc.stepG_oper ho hw]
  by_cases hk : b.kind = .early
  · have hk' : (b.kind == CallKind.early) = true := by simpa using hk
    exact ⟨_, by simp [stepG.apply, hr, G, Frame.at, hk', GStep.after]; rfl⟩
  · have hk' : (b.kind == CallKind.early) = false := by simpa using hk
    exact ⟨_, by simp [stepG.apply, hr, G, Frame.at, hk', GStep.after]; rfl⟩
/-- A send into a buffer with room. -/
theorem InReg.send {c cap s r : Nat} {buf : Array Value} {v z : Value} {tm : Bool} (ho : ops[i]? = some o) (hw : Region.wanted o (yielded ops a.tmps) = true) (hr : (execOp a.eval o).run P w = .ok (.comm #[scase c v z] true .send) w')
    (hc : w'.heap[c]? = some (.chan cap buf false s r tm)) (hroom : buf.size < cap) (h : InReg P ops Q rest (a.put o.dst undef) (w'.setChan c cap (buf.push v) false (s + 1) r tm)) : InReg P ops Q (i :: rest) a w := fun b k cs => by
  obtain ⟨e, a', w'', hq, harr⟩ := h b k cs
  obtain ⟨es, hs⟩ := stepG_comm' (b := b) (k := k) (cs := cs) (rest := rest) ho hw hr
  have hst := step_lone_send_room hs hc hroom
  rw [finish_put ho] at hst
  exact ⟨e, a', w'', hq, .of_steps (.one hst) harr⟩
/-- A select of one receive with a default: the buffer holds something. -/
theorem InReg.recv {c cap s r : Nat} {buf : Array Value} {z : Value} {tm closed : Bool} (ho : ops[i]? = some o) (hw : Region.wanted o (yielded ops a.tmps) = true) (hr : (execOp a.eval o).run P w = .ok (.comm #[rcase c z] false .select) w')
    (hc : w'.heap[c]? = some (.chan cap buf closed s r tm)) (hsome : 0 < buf.size) (h : InReg P ops Q rest (a.put o.dst (.tuple #[goInt 0, .bool true, buf.getD 0 undef])) (w'.setChan c cap (buf.extract 1 buf.size) closed s (r + 1) tm)) : InReg P ops Q (i :: rest) a w := fun b k cs => by
  obtain ⟨e, a', w'', hq, harr⟩ := h b k cs
  obtain ⟨es, hs⟩ := stepG_comm' (b := b) (k := k) (cs := cs) (rest := rest) ho hw hr
  have hst := step_lone_sel_recv_buf (k := 0) (z := z) hs rfl (fun m c' hm hc' => by
    rcases m with _ | m
    · exact absurd rfl hm
    · simp at hc') hc hsome
  have hcr : commResult #[rcase c z] .select ((0 : Nat) : Int) (buf.getD 0 undef) true = .tuple #[goInt 0, .bool true, buf.getD 0 undef] := by
    simp [commResult, rcase, List.zipIdx_cons]
  rw [hcr, finish_put ho] at hst
  exact ⟨e, a', w'', hq, .of_steps (.one hst) harr⟩
/-- A select of one receive with a default: the buffer is empty. -/
theorem InReg.default {c cap s r : Nat} {z : Value} {tm : Bool} (ho : ops[i]? = some o) (hw : Region.wanted o (yielded ops a.tmps) = true) (hr : (execOp a.eval o).run P w = .ok (.comm #[rcase c z] false .select) w')
    (hc : w'.heap[c]? = some (.chan cap #[] false s r tm)) (h : InReg P ops Q rest (a.put o.dst (.tuple #[goInt (-1), .bool false, z])) w') : InReg P ops Q (i :: rest) a w := fun b k cs => by
  obtain ⟨e, a', w'', hq, harr⟩ := h b k cs
  obtain ⟨es, hs⟩ := stepG_comm' (b := b) (k := k) (cs := cs) (rest := rest) ho hw hr
  have hst := step_lone_select_default hs hc
  rw [finish_put ho] at hst
  exact ⟨e, a', w'', hq, .of_steps (.one hst) harr⟩
end
end Go.Proofs.Ytienlhckcpfknaa
