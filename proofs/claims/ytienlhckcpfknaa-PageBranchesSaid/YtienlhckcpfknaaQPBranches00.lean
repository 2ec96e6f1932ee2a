/- PageBack: what is written is read; one byte changed, one less, one more, and it is corrupt: the walk. More words for a walk: bytes made a text; what an append leaves of other blocks. PageLeafs: a leaf has one to four items, whose keys rise: the walk. -/
import Derived.Test.YtienlhckcpfknaaQB08
set_option linter.unusedSimpArgs false
set_option linter.unusedVariables false
namespace Go.Proofs.Ytienlhckcpfknaa
open Go.RowKit
attribute [local go_sem low] mk_extract
attribute [local go_sem] After.cell After.frozen mk_extract_end ByteArray.mk_append_mk
theorem PageRd.rng {w : World} {M : Nat → Prop} {p : Sp.Page} {r : Refs} (h : PageRd w M p r) : Sp.Rng p := by
  refine ⟨fun f hf => ?_, h.txn⟩
  obtain ⟨j, hj, rfl⟩ := List.getElem_of_mem hf
  obtain ⟨b, off, _, _, hc⟩ := h.free.at_ hj
  obtain ⟨V, c, _, _, h1, h2⟩ := hc j hj
  have e : p.free.getD j Sp.free0 = p.free[j] := by simp [List.getD, hj]
  rw [e] at h1 h2
  exact ⟨h1, h2⟩
theorem Sp.bytes_le {p : Sp.Page} (h : Sp.isPage p = true) : (Sp.bytes p).length ≤ 2000000 := by
  have := Sp.partsB_le h
  rw [Sp.bytes_of h]
  simp only [Sp.body, List.length_append, Sp.le8_length]
  omega
theorem readV_no {s : Txt} (h : Sp.readOk s = false) (r : Refs) : readV s r = .tuple #[.agg (pageV Sp.pg0 r).toArray, .iface 44 (.int .i64 12)] := by
  unfold readV
  rw [h]
  rfl
theorem readV_yes {s : Txt} (h : Sp.readOk s = true) (r : Refs) : readV s r = .tuple #[.agg (pageV (Sp.parse s) r).toArray, .nilIface] := by
  unfold readV
  rw [h]
  rfl
/-- Two pages, in blocks of their own. -/
structure BkS (W0 : World) (M N : Nat → Prop) (p q : Sp.Page) (r s : Refs) (g h : Nat) (w : World) : Prop where
  hb : Below W0.heap.size W0 w
  bp : Blk w g PageT (pageV p r).toArray
  bq : Blk w h PageT (pageV q s).toArray
  rp : PageRd w M p r
  rq : PageRd w N q s
theorem BkS.go {W0 : World} {M N : Nat → Prop} {p q : Sp.Page} {r s : Refs} {g h : Nat} {w w' : World} (k : BkS W0 M N p q r s g h w) (hb : Below w.heap.size w w') : BkS W0 M N p q r s g h w' :=
  ⟨k.hb.trans (hb.mono k.hb.size), k.bp.below hb k.bp.lt, k.bq.below hb k.bq.lt, k.rp.go hb, k.rq.go hb⟩
theorem BkS.start {M N : Nat → Prop} {p q : Sp.Page} {r s : Refs} {w : World} (hp : PageRd w M p r) (hq : PageRd w N q s) : BkS w M N p q r s w.heap.size (w.heap.size + 1) ((w.alloc (.cells (pageV p r).toArray PageT)).alloc (.cells (pageV q s).toArray PageT)) := by
  have hb : Below w.heap.size w ((w.alloc (.cells (pageV p r).toArray PageT)).alloc (.cells (pageV q s).toArray PageT)) := ((Below.refl _ _).alloc (Nat.le_refl _) _).alloc (by simp) _
  exact ⟨hb, (Blk.new w _ _).alloc _, blk_second w _ _ _, hp.go hb, hq.go hb⟩
set_option maxRecDepth 100000 in
set_option maxHeartbeats 1600000 in
theorem back_no (p q : Sp.Page) (r s : Refs) {M N : Nat → Prop} (w : World) (hp : PageRd w M p r) (hq : PageRd w N q s) (a2 a3 : Int) (hpp : Sp.isPage p = false) :
    Calls Try.prog 4 #[.agg (pageV p r).toArray, .agg (pageV q s).toArray, .int .u16 a2, .int .u8 a3] w fun e w' => e = .returned (.bool true) ∧ Below w.heap.size w w' := by
  have S := Lib.hid (BkS.start hp hq)
  have HP := Lib.hid hpp
  clear hp hq hpp
  simp only [pageV] at *
  go_enter Try.func4, Try.ntmps4
  go_upto_region 3 with (go_at_call 13; refine (known_any _).mono ?_; rintro e w1 ⟨rfl, hb1⟩; replace S := Lib.hid (S.out.go hb1); clear hb1)
  go_wp2_with (first
    | (refine wpList_row PageT _ rfl w.heap.size rfl rfl PageT _ (0, 0) _ S.out.bp Try.underlying32 rfl rfl ?_)
    | (go_at_call 20; refine (bytes_any (M := M) p r _ S.out.rp).mono ?_; rintro e w7 ⟨rfl, hb2⟩; rw [Sp.bytes_no HP.out]; replace S := Lib.hid (S.out.go hb2); clear hb2)
    | (go_at_call 16; refine (isPage_any (M := M) p r _ S.out.rp).mono ?_; rintro e w7 ⟨rfl, hb2⟩; rw [HP.out]; replace S := Lib.hid (S.out.go hb2); clear hb2))
  go_ret
  exact ⟨rfl, S.out.hb⟩
/-- The bytes of a page with one byte xored. -/
theorem xor_byte (x : UInt8) (n : Int) (h0 : 0 ≤ n) (h1 : n ≤ 255) : ∃ c : UInt8, bits .xor .u8 (x.toNat : Int) n = (c.toNat : Int) ∧ (n = 0 → c = x) ∧ (n ≠ 0 → x ≠ c) := by
  have hx := x.toNat_lt
  obtain ⟨m, rfl⟩ := Int.eq_ofNat_of_zero_le h0
  have hm : m < 256 := by omega
  have hxm : x.toNat ^^^ m < 2 ^ 8 := Nat.xor_lt_two_pow (by omega) (by omega)
  refine ⟨UInt8.ofNat (x.toNat ^^^ m), ?_, ?_, ?_⟩
  · rw [u8_xor _ _ (by omega) (by omega) (by omega) (by omega), Int.toNat_natCast, Int.toNat_natCast, UInt8.toNat_ofNat', Nat.mod_eq_of_lt hxm]
  · intro h
    have hm0 : m = 0 := by omega
    subst hm0
    simp
  · intro h e
    have e2 := congrArg UInt8.toNat e
    rw [UInt8.toNat_ofNat', Nat.mod_eq_of_lt hxm] at e2
    have e3 : x.toNat ^^^ (x.toNat ^^^ m) = x.toNat ^^^ x.toNat := by rw [← e2]
    rw [← Nat.xor_assoc, Nat.xor_self, Nat.zero_xor] at e3
    omega
theorem set_split {l : Txt} {k : Nat} (hk : k < l.length) (c : UInt8) : l.set k c = l.take k ++ c :: l.drop (k + 1) := by
  rw [List.set_eq_take_append_cons_drop, if_pos hk]
theorem get_split {l : Txt} {k : Nat} (hk : k < l.length) : l = l.take k ++ l.getD k 0 :: l.drop (k + 1) := by
  have h := List.take_append_drop k l
  rw [List.drop_eq_getElem_cons hk] at h
  have e : l.getD k 0 = l[k] := by simp [List.getD, hk]
  rw [e]
  exact h.symm
/-- The same, and a third page that was read. -/
structure BkT (W0 : World) (M N : Nat → Prop) (p q : Sp.Page) (r s x : Refs) (g h k : Nat) (w : World) : Prop where
  s : BkS W0 M N p q r s g h w
  bx : Blk w k PageT (pageV p x).toArray
  rx : PageRd w NoM p x
theorem BkT.go {W0 : World} {M N : Nat → Prop} {p q : Sp.Page} {r s x : Refs} {g h k : Nat} {w w' : World} (t : BkT W0 M N p q r s x g h k w) (hb : Below w.heap.size w w') : BkT W0 M N p q r s x g h k w' :=
  ⟨t.s.go hb, t.bx.below hb t.bx.lt, t.rx.go hb⟩
set_option maxRecDepth 100000 in
set_option maxHeartbeats 1600000 in
theorem back_yes (p q : Sp.Page) (r s : Refs) {M N : Nat → Prop} (w : World) (hp : PageRd w M p r) (hq : PageRd w N q s) (a2 a3 : Int) (h20 : 0 ≤ a2) (h21 : a2 ≤ 65535) (h30 : 0 ≤ a3) (h31 : a3 ≤ 255) (hpp : Sp.isPage p = true) :
    Calls Try.prog 4 #[.agg (pageV p r).toArray, .agg (pageV q s).toArray, .int .u16 a2, .int .u8 a3] w fun e w' => e = .returned (.bool true) ∧ Below w.heap.size w w' := by
  have S := Lib.hid (BkS.start hp hq)
  have HP := Lib.hid hpp
  have HR := Lib.hid hp.rng
  have HR2 := Lib.hid hq.rng
  have hl0 := Sp.bytes_len hpp
  have hl1 := Sp.bytes_le hpp
  have HOK := Lib.hid (Sp.readOk_bytes hpp hp.rng)
  have HPB := Lib.hid (Sp.parse_bytes hpp hp.rng)
  clear hp hq hpp
  simp only [pageV] at *
  go_enter Try.func4, Try.ntmps4
  go_upto_region 3 with (go_at_call 13; refine (known_any _).mono ?_; rintro e w1 ⟨rfl, hb1⟩; replace S := Lib.hid (S.out.go hb1); clear hb1)
  go_upto_region 6 with (first
    | (refine wpList_row PageT _ rfl w.heap.size rfl rfl PageT _ (0, 0) _ S.out.bp Try.underlying32 rfl rfl ?_)
    | (go_at_call 20; refine (bytes_any (M := M) p r _ S.out.rp).mono ?_; rintro e w7 ⟨rfl, hb2⟩; replace S := Lib.hid (S.out.go hb2); clear hb2)
    | (go_at_call 16; refine (isPage_any (M := M) p r _ S.out.rp).mono ?_; rintro e w7 ⟨rfl, hb2⟩; rw [HP.out]; replace S := Lib.hid (S.out.go hb2); clear hb2))
  go_cut [10, 11] (fun s10 s11 W => ∃ k x, s10 = .pointer (some ⟨k, 0, none⟩) ∧ s11 = .nilIface ∧ BkT w M N p q r s x w.heap.size (w.heap.size + 1) k W)
  case first =>
    go_wp2_with (first
      | (go_at_call 14; refine (read_any (Sp.bytes p) _ (by omega)).mono ?_; rintro e w7 ⟨x, rfl, hx, hb2⟩; rw [readV_yes HOK.out, HPB.out]; replace S := Lib.hid (S.out.go hb2); have X := Lib.hid (hx NoM (fun _ _ h => h)); clear hb2 hx)
      | (refine wpList_new PageT _ _ rfl rfl rfl rfl rfl rfl _ rfl (of_decide_eq_true (by kernel_rfl)) (by kernel_rfl) (by kernel_rfl) (by kernel_rfl) ?_))
    go_meet
    case rel =>
      have hx2 := X.out
      rw [show readPg (Sp.bytes p) = p from by unfold readPg; rw [HOK.out, if_pos rfl, HPB.out]] at hx2
      have hal : Below w7.heap.size w7 (w7.alloc (.cells (pageV p x).toArray PageT)) := (Below.refl _ _).alloc (Nat.le_refl _) _
      exact ⟨w7.heap.size, x, rfl, rfl, S.out.go hal, Blk.new w7 _ _, hx2.go hal⟩
  case rest =>
    obtain ⟨k, x, rfl, rfl, ht⟩ := hcut
    obtain ⟨w1, rfl⟩ : ∃ W, W = wc := ⟨_, rfl⟩
    have T := Lib.hid ht
    clear ht S
    go_upto_region 7 with fail
    go_cut [60] (fun s60 W => s60 = .bool false ∧ Below w.heap.size w W)
    case first =>
      have hn1 : decide (((Sp.bytes p).length : Int) < 9) = false := by rw [decide_eq_false_iff_not]; omega
      have hn2 : decide ((Sp.bytes p).length < 9) = false := by rw [decide_eq_false_iff_not]; omega
      have C1 := Lib.hid (fun (w' : World) (h1 : PageRd w' NoM p x) (h2 : PageRd w' M p r) => show Calls Try.prog 18 #[.agg (pageV p x).toArray, .agg (pageV p r).toArray] w' (fun e w2 => e = .returned (.bool true) ∧ Below w'.heap.size w' w2) from by have h := samePage_any p p x r w' h1 h2; rw [show Sp.samePage p p = true from decide_eq_true rfl] at h; exact h)
      rcases hqq : Sp.isPage q with _ | _
      · have C2 := Lib.hid (fun (w' : World) (h1 : PageRd w' N q s) => show Calls Try.prog 16 #[.agg (pageV q s).toArray] w' (fun e w2 => e = .returned (.bool false) ∧ Below w'.heap.size w' w2) from by have h := isPage_any q s w' h1; rw [hqq] at h; exact h)
        clear hqq
        refine wp_region_row (by kernel_rfl) (by kernel_rfl) ?_
        repeat (first | go_big_quiet_skip | (refine wpQuiet_row PageT _ rfl k rfl rfl PageT _ (0, 0) _ (blk_after T.out.bx) Try.underlying32 rfl rfl ?_; simp only [Act.put, List.setIfInBounds_toArray, List.set_cons_succ, List.set_cons_zero]) | (refine wpQuiet_row PageT _ rfl w.heap.size rfl rfl PageT _ (0, 0) _ (blk_after T.out.s.bp) Try.underlying32 rfl rfl ?_; simp only [Act.put, List.setIfInBounds_toArray, List.set_cons_succ, List.set_cons_zero]) | (refine wpQuiet_row PageT _ rfl (w.heap.size + 1) rfl rfl PageT _ (0, 0) _ (blk_after T.out.s.bq) Try.underlying32 rfl rfl ?_; simp only [Act.put, List.setIfInBounds_toArray, List.set_cons_succ, List.set_cons_zero]) | (go_big_quiet_step (first | (go_at_call 18; exact after_call (Nat.le_refl _) (C1.out _ (T.out.rx.go (After.h _)) (T.out.s.rp.go (After.h _)))) | (go_at_call 16; exact after_call (Nat.le_refl _) (C2.out _ (T.out.s.rq.go (After.h _)))))))
        refine wpQuiet_nil ?_
        intro w2 hb2
        go_wp2_with fail
        go_meet
        case rel => exact ⟨rfl, T.out.s.hb.trans (hb2.mono T.out.s.hb.size)⟩
      · have C2 := Lib.hid (fun (w' : World) (h1 : PageRd w' N q s) => show Calls Try.prog 16 #[.agg (pageV q s).toArray] w' (fun e w2 => e = .returned (.bool true) ∧ Below w'.heap.size w' w2) from by have h := isPage_any q s w' h1; rw [hqq] at h; exact h)
        have hsm : Sp.samePage p q = (Sp.bytes q == Sp.bytes p) := by
          unfold Sp.samePage
          by_cases e : p = q
          · subst e; simp
          · rw [decide_eq_false e]
            exact (beq_eq_false_iff_ne.2 fun h => e (Sp.bytes_inj hqq HP.out HR2.out HR.out h).symm).symm
        have C3 := Lib.hid (fun (w' : World) (h1 : PageRd w' M p r) (h2 : PageRd w' N q s) => show Calls Try.prog 18 #[.agg (pageV p r).toArray, .agg (pageV q s).toArray] w' (fun e w2 => e = .returned (.bool (Sp.bytes q == Sp.bytes p)) ∧ Below w'.heap.size w' w2) from by have h := samePage_any p q r s w' h1 h2; rw [hsm] at h; exact h)
        clear hqq hsm
        refine wp_region_row (by kernel_rfl) (by kernel_rfl) ?_
        repeat (first | go_big_quiet_skip | (refine wpQuiet_row PageT _ rfl k rfl rfl PageT _ (0, 0) _ (blk_after T.out.bx) Try.underlying32 rfl rfl ?_; simp only [Act.put, List.setIfInBounds_toArray, List.set_cons_succ, List.set_cons_zero]) | (refine wpQuiet_row PageT _ rfl w.heap.size rfl rfl PageT _ (0, 0) _ (blk_after T.out.s.bp) Try.underlying32 rfl rfl ?_; simp only [Act.put, List.setIfInBounds_toArray, List.set_cons_succ, List.set_cons_zero]) | (refine wpQuiet_row PageT _ rfl (w.heap.size + 1) rfl rfl PageT _ (0, 0) _ (blk_after T.out.s.bq) Try.underlying32 rfl rfl ?_; simp only [Act.put, List.setIfInBounds_toArray, List.set_cons_succ, List.set_cons_zero]) | (go_big_quiet_step (first | (go_at_call_of 18 x; exact after_call (Nat.le_refl _) (C1.out _ (T.out.rx.go (After.h _)) (T.out.s.rp.go (After.h _)))) | (go_at_call_of 18 s; exact after_call (Nat.le_refl _) (C3.out _ (T.out.s.rp.go (After.h _)) (T.out.s.rq.go (After.h _)))) | (go_at_call 16; exact after_call (Nat.le_refl _) (C2.out _ (T.out.s.rq.go (After.h _)))) | (go_at_call 20; exact after_call (Nat.le_refl _) (bytes_any q s _ (T.out.s.rq.go (After.h _)))))))
        refine wpQuiet_nil ?_
        intro w2 hb2
        go_wp2_with fail
        go_meet
        case rel => exact ⟨rfl, T.out.s.hb.trans (hb2.mono T.out.s.hb.size)⟩
    case rest =>
      obtain ⟨rfl, hb⟩ := hcut
      obtain ⟨w2, rfl⟩ : ∃ W, W = wc := ⟨_, rfl⟩
      have HB := Lib.hid hb
      clear hb T
      go_upto_region 9 with fail
      have hk0 : 0 ≤ a2 % ((Sp.bytes p).length : Int) := Int.emod_nonneg _ (by omega)
      have hk1 : a2 % ((Sp.bytes p).length : Int) < ((Sp.bytes p).length : Int) := Int.emod_lt_of_pos _ (by omega)
      obtain ⟨c, hc, hc0, hc1⟩ := xor_byte ((Sp.bytes p).getD (a2 % ((Sp.bytes p).length : Int)).toNat 0) a3 h30 h31
      have HC0 := Lib.hid hc0
      have HC1 := Lib.hid hc1
      have HC := Lib.hid hc
      clear hc0 hc1 hc
      go_upto_region 12 with (refine wpList_to_bytes 9 48 5 _ rfl rfl (Sp.bytes p) rfl Try.underlying9 Try.underlying48 Try.underlying5 ?_; intro w3 cap hb3 hz3 hy3; have HY3 := Lib.hid hy3; have HB3 := Lib.hid hb3; have cy3 := hy3.cell (a2 % ((Sp.bytes p).length : Int)).toNat (by omega); have fy3 := hy3.froz (a2 % ((Sp.bytes p).length : Int)).toNat (by omega); clear hy3 hb3 hz3)
      refine wp_gen (fun W => Below w.heap.size w W ∧ ByS w2.heap.size ((Sp.bytes p).set (a2 % ((Sp.bytes p).length : Int)).toNat c) W) ⟨?_, ?_⟩ ?_
      · exact (HB.out.trans (HB3.out.mono HB.out.size)).setCell (p := ⟨w2.heap.size, _, none⟩) HB.out.size _
      · have hy := HY3.out.set_ (k := (a2 % ((Sp.bytes p).length : Int)).toNat) (by omega) c
        rw [← HC.out] at hy
        have eg : (Sp.bytes p).getD (a2 % ((Sp.bytes p).length : Int)).toNat 0 = (Sp.bytes p)[(a2 % ((Sp.bytes p).length : Int)).toNat]'(by omega) := by
          rw [List.getD_eq_getElem?_getD, List.getElem?_eq_getElem (by omega)]
          rfl
        rw [eg] at hy
        exact hy
      clear HY3 HB3 cy3 fy3 HB
      intro w4 hw4
      have hback := hw4.2.back (P := Try.prog) (cap := cap) 48 9 5 Try.underlying48 Try.underlying5 Try.underlying9 (n := (Sp.bytes p).length) (by simp)
      have HB := Lib.hid hw4.1
      have hoc : Sp.readOk ((Sp.bytes p).set (a2 % ((Sp.bytes p).length : Int)).toNat c) = decide (a3 = 0) := by
        have hkl : (a2 % ((Sp.bytes p).length : Int)).toNat < (Sp.bytes p).length := by omega
        by_cases h : a3 = 0
        · rw [HC0.out h, decide_eq_true h, set_split hkl, ← get_split hkl]
          exact HOK.out
        · rw [decide_eq_false h, set_split hkl]
          exact Sp.byte_no HP.out (get_split hkl) (HC1.out h)
      have hln : ((Sp.bytes p).set (a2 % ((Sp.bytes p).length : Int)).toNat c).length = (Sp.bytes p).length := by simp
      have hlx : ((Sp.bytes p).set (a2 % ((Sp.bytes p).length : Int)).toNat c).length ≤ 4611686018427387904 := by rw [hln]; omega
      have HOC := Lib.hid hoc
      have HLX := Lib.hid hlx
      clear hw4 hoc hln hlx HC HC0 HC1
      generalize (Sp.bytes p).set (a2 % ((Sp.bytes p).length : Int)).toNat c = sc at *
      have hless : Sp.readOk ((Sp.bytes p).take ((Sp.bytes p).length - 1)) = false := by
        refine Sp.less_no HP.out HR.out (t := (Sp.bytes p).drop ((Sp.bytes p).length - 1)) ?_ (List.take_append_drop _ _).symm
        intro h
        have := congrArg List.length h
        simp only [List.length_drop, List.length_nil] at this
        omega
      have hmore : Sp.readOk (Sp.bytes p ++ [0]) = false := Sp.more_no HP.out HR.out (by simp)
      have HLE := Lib.hid hless
      have HMO := Lib.hid hmore
      clear hless hmore
      rcases hz : decide (a3 = 0) with _ | _
      · have h3 : ¬ a3 = 0 := of_decide_eq_false hz
        have h3b : (a3 == 0) = false := beq_eq_false_iff_ne.2 h3
        rw [hz] at HOC
        clear hz h3
        go_cut [15] (fun s15 W => s15 = .iface 44 (.int .i64 12) ∧ Below w.heap.size w W)
        case first =>
          go_wp2_with (first
          | (go_at_call 14; refine (read_any (sc) _ (by exact HLX.out)).mono ?_; rintro e w7 ⟨x, rfl, hx, hb2⟩; rw [readV_no HOC.out]; have HBX := Lib.hid (HB.out.trans (hb2.mono HB.out.size)); clear hb2 hx)
          | (refine wpList_new PageT _ _ rfl rfl rfl rfl rfl rfl _ rfl (of_decide_eq_true (by kernel_rfl)) (by kernel_rfl) (by kernel_rfl) (by kernel_rfl) ?_))
          go_meet
          case rel => exact ⟨rfl, HBX.out.alloc HBX.out.size _⟩
        case rest =>
          obtain ⟨rfl, hb⟩ := hcut
          obtain ⟨w5, rfl⟩ : ∃ W, W = wc := ⟨_, rfl⟩
          replace HB := Lib.hid hb
          clear hb hback
          go_upto_region 13 with fail
          go_cut [17] (fun s17 W => s17 = .iface 44 (.int .i64 12) ∧ Below w.heap.size w W)
          case first =>
            go_wp2_with (first
          | (go_at_call 14; refine (read_any ((Sp.bytes p).take ((Sp.bytes p).length - 1)) _ (by simp; omega)).mono ?_; rintro e w7 ⟨x, rfl, hx, hb2⟩; rw [readV_no HLE.out]; have HBX := Lib.hid (HB.out.trans (hb2.mono HB.out.size)); clear hb2 hx)
          | (refine wpList_new PageT _ _ rfl rfl rfl rfl rfl rfl _ rfl (of_decide_eq_true (by kernel_rfl)) (by kernel_rfl) (by kernel_rfl) (by kernel_rfl) ?_))
            go_meet
            case rel => exact ⟨rfl, HBX.out.alloc HBX.out.size _⟩
          case rest =>
            obtain ⟨rfl, hb⟩ := hcut
            obtain ⟨w6, rfl⟩ : ∃ W, W = wc := ⟨_, rfl⟩
            replace HB := Lib.hid hb
            clear hb
            go_upto_region 14 with fail
            go_cut [19] (fun s19 W => s19 = .iface 44 (.int .i64 12) ∧ Below w.heap.size w W)
            case first =>
              go_wp2_with (first
          | (go_at_call 14; refine (read_any (Sp.bytes p ++ [0]) _ (by simp; omega)).mono ?_; rintro e w7 ⟨x, rfl, hx, hb2⟩; rw [readV_no HMO.out]; have HBX := Lib.hid (HB.out.trans (hb2.mono HB.out.size)); clear hb2 hx)
          | (refine wpList_new PageT _ _ rfl rfl rfl rfl rfl rfl _ rfl (of_decide_eq_true (by kernel_rfl)) (by kernel_rfl) (by kernel_rfl) (by kernel_rfl) ?_))
              go_meet
              case rel => exact ⟨rfl, HBX.out.alloc HBX.out.size _⟩
            case rest =>
              obtain ⟨rfl, hb⟩ := hcut
              obtain ⟨w8, rfl⟩ : ∃ W, W = wc := ⟨_, rfl⟩
              replace HB := Lib.hid hb
              clear hb
              go_wp2_with (go_at_call 22; refine (errIs_same 12 _).mono ?_; rintro e w7 ⟨rfl, rfl⟩)
              go_ret
              exact ⟨rfl, HB.out⟩
      · have h3 : a3 = 0 := of_decide_eq_true hz
        have h3b : (a3 == 0) = true := beq_iff_eq.2 h3
        rw [hz] at HOC
        clear hz
        have H3 := Lib.hid h3
        clear h3
        go_cut [15] (fun s15 W => s15 = .nilIface ∧ Below w.heap.size w W)
        case first =>
          go_wp2_with (first
          | (go_at_call 14; refine (read_any (sc) _ (by exact HLX.out)).mono ?_; rintro e w7 ⟨x, rfl, hx, hb2⟩; rw [readV_yes HOC.out]; have HBX := Lib.hid (HB.out.trans (hb2.mono HB.out.size)); clear hb2 hx)
          | (refine wpList_new PageT _ _ rfl rfl rfl rfl rfl rfl _ rfl (of_decide_eq_true (by kernel_rfl)) (by kernel_rfl) (by kernel_rfl) (by kernel_rfl) ?_))
          go_meet
          case rel => exact ⟨rfl, HBX.out.alloc HBX.out.size _⟩
        case rest =>
          obtain ⟨rfl, hb⟩ := hcut
          obtain ⟨w5, rfl⟩ : ∃ W, W = wc := ⟨_, rfl⟩
          replace HB := Lib.hid hb
          clear hb hback
          go_upto_region 13 with fail
          go_cut [17] (fun s17 W => s17 = .iface 44 (.int .i64 12) ∧ Below w.heap.size w W)
          case first =>
            go_wp2_with (first
          | (go_at_call 14; refine (read_any ((Sp.bytes p).take ((Sp.bytes p).length - 1)) _ (by simp; omega)).mono ?_; rintro e w7 ⟨x, rfl, hx, hb2⟩; rw [readV_no HLE.out]; have HBX := Lib.hid (HB.out.trans (hb2.mono HB.out.size)); clear hb2 hx)
          | (refine wpList_new PageT _ _ rfl rfl rfl rfl rfl rfl _ rfl (of_decide_eq_true (by kernel_rfl)) (by kernel_rfl) (by kernel_rfl) (by kernel_rfl) ?_))
            go_meet
            case rel => exact ⟨rfl, HBX.out.alloc HBX.out.size _⟩
          case rest =>
            obtain ⟨rfl, hb⟩ := hcut
            obtain ⟨w6, rfl⟩ : ∃ W, W = wc := ⟨_, rfl⟩
            replace HB := Lib.hid hb
            clear hb
            go_upto_region 14 with fail
            go_cut [19] (fun s19 W => s19 = .iface 44 (.int .i64 12) ∧ Below w.heap.size w W)
            case first =>
              go_wp2_with (first
          | (go_at_call 14; refine (read_any (Sp.bytes p ++ [0]) _ (by simp; omega)).mono ?_; rintro e w7 ⟨x, rfl, hx, hb2⟩; rw [readV_no HMO.out]; have HBX := Lib.hid (HB.out.trans (hb2.mono HB.out.size)); clear hb2 hx)
          | (refine wpList_new PageT _ _ rfl rfl rfl rfl rfl rfl _ rfl (of_decide_eq_true (by kernel_rfl)) (by kernel_rfl) (by kernel_rfl) (by kernel_rfl) ?_))
              go_meet
              case rel => exact ⟨rfl, HBX.out.alloc HBX.out.size _⟩
            case rest =>
              obtain ⟨rfl, hb⟩ := hcut
              obtain ⟨w8, rfl⟩ : ∃ W, W = wc := ⟨_, rfl⟩
              replace HB := Lib.hid hb
              clear hb
              go_wp2_with (go_at_call 22; refine (errIs_same 12 _).mono ?_; rintro e w7 ⟨rfl, rfl⟩)
              go_ret
              exact ⟨rfl, HB.out⟩
theorem back_any (p q : Sp.Page) (r s : Refs) {M N : Nat → Prop} (w : World) (hp : PageRd w M p r) (hq : PageRd w N q s) (a2 a3 : Int) (h20 : 0 ≤ a2) (h21 : a2 ≤ 65535) (h30 : 0 ≤ a3) (h31 : a3 ≤ 255) :
    Calls Try.prog 4 #[.agg (pageV p r).toArray, .agg (pageV q s).toArray, .int .u16 a2, .int .u8 a3] w fun e w' => e = .returned (.bool true) ∧ Below w.heap.size w w' := by
  rcases h : Sp.isPage p with _ | _
  · exact back_no p q r s w hp hq a2 a3 h
  · exact back_yes p q r s w hp hq a2 a3 h20 h21 h30 h31 h
end Go.Proofs.Ytienlhckcpfknaa
namespace Go.Proofs.Ytienlhckcpfknaa
open Go.RowKit
attribute [local go_sem low] mk_extract
attribute [local go_sem] After.cell After.frozen mk_extract_end ByteArray.mk_append_mk
theorem ByS.of_blk {w : World} {b : Nat} {t : TypeId} {l : List UInt8} {cs : Array Value} (h : Blk w b t cs) (hc : cs = (l.map fun c => Value.int .u8 (c.toNat : Int)).toArray) : ByS b l w := by
  subst hc
  exact ⟨h.lt, fun i hi => by rw [h.cell i]; simp [List.getD, hi], fun i _ => h.frozen i⟩
theorem wpList_from_bytes {P : Program} {ops : Array Oper} {rest : List Oper} {o : Oper} {a : Act} {w : World} {Q : Exit → Act → World → Prop} (src dst e : TypeId) (x : Operand) (ho : o.op = .convert src dst x) (hgd : o.guard = none)
    (b cap n : Nat) (l : List UInt8) (hx : a.eval x = .slice (some ⟨b, 0, none⟩) n cap) (hn : n = l.length) (hs : P.underlying src = some (.slice e)) (he : P.underlying e = some (.int .u8)) (hd : P.underlying dst = some .string) (hB : ByS b l w)
    (h : wpList P ops Q rest (a.put o.dst (.string ⟨l.toArray⟩)) w) : wpList P ops Q (o :: rest) a w := by
  refine wpList_plain hgd fun K hK => ?_
  unfold Oper.wp execOp
  simp only [ho, hx, Sem.run_bind, hB.back src dst e hs he hd hn, Result.andThen_ok]
  exact hK _ _ h
theorem byte_of (k : Nat) (h : k < 256) : Value.int .u8 (k : Int) = .int .u8 ((UInt8.ofNat k).toNat : Int) := by
  rw [UInt8.toNat_ofNat', Nat.mod_eq_of_lt h]
theorem byte97 (k : Nat) (h : k < 100) : Value.int .u8 (97 + (k : Int)) = .int .u8 ((97 + UInt8.ofNat k).toNat : Int) := by
  have : (97 + UInt8.ofNat k).toNat = 97 + k := by
    rw [UInt8.toNat_add, UInt8.toNat_ofNat']
    show (97 + k % 256) % 256 = _
    omega
  rw [this]
  congr 1
/-- Behind an append a block that is not the row's is as it was. -/
theorem Blk.grown {w w' : World} {g : Nat} {t : TypeId} {cs : Array Value} {v : Value} {base : Nat} (h : Blk w g t cs) (hg : w.grownBy w' v.ownBlock) (hb : ∀ k, v.ownBlock = some k → base ≤ k) (hgb : g < base) : Blk w' g t cs :=
  h.chg (S := fun k => v.ownBlock = some k) (Chg.of_grown hg (fun k hk => .inl hk)) (fun e => by have := hb g e; omega)
/-- One page, in a block of its own. -/
structure OneS (W0 : World) (M : Nat → Prop) (p : Sp.Page) (r : Refs) (g : Nat) (w : World) : Prop where
  hb : Below W0.heap.size W0 w
  bp : Blk w g PageT (pageV p r).toArray
  rp : PageRd w M p r
theorem OneS.go {W0 : World} {M : Nat → Prop} {p : Sp.Page} {r : Refs} {g : Nat} {w w' : World} (k : OneS W0 M p r g w) (hb : Below w.heap.size w w') : OneS W0 M p r g w' :=
  ⟨k.hb.trans (hb.mono k.hb.size), k.bp.below hb k.bp.lt, k.rp.go hb⟩
/-- The same, and a page that was read. -/
structure TwoS (W0 : World) (M : Nat → Prop) (p q : Sp.Page) (r x : Refs) (g k : Nat) (w : World) : Prop where
  s : OneS W0 M p r g w
  bx : Blk w k PageT (pageV q x).toArray
  rx : PageRd w NoM q x
theorem TwoS.go {W0 : World} {M : Nat → Prop} {p q : Sp.Page} {r x : Refs} {g k : Nat} {w w' : World} (t : TwoS W0 M p q r x g k w) (hb : Below w.heap.size w w') : TwoS W0 M p q r x g k w' :=
  ⟨t.s.go hb, t.bx.below hb t.bx.lt, t.rx.go hb⟩
theorem TwoS.read {W0 : World} {M : Nat → Prop} {p q : Sp.Page} {r x : Refs} {g : Nat} {w : World} (s : OneS W0 M p r g w) (hx : PageRd w NoM q x) : TwoS W0 M p q r x g w.heap.size (w.alloc (.cells (pageV q x).toArray PageT)) :=
  have hal : Below w.heap.size w (w.alloc (.cells (pageV q x).toArray PageT)) := (Below.refl _ _).alloc (Nat.le_refl _) _
  ⟨s.go hal, Blk.new w _ _, hx.go hal⟩
theorem readPg_yes {s : Txt} (h : Sp.readOk s = true) : readPg s = Sp.parse s := by unfold readPg; rw [h, if_pos rfl]
theorem cell_one_at {w : World} {g : Nat} {t : TypeId} {u : Value} (h : Blk w g t #[u]) : ∀ j v, [u][j]? = some v → w.cell? ((⟨g, 0, none⟩ : Addr).add j) = some v := fun j v hv => by
  rcases j with _ | j
  · simp only [List.getElem?_cons_zero, Option.some.injEq] at hv
    subst hv
    rw [show (⟨g, 0, none⟩ : Addr).add 0 = ⟨g, 0, none⟩ from rfl]
    exact (h.cell 0).trans rfl
  · simp at hv
theorem nb_grown {w w' : World} {b base size n : Nat} {e t : TypeId} {v : Value} {xs : List Value} {cs : Array Value} (h : Blk w b t cs) (ho : w.ownsRow base e size v n xs) (hg : w.grownBy w' v.ownBlock) (hne : e ≠ t) : Blk w' b t cs :=
  h.chg (S := fun k => v.ownBlock = some k) (Chg.of_grown hg (fun k hk => .inl hk)) (fun e => own_not ho hne b e _ h)
end Go.Proofs.Ytienlhckcpfknaa
namespace Go.Proofs.Ytienlhckcpfknaa
open Go.RowKit
attribute [local go_sem low] mk_extract
attribute [local go_sem] After.cell After.frozen mk_extract_end ByteArray.mk_append_mk
namespace Sp
def itL (k : Txt) : Item := ⟨k, 1, [], 0, 0, [], 0, root0⟩
def keyL (j : Nat) : Txt := [107, 97 + UInt8.ofNat j]
def leafL (n : Nat) : List Item := (List.range n).map fun j => itL (keyL j)
def pgL (l : List Item) : Page := ⟨1, l, [], [], [], [], [], 0, mt0⟩
def zL (j : Nat) : Txt := List.replicate j 122
theorem zL_len (j : Nat) : (zL j).length = j := by simp [zL]
theorem zL_succ (j : Nat) : zL (j + 1) = zL j ++ [122] := by unfold zL; rw [List.replicate_succ']
def gdN (k : Nat) : Bool := decide (1 ≤ k ∧ k ≤ 4)
def gdM (n m : Nat) : Bool := decide (n + 1 ≤ 4) && decide (1 ≤ m ∧ m ≤ 8)
def leafA : Nat → Nat → List Item
  | 0, _ => []
  | n + 1, m => leafL n ++ [itL (zL m)]
theorem leafA_is : ∀ n, n < 6 → ∀ m, m < 12 → isPage (pgL (leafA (n + 1) m)) = gdM n m := by decide +kernel
theorem leafB_no : ∀ n, n < 6 → isPage (pgL (leafL (n + 1) ++ [itL (keyL n)])) = false := by decide +kernel
theorem leaf0_no : isPage (pgL []) = false := by decide +kernel
end Sp
def lfC (v : Value) : Array Value := #[.int .i64 1, v, .slice none 0 0, .slice none 0 0, .string ⟨#[]⟩, .slice none 0 0, .slice none 0 0, .int .i64 0, .int .u64 0, .int .i64 0, .int .i64 0, .int .i64 0, .int .i64 0, .int .i64 0]
/-- A leaf in the making, block g. -/
structure LeafI (W0 : World) (g : Nat) (l : List Sp.Item) (w : World) : Prop where
  hb : Below W0.heap.size W0 w
  hg : W0.heap.size ≤ g
  ex : ∃ v xs, Blk w g PageT (lfC v) ∧ w.ownsRow (g + 1) ItemT 10 v l.length xs ∧ ItCells w (g + 1) l xs
theorem LeafI.below {W0 : World} {g : Nat} {l : List Sp.Item} {w w' : World} (h : LeafI W0 g l w) (hb : Below w.heap.size w w') : LeafI W0 g l w' := by
  have hk : Chg NoM w w' := .of_below hb
  refine ⟨h.hb.trans (hb.mono h.hb.size), h.hg, ?_⟩
  obtain ⟨v, xs, hL, ho, hi⟩ := h.ex
  exact ⟨v, xs, hL.chg hk id, own_chg ho hk (fun _ _ => id), hi.chg hk (fun _ _ h => h.elim)⟩
theorem LeafI.pg {W0 : World} {g : Nat} {l : List Sp.Item} {w : World} (h : LeafI W0 g l w) (hl : l.length ≤ 1000) : ∃ r, Blk w g PageT (pageV (Sp.pgL l) r).toArray ∧ PageRd w NoM (Sp.pgL l) r := by
  obtain ⟨v, xs, hL, ho, hi⟩ := h.ex
  obtain ⟨A, c, rfl⟩ := own_form ho
  have hx := hi.len
  refine ⟨⟨A, none, none, none, none, c, 0, 0, 0, 0⟩, hL, ⟨Items.of_cells (TRow.of_own ho (by omega)) hi (fun _ _ => id) (by show l.length ≤ _; omega), Row.nil_, Row.nil_, Row.nil_, Frees.nil_, by simp [Sp.pgL, Sp.mt0]⟩⟩
theorem LeafI.start {W0 w : World} (hb : Below W0.heap.size W0 w) : LeafI W0 w.heap.size [] (w.alloc (.cells (lfC (.slice none 0 0)) PageT)) :=
  ⟨hb.alloc hb.size _, hb.size, .slice none 0 0, [], Blk.new w _ _, World.ownsRow_nil _ _ _ _, rfl⟩
theorem LeafI.next {W0 w W2 w' : World} {g : Nat} {l : List Sp.Item} {v v' : Value} {xs : List Value} {x : Sp.Item} (hb : Below W0.heap.size W0 w) (hg : W0.heap.size ≤ g) (hL : Blk w g PageT (lfC v)) (ho : w.ownsRow (g + 1) ItemT 10 v l.length xs) (hi : ItCells w (g + 1) l xs)
    (hk : Below w.heap.size w W2) (hown : w'.ownsRow (g + 1) ItemT 10 v' (l.length + 1) (xs ++ itemV x none 0)) (hgr : W2.grownBy w' v.ownBlock) (hx : x.vals = []) : LeafI W0 g (l ++ [x]) (w'.setCell ⟨g, 1, none⟩ v') := by
  have hkm : Chg NoM w W2 := .of_below hk
  have ho2 := own_chg ho hkm (fun _ _ => id)
  have hbk : ∀ k, v.ownBlock = some k → g + 1 ≤ k := fun k hk => (ho2.lt k hk).1
  have hL2 : Blk W2 g PageT (lfC v) := hL.chg hkm id
  have hc2 : Chg (fun k => v.ownBlock = some k) W2 w' := Chg.of_grown hgr (fun k hk => .inl hk)
  have hL3 : Blk w' g PageT (lfC v) := hL2.grown hgr hbk (by omega)
  have hs1 := Chg.set1 w' g 1 v'
  refine ⟨?_, hg, v', xs ++ itemV x none 0, ?_, ?_, ?_⟩
  · have h1 : Below W0.heap.size W0 W2 := hb.trans (hk.mono hb.size)
    have h2 : Below W0.heap.size W2 w' := hc2.below h1.size (fun k hk e => by have := hbk k e; omega)
    exact (h1.trans h2).setCell (p := ⟨g, 1, none⟩) hg v'
  · have := hL3.set_ 1 v'
    simpa [lfC] using this
  · have := own_chg hown hs1 (fun k hk e => by unfold OneM at e; omega)
    simpa using this
  · have h1 : ItCells W2 (g + 1) l xs := hi.chg hkm (fun _ _ h => h.elim)
    have h2 : ItCells w' (g + 1) l xs := h1.chg hc2 (fun k hk e => own_not ho2 (by decide) k e)
    have h3 : ItCells (w'.setCell ⟨g, 1, none⟩ v') (g + 1) l xs := h2.chg hs1 (fun k hk e => by unfold OneM at e; omega)
    refine h3.snoc ?_
    rw [hx]
    exact ⟨by simp, .inl rfl⟩
theorem Sp.leafL_succ (k : Nat) : Sp.leafL (k + 1) = Sp.leafL k ++ [Sp.itL (Sp.keyL k)] := by
  unfold Sp.leafL
  rw [List.range_succ, List.map_append]
  rfl
theorem getD_map' {α : Type} (F : Nat → α) (d : α) {n k : Nat} (h : k < n) : ((List.range n).map F).getD k d = F k := by
  simp [List.getD, h]
theorem Sp.leafL_len (k : Nat) : (Sp.leafL k).length = k := by simp [Sp.leafL]
theorem ItCells.split {w : World} {b0 : Nat} {x : Sp.Item} : ∀ {l : List Sp.Item} {xs : List Value}, ItCells w b0 (l ++ [x]) xs → ∃ ys V c, xs = ys ++ itemV x V c ∧ ItCells w b0 l ys ∧ TRow w b0 StrT V (x.vals.map tv)
  | [], xs, ⟨V, c, ys, e, ht, h⟩ => ⟨[], V, c, by rw [e, show ys = [] from h]; simp, rfl, ht⟩
  | y :: l, xs, ⟨V, c, ys, e, ht, h⟩ => by
    obtain ⟨zs, V', c', e', hz, ht'⟩ := ItCells.split (l := l) h
    exact ⟨itemV y V c ++ zs, V', c', by rw [e, e']; simp, ⟨V, c, zs, rfl, ht, hz⟩, ht'⟩
theorem LeafI.last {W0 : World} {g : Nat} {l : List Sp.Item} {x : Sp.Item} {w : World} (h : LeafI W0 g (l ++ [x]) w) :
    ∃ b c, w.cell? ⟨g, 1, none⟩ = some (.slice (some ⟨b, 0, none⟩) (l.length + 1) c) ∧ w.frozen? ⟨g, 1, none⟩ = false ∧ w.cell? ⟨b, l.length * 10, none⟩ = some (.string ⟨x.key.toArray⟩) ∧ w.frozen? ⟨b, l.length * 10, none⟩ = false ∧
      (∀ j, j < l.length → w.cell? ⟨b, j * 10, none⟩ = some (.string ⟨(l.getD j Sp.item0).key.toArray⟩)) ∧ ∀ s : Txt, LeafI W0 g (l ++ [{ x with key := s }]) (w.setCell ⟨b, l.length * 10, none⟩ (.string ⟨s.toArray⟩)) := by
  obtain ⟨v, xs, hL, ho, hi⟩ := h.ex
  have hll : (l ++ [x]).length = l.length + 1 := by simp
  rw [hll] at ho
  obtain ⟨b, c, rfl, _, _⟩ := ho.form (by omega)
  obtain ⟨ys, V, c', rfl, hy, ht⟩ := hi.split
  have hyl := hy.len
  have hxl : (ys ++ itemV x V c').length = (l.length + 1) * 10 := by rw [List.length_append, hyl]; simp [itemV]; omega
  have hb := ho.lt b rfl
  have hset : ∀ u : Value, (ys ++ itemV x V c').set (l.length * 10) u = ys ++ (itemV x V c').set 0 u := fun u => by
    rw [List.set_append_right _ _ (by omega), hyl, Nat.sub_self]
  refine ⟨b, c, hL.cell 1, hL.frozen 1, ?_, ho.frozenAt _, fun j hj => ?_, fun s => ?_⟩
  · rw [ho.cellAt _ (by omega), List.getElem?_append_right (by omega), hyl, Nat.sub_self]
    rfl
  · obtain ⟨V2, c2, _, hc2⟩ := hy.at_ j hj
    have := hc2 0 _ rfl
    rw [Nat.add_zero] at this
    rw [ho.cellAt _ (by omega), List.getElem?_append_left (by omega), this]
  · have hst := ho.stored (l.length * 10) (.string ⟨s.toArray⟩)
    have hk : Chg (OneM b) w (w.setCell ⟨b, l.length * 10, none⟩ (.string ⟨s.toArray⟩)) := Chg.set1 w b _ _
    rw [hset] at hst
    have hbi := h.hb.size
    refine ⟨h.hb.setCell (p := ⟨b, l.length * 10, none⟩) (by have := h.hg; show _ ≤ b; omega) _, h.hg, .slice (some ⟨b, 0, none⟩) (l.length + 1) c, ys ++ itemV { x with key := s } V c', hL.far (p := ⟨b, l.length * 10, none⟩) (by show g ≠ b; omega) _, ?_, ?_⟩
    · have e2 : (l ++ [{ x with key := s }]).length = l.length + 1 := by simp
      rw [e2]
      exact hst.1
    · have hno : ∀ k, g + 1 ≤ k → OneM b k → ∀ cs, ¬ Blk w k StrT cs := fun k _ e => by
        unfold OneM at e
        subst e
        exact own_not ho (by decide) k rfl
      exact ItCells.snoc (x := { x with key := s }) (ht.chg hk hno) (hy.chg hk hno)
set_option maxRecDepth 100000 in
set_option maxHeartbeats 1600000 in
theorem leafs_walk (a0 a1 : Int) (a2 : Bool) (h00 : 0 ≤ a0) (h01 : a0 ≤ 255) (h10 : 0 ≤ a1) (h11 : a1 ≤ 255) (w : World) :
    Calls Try.prog 5 #[.int .u8 a0, .int .u8 a1, .bool a2] w fun e w' => e = .returned (.bool true) ∧ Below w.heap.size w w' := by
  obtain ⟨i0, hi0, hz0, hz1, hz2⟩ := info_parts info_item
  obtain ⟨N, hN⟩ : ∃ N : Nat, a0 % 7 = (N : Int) := ⟨(a0 % 7).toNat, by omega⟩
  have hN6 : N ≤ 6 := by omega
  have HN := Lib.hid hN
  clear hN
  go_enter Try.func5, Try.ntmps5
  go_upto_region 3 with (go_at_call 13; refine (known_any _).mono ?_; rintro e w1 ⟨rfl, hb1⟩)
  have HB1 := Lib.hid hb1
  clear hb1
  go_cut [7] (fun s7 W => s7 = .int .i64 (N : Int) ∧ Below w.heap.size w W)
  case first =>
    go_wp2_with fail
    go_meet
    case rel => exact ⟨by rw [HN.out], HB1.out⟩
  case rest =>
    obtain ⟨rfl, hb⟩ := hcut
    obtain ⟨w2, rfl⟩ : ∃ W, W = wc := ⟨_, rfl⟩
    have HB := Lib.hid hb
    clear hb HB1
    go_upto_region 4 with fail
    go_cut [8] (fun s8 W => s8 = .pointer (some ⟨w2.heap.size, 0, none⟩) ∧ LeafI w w2.heap.size [] W)
    case first =>
      go_wp2_with (refine wpList_new PageT _ _ rfl rfl rfl rfl rfl rfl _ rfl (of_decide_eq_true (by kernel_rfl)) (by kernel_rfl) (by kernel_rfl) (by kernel_rfl) ?_)
      go_meet
      case rel => exact ⟨rfl, LeafI.start HB.out⟩
    case rest =>
      obtain ⟨rfl, hs⟩ := hcut
      obtain ⟨w3, rfl⟩ : ∃ W, W = wc := ⟨_, rfl⟩
      have S := Lib.hid hs
      clear hs HB
      generalize w2.heap.size = g at *
      go_wp2_with fail
      go_loopw [9] (fun i wr => ∃ k : Nat, k ≤ N ∧ i = .int .i64 k ∧ LeafI w g (Sp.leafL k) wr) (fun i _ => N - (intOf i).toNat)
      case atStart => exact ⟨0, Nat.zero_le _, rfl, S.out⟩
      case round =>
        obtain ⟨k, hk, rfl, hs⟩ := hrel
        have R := Lib.hid hs
        clear hs S
        by_cases hkn : k < N
        · obtain ⟨v, xs, hL, ho, hi⟩ := R.out.ex
          have hv : wr.cell? ⟨g, 1, none⟩ = some v := hL.cell 1
          have fv := hL.frozen 1
          have HL := Lib.hid hL
          have HO := Lib.hid ho
          have HI := Lib.hid hi
          clear hL ho hi
          have hbb := byte97 k (by omega)
          have HBB := Lib.hid hbb
          clear hbb
          have hll := Sp.leafL_len k
          have HLL := Lib.hid hll
          clear hll
          go_wp2_with (first
            | (refine wpList_from_bytes 48 9 5 _ rfl rfl wr.heap.size 1 1 [97 + UInt8.ofNat k] rfl rfl Try.underlying48 Try.underlying5 Try.underlying9 ?_ ?_; (refine ByS.of_blk (Blk.new wr _ _) ?_; rw [List.map_cons, List.map_nil, ← HBB.out]))
            | (at_builtin; refine wpList_append_own _ rfl _ _ 22 rfl (g + 1) ItemT i0 _ 10 112 Try.underlying22 hi0 hz0 hz1 hz2 rfl (by decide) v (Sp.leafL k).length xs rfl ?c0 ⟨wr.heap.size + 1, 0, none⟩ 1 1 (itemV (Sp.itL (Sp.keyL k)) none 0) rfl rfl ?c1 ?c2 ?c3 ?c4 ?c5 ?_))
          case c0 => exact (HO.out.alloc _).alloc _
          case c1 =>
            have h := news_of (wr.alloc (.cells #[.int .u8 (97 + (k : Int))] 5)) (itemV (Sp.itL (Sp.keyL k)) none 0).toArray ItemT
            simp only [World.size_alloc] at h
            exact h
          case c2 => exact fun u hu => by simp only [itemV, List.mem_cons, List.not_mem_nil, or_false] at hu; rcases hu with rfl | rfl | rfl | rfl | rfl | rfl | rfl | rfl | rfl | rfl <;> rfl
          case c3 => rw [HLL.out]; simp only [maxLen]; omega
          case c4 => rw [HLL.out]; omega
          case c5 => have := HL.out.lt; simp; omega
          intro v' w' hown' hgr' _
          obtain ⟨A', c', hv'⟩ := own_form hown'
          subst hv'
          have hk2 : Below wr.heap.size wr ((wr.alloc (.cells #[.int .u8 (97 + (k : Int))] 5)).alloc (.cells (itemV (Sp.itL (Sp.keyL k)) none 0).toArray ItemT)) := ((Below.refl _ _).alloc (Nat.le_refl _) _).alloc (by simp) _
          have hnx := LeafI.next (x := Sp.itL (Sp.keyL k)) R.out.hb R.out.hg HL.out HO.out HI.out hk2 hown' hgr' rfl
          rw [← Sp.leafL_succ] at hnx
          have HNX := Lib.hid hnx
          have hbk : ∀ i, v.ownBlock = some i → g + 1 ≤ i := fun i hi => (HO.out.lt i hi).1
          have hL3 : Blk w' g PageT (lfC v) := (HL.out.chg (.of_below hk2 : Chg NoM _ _) id).grown hgr' hbk (by omega)
          have hv3 : w'.cell? ⟨g, 1, none⟩ = some v := hL3.cell 1
          have fv3 := hL3.frozen 1
          clear hnx hL3 hown' hgr' hk2 hbk
          go_wp2_with fail
          go_roundw
          case rel => exact ⟨k + 1, by omega, by go_num, HNX.out⟩
          case measure => simp [intOf]; omega
        · have hkk : k = N := by omega
          subst hkk
          clear HN
          go_upto_region 9 with fail
          go_cut [10] (fun s10 W => s10 = .bool (Sp.gdN k) ∧ LeafI w g (Sp.leafL k) W)
          case first =>
            by_cases hk1 : 1 ≤ k
            all_goals
              go_wp2_with fail
              go_meet
              case rel => exact ⟨congrArg Value.bool (by unfold Sp.gdN; rw [Bool.eq_iff_iff]; simp only [decide_eq_true_eq, Bool.false_eq_true]; constructor <;> intro hh <;> first | exact hh.elim | omega), R.out⟩
          case rest =>
            obtain ⟨rfl, hs⟩ := hcut
            obtain ⟨w4, rfl⟩ : ∃ W, W = wc := ⟨_, rfl⟩
            have S := Lib.hid hs
            clear hs R
            go_upto_if 45 with fail
            go_cut [10] (fun s10 W => ∃ M, M < 12 ∧ s10 = .bool (Sp.isPage (Sp.pgL (Sp.leafA k M))) ∧ LeafI w g (Sp.leafA k M) W)
            case first =>
              rcases k with _ | n
              · go_wp2_with fail
                go_meet
                case rel => exact ⟨0, by omega, congrArg Value.bool Sp.leaf0_no.symm, S.out⟩
              · have hS := S.out
                rw [Sp.leafL_succ] at hS
                obtain ⟨b, c, hv, fv, hc, fc, hpr, hset⟩ := hS.last
                rw [Sp.leafL_len] at hv hc fc hset
                have HS := Lib.hid hset
                clear hset hpr hS
                obtain ⟨M, hM⟩ : ∃ M : Nat, a1 % 12 = (M : Int) := ⟨(a1 % 12).toNat, by omega⟩
                have hM12 : M < 12 := by omega
                have HM := Lib.hid hM
                clear hM
                go_upto_region 11 with fail
                go_cut [11] (fun s11 W => s11 = .int .i64 (M : Int) ∧ W = w4)
                case first =>
                  go_wp2_with fail
                  go_meet
                  case rel => exact ⟨by rw [HM.out], rfl⟩
                case rest =>
                  obtain ⟨rfl, rfl⟩ := hcut
                  clear HM
                  go_wp2_with fail
                  go_loop [12] (fun s => ∃ j : Nat, j ≤ M ∧ s = .string ⟨(Sp.zL j).toArray⟩) (fun s => match s with | .string b => M - b.size | _ => 0)
                  case atStart => exact ⟨0, Nat.zero_le _, rfl⟩
                  case round =>
                    obtain ⟨j, hj, rfl⟩ := hrel
                    have hlz := Sp.zL_len j
                    by_cases hjm : j < M
                    · have HZ := Lib.hid (Sp.zL_succ j)
                      go_wp2_with fail
                      refine ⟨⟨j + 1, by omega, by rw [HZ.out]⟩, ?_⟩
                      show M - ByteArray.size _ < M - ByteArray.size _
                      simp only [ByteArray.size, List.size_toArray, List.length_append, List.length_cons, List.length_nil, hlz]
                      omega
                    · have hjj : j = M := by omega
                      clear hlz
                      subst hjj
                      have hlz := Sp.zL_len j
                      go_upto_region 16 with fail
                      refine wp_gen (fun W => LeafI w g (Sp.leafA (n + 1) j) W) ?_ ?_
                      · exact HS.out (Sp.zL j)
                      intro w5 hs5
                      go_cut [10] (fun s10 W => s10 = .bool (Sp.gdM n j) ∧ W = w5)
                      case first =>
                        have hgd : Sp.gdN (n + 1) = decide (n + 1 ≤ 4) := by unfold Sp.gdN; rw [Bool.eq_iff_iff]; simp
                        have hgm : Sp.gdM n j = (decide (n + 1 ≤ 4) && decide (1 ≤ j ∧ j ≤ 8)) := rfl
                        have HGM := Lib.hid hgm
                        clear hgm
                        rw [hgd]
                        clear hgd
                        by_cases hn4 : n + 1 ≤ 4
                        · have hnd : decide (n + 1 ≤ 4) = true := decide_eq_true hn4
                          rw [hnd] at HGM ⊢
                          by_cases hj1 : 1 ≤ j
                          all_goals
                            go_wp2_with fail
                            go_meet
                            case rel => exact ⟨congrArg Value.bool (by rw [HGM.out, Bool.true_and, Bool.eq_iff_iff]; simp only [decide_eq_true_eq, Bool.false_eq_true]; constructor <;> intro hh <;> first | exact hh.elim | omega), rfl⟩
                        · have hnd : decide (n + 1 ≤ 4) = false := decide_eq_false hn4
                          rw [hnd] at HGM ⊢
                          go_wp2_with fail
                          go_meet
                          case rel => exact ⟨congrArg Value.bool (by rw [HGM.out, Bool.false_and]), rfl⟩
                      case rest =>
                        obtain ⟨rfl, rfl⟩ := hcut
                        go_wp2_with fail
                        go_meet
                        case rel => exact ⟨j, hM12, congrArg Value.bool (Sp.leafA_is n (by omega) j hM12).symm, hs5⟩
            case rest =>
              obtain ⟨M, hM12, rfl, hs⟩ := hcut
              obtain ⟨w5, rfl⟩ : ∃ W, W = wc := ⟨_, rfl⟩
              clear S
              have S := Lib.hid hs
              clear hs
              go_upto_region 17 with fail
              have hcb : ∃ cb : Bool, cb = (a2 && decide (2 ≤ k)) := ⟨_, rfl⟩
              obtain ⟨cb, hcb⟩ := hcb
              have HCB := Lib.hid hcb
              clear hcb
              go_cut [75] (fun s75 W => s75 = .bool cb ∧ W = w5)
              case first =>
                rcases a2 with _ | _
                · go_wp2_with fail
                  go_meet
                  case rel => exact ⟨congrArg Value.bool (by rw [HCB.out, Bool.false_and]), rfl⟩
                · go_wp2_with fail
                  go_meet
                  case rel => exact ⟨congrArg Value.bool (by rw [HCB.out, Bool.true_and, Bool.eq_iff_iff]; simp only [decide_eq_true_eq]; constructor <;> intro hh <;> omega), rfl⟩
              case rest =>
                obtain ⟨rfl, rfl⟩ := hcut
                have hlA : (Sp.leafA k M).length ≤ 6 := by
                  rcases k with _ | n
                  · simp [Sp.leafA]
                  · simp [Sp.leafA, Sp.leafL_len]; omega
                have HLA := Lib.hid hlA
                clear hlA
                go_upto_if 75 with fail
                go_cut [10] (fun s10 W => ∃ l : List Sp.Item, l.length ≤ 6 ∧ s10 = .bool (Sp.isPage (Sp.pgL l)) ∧ LeafI w g l W)
                case first =>
                  rcases hcbq : cb with _ | _
                  · go_wp2_with fail
                    go_meet
                    case rel => exact ⟨Sp.leafA k M, HLA.out, rfl, S.out⟩
                  · have hk2 : 2 ≤ k := by
                      have h := HCB.out
                      rw [hcbq] at h
                      have h2 := h.symm
                      simp only [Bool.and_eq_true, decide_eq_true_eq] at h2
                      exact h2.2
                    clear hcbq
                    obtain ⟨n, rfl⟩ : ∃ n, k = n + 2 := ⟨k - 2, by omega⟩
                    have hS : LeafI w g (Sp.leafL (n + 1) ++ [Sp.itL (Sp.zL M)]) wc := S.out
                    obtain ⟨b, c, hv, fv, hc, fc, hpr, hset⟩ := hS.last
                    have hp2 := hpr n (by rw [Sp.leafL_len]; omega)
                    rw [Sp.leafL_len] at hv hc fc hset
                    have hkn : ((Sp.leafL (n + 1)).getD n Sp.item0).key = Sp.keyL n := by
                      unfold Sp.leafL
                      rw [getD_map' _ _ (by omega)]
                      rfl
                    rw [hkn] at hp2
                    have HS := Lib.hid (hset (Sp.keyL n))
                    clear hset hpr hkn hS
                    go_upto_region 18 with fail
                    go_cut [8] (fun s8 W => s8 = .pointer (some ⟨g, 0, none⟩) ∧ LeafI w g (Sp.leafL (n + 1) ++ [Sp.itL (Sp.keyL n)]) W)
                    case first =>
                      go_region
                      all_goals
                        go_wp2_with fail
                        go_meet
                        case rel => exact ⟨rfl, HS.out.below ((Below.refl _ _).drew)⟩
                    case rest =>
                      obtain ⟨rfl, hs⟩ := hcut
                      go_wp2_with fail
                      go_meet
                      case rel => exact ⟨_, by simp [Sp.leafL_len]; omega, congrArg Value.bool (Sp.leafB_no n (by omega)).symm, hs⟩
                case rest =>
                  obtain ⟨l, hl6, rfl, hs⟩ := hcut
                  obtain ⟨w6, rfl⟩ : ∃ W, W = wc := ⟨_, rfl⟩
                  obtain ⟨r, hbp, hrp⟩ := hs.pg (by omega)
                  have hrng := hrp.rng
                  have S := Lib.hid (⟨hs.hb, hbp, hrp⟩ : OneS w NoM (Sp.pgL l) r g w6)
                  clear hs hbp hrp
                  go_upto_region 20 with fail
                  rcases hgb : Sp.isPage (Sp.pgL l) with _ | _
                  · have HP := Lib.hid hgb
                    clear hgb
                    go_cut [13, 14] (fun s13 s14 W => s14 = .iface 44 (.int .i64 12) ∧ OneS w NoM (Sp.pgL l) r g W)
                    case first =>
                      go_wp2_with (first
                        | (refine wpList_row PageT _ rfl g rfl rfl PageT _ (0, 0) _ S.out.bp Try.underlying32 rfl rfl ?_)
                        | (go_at_call 20; refine (bytes_any (M := NoM) (Sp.pgL l) r _ S.out.rp).mono ?_; rintro e w7 ⟨rfl, hb2⟩; rw [Sp.bytes_no HP.out]; replace S := Lib.hid (S.out.go hb2); clear hb2)
                        | (go_at_call 14; refine (read_any [] _ (by simp)).mono ?_; rintro e w8 ⟨x, rfl, hx, hb2⟩; rw [kn_readV0]; replace S := Lib.hid (S.out.go hb2); clear hb2 hx)
                        | (refine wpList_new PageT _ _ rfl rfl rfl rfl rfl rfl _ rfl (of_decide_eq_true (by kernel_rfl)) (by kernel_rfl) (by kernel_rfl) (by kernel_rfl) ?_))
                      go_meet
                      case rel => exact ⟨rfl, S.out.go ((Below.refl _ _).alloc (Nat.le_refl _) _)⟩
                    case rest =>
                      obtain ⟨rfl, hs⟩ := hcut
                      obtain ⟨w9, rfl⟩ : ∃ W, W = wc := ⟨_, rfl⟩
                      replace S := Lib.hid hs
                      clear hs
                      go_wp2_with (first
                        | (refine wpList_row PageT _ rfl g rfl rfl PageT _ (0, 0) _ S.out.bp Try.underlying32 rfl rfl ?_)
                        | (go_at_call 16; refine (isPage_any (M := NoM) (Sp.pgL l) r _ S.out.rp).mono ?_; rintro e w7 ⟨rfl, hb2⟩; rw [HP.out]; replace S := Lib.hid (S.out.go hb2); clear hb2)
                        | (go_at_call 22; refine (errIs_same 12 _).mono ?_; rintro e w7 ⟨rfl, rfl⟩))
                      go_ret
                      exact ⟨rfl, S.out.hb⟩
                  · have HP := Lib.hid hgb
                    have HOK := Lib.hid (Sp.readOk_bytes hgb hrng)
                    have HPB := Lib.hid (Sp.parse_bytes hgb hrng)
                    have hbl := Sp.bytes_le hgb
                    clear hgb
                    go_cut [13, 14] (fun s13 s14 W => ∃ k x, s13 = .pointer (some ⟨k, 0, none⟩) ∧ s14 = .nilIface ∧ TwoS w NoM (Sp.pgL l) (Sp.pgL l) r x g k W)
                    case first =>
                      go_wp2_with (first
                        | (refine wpList_row PageT _ rfl g rfl rfl PageT _ (0, 0) _ S.out.bp Try.underlying32 rfl rfl ?_)
                        | (go_at_call 20; refine (bytes_any (M := NoM) (Sp.pgL l) r _ S.out.rp).mono ?_; rintro e w7 ⟨rfl, hb2⟩; replace S := Lib.hid (S.out.go hb2); clear hb2)
                        | (go_at_call 14; refine (read_any (Sp.bytes (Sp.pgL l)) _ (by omega)).mono ?_; rintro e w8 ⟨x, rfl, hx, hb2⟩; rw [readV_yes HOK.out, HPB.out]; replace S := Lib.hid (S.out.go hb2); have X := Lib.hid (hx NoM (fun _ _ h => h)); clear hb2 hx)
                        | (refine wpList_new PageT _ _ rfl rfl rfl rfl rfl rfl _ rfl (of_decide_eq_true (by kernel_rfl)) (by kernel_rfl) (by kernel_rfl) (by kernel_rfl) ?_))
                      go_meet
                      case rel =>
                        have hx := X.out
                        rw [readPg_yes HOK.out, HPB.out] at hx
                        exact ⟨_, x, rfl, rfl, TwoS.read S.out hx⟩
                    case rest =>
                      obtain ⟨k', x, rfl, rfl, ht⟩ := hcut
                      obtain ⟨w9, rfl⟩ : ∃ W, W = wc := ⟨_, rfl⟩
                      have T := Lib.hid ht
                      clear ht S
                      go_wp2_with (first
                        | (refine wpList_row PageT _ rfl g rfl rfl PageT _ (0, 0) _ T.out.s.bp Try.underlying32 rfl rfl ?_)
                        | (refine wpList_row PageT _ rfl k' rfl rfl PageT _ (0, 0) _ T.out.bx Try.underlying32 rfl rfl ?_)
                        | (go_at_call 16; refine (isPage_any (M := NoM) (Sp.pgL l) r _ T.out.s.rp).mono ?_; rintro e w7 ⟨rfl, hb2⟩; rw [HP.out]; replace T := Lib.hid (T.out.go hb2); clear hb2)
                        | (go_at_call 18; refine (samePage_any (M := NoM) (N := NoM) (Sp.pgL l) (Sp.pgL l) r x _ T.out.s.rp T.out.rx).mono ?_; rintro e w7 ⟨rfl, hb2⟩; rw [show Sp.samePage (Sp.pgL l) (Sp.pgL l) = true from decide_eq_true rfl]; replace T := Lib.hid (T.out.go hb2); clear hb2))
                      go_ret
                      exact ⟨rfl, T.out.s.hb⟩
end Go.Proofs.Ytienlhckcpfknaa
