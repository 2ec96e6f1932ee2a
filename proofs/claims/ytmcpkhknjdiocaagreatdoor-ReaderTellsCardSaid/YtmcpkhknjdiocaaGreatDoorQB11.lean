/- Reading: page.Read, case 3. Reading: page.Read, its contract. The plain law: what is written is read (pages as bytes, no program in sight). The plain law: a byte changed, one less, one more, and the bytes are no page's. Metas: the plain side, a version's page. -/
import Derived.Test.YtmcpkhknjdiocaaGreatDoorQB00
import Derived.Test.YtmcpkhknjdiocaaGreatDoorQB09
import Derived.Test.YtmcpkhknjdiocaaGreatDoorQB10
set_option linter.unusedSimpArgs false
set_option linter.unusedVariables false
namespace Go.Proofs.YtmcpkhknjdiocaaGreatDoor
open Go.RowKit
attribute [local go_sem low] mk_extract
attribute [local go_sem] After.cell After.frozen mk_extract_end ByteArray.mk_append_mk
set_option maxRecDepth 100000 in
set_option maxHeartbeats 1600000 in
theorem read3 (b0 : UInt8) (s0 s : Txt) (w : World) (hs : s.length ≤ 4611686018427387904) (HS0 : Hid (s = b0 :: s0)) (HBB : Hid (Sp.bytes (Sp.parse s) = s)) :
    Calls Tryz.prog 152 #[.string ⟨s.toArray⟩] w fun e w' => ∃ r, e = .returned (readV s r) ∧ (∀ M : Nat → Prop, (∀ k, w.heap.size ≤ k → ¬ M k) → PageRd w' M (readPg s) r) ∧ Below w.heap.size w w' := by
  have H0 := Lib.hid (Sp.Cut.u64_len ⟨s, false⟩)
  go_enter Tryz.func152, Tryz.ntmps152
  go_wp2_with (go_at_call 175; refine (cutNew_any s _).mono ?_; rintro e w1 ⟨rfl, hw1⟩)
  have B0 := Lib.hid (((Blk.new w PageT (zPage 0)).alloc (.cells #[.string ⟨s.toArray⟩, badV false] 274)).alloc (.cells #[.pointer (some ⟨w.heap.size + 1, 0, none⟩)] 270))
  have C0 := Lib.hid ((blk_second w (.cells (zPage 0) PageT) 274 #[.string ⟨s.toArray⟩, badV false]).alloc (.cells #[.pointer (some ⟨w.heap.size + 1, 0, none⟩)] 270))
  have R0 := Lib.hid (Blk.new ((w.alloc (.cells (zPage 0) PageT)).alloc (.cells #[.string ⟨s.toArray⟩, badV false] 274)) 270 #[.pointer (some ⟨w.heap.size + 1, 0, none⟩)])
  have K0 := Lib.hid ((((Chg.refl (OneM (w.heap.size + 1)) w).alloc (.cells (zPage 0) PageT)).alloc (.cells #[.string ⟨s.toArray⟩, badV false] 274)).alloc (.cells #[.pointer (some ⟨w.heap.size + 1, 0, none⟩)] 270))
  refine (cutNum_any (w.heap.size + 1) s false _ hs C0.out).mono ?_
  rintro e w1 ⟨rfl, hc1, hk1⟩
  have hz1 := hk1.size
  simp only [World.size_alloc] at hz1
  have B1 := Lib.hid (B0.out.chg hk1 (by unfold OneM; omega))
  have R1 := Lib.hid (R0.out.chg hk1 (by unfold OneM; simp))
  have r1 := R1.out.at1
  simp only [World.size_alloc] at r1
  have K1 := Lib.hid (K0.out.trans hk1)
  have C1 := Lib.hid (show CutAt w1 (w.heap.size + 1) (Sp.Cut.u64 ⟨s, false⟩).2.s (Sp.Cut.u64 ⟨s, false⟩).2.bad from hc1)
  clear hc1 hk1
  go_wp2_with fail
  refine (rdPage_any (w.heap.size + 1) (Sp.Cut.u64 ⟨s, false⟩).2 _ (Nat.le_trans H0.out hs) C1.out).mono ?_
  rintro e w2 ⟨r, rfl, hp, hc2, hk2⟩
  rw [show (Sp.Cut.u64 ⟨s, false⟩).2.page.1 = Sp.parse s from rfl] at *
  have hz2 := hk2.size
  have K2 := Lib.hid (K1.out.trans hk2)
  have B2 := Lib.hid (B1.out.chg hk2 (by unfold OneM; omega))
  have HP := Lib.hid (fun M h => (hp M h).chg ((Chg.refl M w2).alloc (.cells (pageV (Sp.parse s) r).toArray PageT)))
  have HO := Lib.hid (show Sp.readOk s = (decide (s ≠ []) && decide (Sp.bytes (Sp.parse s) = s)) from rfl)
  have HRV := Lib.hid (show readV s = fun r => if Sp.readOk s then .tuple #[.agg (pageV (Sp.parse s) r).toArray, .nilIface] else .tuple #[.agg (pageV Sp.pg0 r).toArray, .iface 120 (.int .i64 12)] from rfl)
  have HRP := Lib.hid (show readPg s = if Sp.readOk s then Sp.parse s else Sp.pg0 from rfl)
  have hs0 := HS0.out
  have hok : Sp.readOk s = decide (Sp.bytes (Sp.parse s) = s) := by unfold Sp.readOk; simp [hs0]
  have HOK := Lib.hid hok
  clear hok
  clear HS0
  subst hs0
  have hsz2 : w.heap.size < w2.heap.size := by omega
  have hq0 := hp
  have HPP := Lib.hid (rfl : Sp.parse (b0 :: s0) = Sp.parse (b0 :: s0))
  generalize hpp : Sp.parse (b0 :: s0) = p at *
  have HPE := Lib.hid hpp
  clear hpp HPP
  have B3 := Lib.hid (B2.out.alloc (.cells #[.int .i64 p.kind, .slice r.I p.items.length r.i, .slice r.K p.keys.length r.k, .slice r.D p.kids.length r.d, .string ⟨p.text.toArray⟩, .slice r.V p.vals.length r.v, .slice r.F p.free.length r.f, .int .i64 p.next, .int .u64 p.mt.txn, .int .i64 p.mt.main.page, .int .i64 p.mt.main.count, .int .i64 p.mt.main.flags, .int .i64 p.mt.free, .int .i64 p.mt.last] PageT))
  have P3 := Lib.hid (Blk.new w2 PageT #[.int .i64 p.kind, .slice r.I p.items.length r.i, .slice r.K p.keys.length r.k, .slice r.D p.kids.length r.d, .string ⟨p.text.toArray⟩, .slice r.V p.vals.length r.v, .slice r.F p.free.length r.f, .int .i64 p.next, .int .u64 p.mt.txn, .int .i64 p.mt.main.page, .int .i64 p.mt.main.count, .int .i64 p.mt.main.flags, .int .i64 p.mt.free, .int .i64 p.mt.last])
  have K3 := Lib.hid (K2.out.alloc (.cells #[.int .i64 p.kind, .slice r.I p.items.length r.i, .slice r.K p.keys.length r.k, .slice r.D p.kids.length r.d, .string ⟨p.text.toArray⟩, .slice r.V p.vals.length r.v, .slice r.F p.free.length r.f, .int .i64 p.next, .int .u64 p.mt.txn, .int .i64 p.mt.main.page, .int .i64 p.mt.main.count, .int .i64 p.mt.main.flags, .int .i64 p.mt.free, .int .i64 p.mt.last] PageT))
  have HP := Lib.hid (fun M h => (hp M h).chg ((Chg.refl M w2).alloc (.cells #[.int .i64 p.kind, .slice r.I p.items.length r.i, .slice r.K p.keys.length r.k, .slice r.D p.kids.length r.d, .string ⟨p.text.toArray⟩, .slice r.V p.vals.length r.v, .slice r.F p.free.length r.f, .int .i64 p.next, .int .u64 p.mt.txn, .int .i64 p.mt.main.page, .int .i64 p.mt.main.count, .int .i64 p.mt.main.flags, .int .i64 p.mt.free, .int .i64 p.mt.last] PageT)))
  have hsz3 : w2.heap.size < (w2.alloc (.cells #[.int .i64 p.kind, .slice r.I p.items.length r.i, .slice r.K p.keys.length r.k, .slice r.D p.kids.length r.d, .string ⟨p.text.toArray⟩, .slice r.V p.vals.length r.v, .slice r.F p.free.length r.f, .int .i64 p.next, .int .u64 p.mt.txn, .int .i64 p.mt.main.page, .int .i64 p.mt.main.count, .int .i64 p.mt.main.flags, .int .i64 p.mt.free, .int .i64 p.mt.last] PageT)).heap.size := by simp
  clear hp hq0 hc2 hk2 B2 K2
  have hb := HBB.out
  have HOK := Lib.hid (HOK.out.trans (decide_eq_true hb))
  simp only [pageV, mtV]
  go_upto_region 4 with fail
  generalize w2.alloc (.cells #[.int .i64 p.kind, .slice r.I p.items.length r.i, .slice r.K p.keys.length r.k, .slice r.D p.kids.length r.d, .string ⟨p.text.toArray⟩, .slice r.V p.vals.length r.v, .slice r.F p.free.length r.f, .int .i64 p.next, .int .u64 p.mt.txn, .int .i64 p.mt.main.page, .int .i64 p.mt.main.count, .int .i64 p.mt.main.flags, .int .i64 p.mt.free, .int .i64 p.mt.last] PageT) = w3 at *
  have hlw := P3.out.lt
  obtain ⟨⟨uua, uub, uuc, uud, uue, uuf, uug, uuh, uui, uuj, uuk, uul, uum, uun⟩, vva, vvb, vvc, vvd, vve, vvf, vvg, vvh, vvi, vvj, vvk, vvl, vvm, vvn⟩ := P3.out.at14
  go_wp2_with (go_at_call 178; refine (bytes_any (M := NoM) p r _ (HP.out _ (fun _ _ h => h))).mono ?_; rintro e w4 ⟨rfl, hb4⟩; have K4 := Lib.hid (Chg.trans K3.out (.of_below hb4)); have hz4 := hb4.size; have B4 := Lib.hid (B3.out.below hb4 B3.out.lt); have P4 := Lib.hid (P3.out.below hb4 P3.out.lt); have HP4 := Lib.hid (fun M h => (HP.out M h).chg (.of_below hb4)); obtain ⟨⟨za, zb, zc, zd, ze, zf, zg, zh, zi, zj, zk, zl, zm, zn⟩, qa, qb, qc, qd, qe, qf, qg, qh, qi, qj, qk, ql, qm, qn⟩ := B4.out.at14; obtain ⟨⟨xa, xb, xc, xd, xe, xf, xg, xh, xi, xj, xk, xl, xm, xn⟩, ya, yb, yc, yd, ye, yf, yg, yh, yi, yj, yk, yl, ym, yn⟩ := P4.out.at14; clear hb4 B3 P3 uua uub uuc uud uue uuf uug uuh uui uuj uuk uul uum uun vva vvb vvc vvd vve vvf vvg vvh vvi vvj vvk vvl vvm vvn)
  go_wp2
  refine bodyPost_ret (v := .tuple #[.agg (pageV p r).toArray, .nilIface]) (by simp [results, Tryz.results152, go_sem, za, zb, zc, zd, ze, zf, zg, zh, zi, zj, zk, zl, zm, zn, qa, qb, qc, qd, qe, qf, qg, qh, qi, qj, qk, ql, qm, qn, pageV, mtV]) rfl ⟨r, by simp [readV, HOK.out, HPE.out], fun M hM => ?_, ?_⟩
  · unfold readPg
    rw [HOK.out, if_pos rfl, HPE.out]
    refine PageRd.anti (M := fun k => M k ∨ k = w.heap.size) (PageRd.chg (HP4.out _ (fun k hk h => ?_)) ?_) (fun k h => .inl h)
    · rcases h with h | h
      · exact hM k (by omega) h
      · omega
    · iterate 14 (refine Chg.setCell ?_ (.inl (.inr rfl)) _)
      exact Chg.refl _ _
  refine Chg.below (S := OneM (w.heap.size + 1)) ?_ (Nat.le_refl _) (fun k hk e => by unfold OneM at e; omega)
  iterate 14 (refine Chg.setCell ?_ (.inr (by simp only; omega)) _)
  exact K4.out
end Go.Proofs.YtmcpkhknjdiocaaGreatDoor
namespace Go.Proofs.YtmcpkhknjdiocaaGreatDoor
open Go.RowKit
attribute [local go_sem low] mk_extract
attribute [local go_sem] After.cell After.frozen mk_extract_end ByteArray.mk_append_mk
theorem read_any (s : Txt) (w : World) (hs : s.length ≤ 4611686018427387904) :
    Calls Tryz.prog 152 #[.string ⟨s.toArray⟩] w fun e w' => ∃ r, e = .returned (readV s r) ∧ (∀ M : Nat → Prop, (∀ k, w.heap.size ≤ k → ¬ M k) → PageRd w' M (readPg s) r) ∧ Below w.heap.size w w' := by
  rcases hq : s with _ | ⟨b0, s0⟩
  · rw [← hq]
    exact read1 s w hs (Lib.hid hq)
  · rw [← hq]
    by_cases hb : Sp.bytes (Sp.parse s) = s
    · exact read3 b0 s0 s w hs (Lib.hid hq) (Lib.hid hb)
    · exact read2 b0 s0 s w hs (Lib.hid hq) (Lib.hid hb)
end Go.Proofs.YtmcpkhknjdiocaaGreatDoor
namespace Go.Proofs.YtmcpkhknjdiocaaGreatDoor
open Go.RowKit
attribute [local go_sem low] mk_extract
attribute [local go_sem] After.cell After.frozen mk_extract_end ByteArray.mk_append_mk
namespace Sp
/-- A reader that reads 'a' off the bytes 'b', whatever follows. -/
def Reads {α : Type} (f : Cut → α × Cut) (b : Txt) (a : α) : Prop := ∀ t, f ⟨b ++ t, false⟩ = (a, ⟨t, false⟩)
theorem take_app (b t : Txt) {n : Nat} (h : b.length = n) : Cut.take ⟨b ++ t, false⟩ n = b := by
  subst h
  unfold Cut.take
  rw [if_neg (by simp)]
  simp
theorem rest_app (b t : Txt) {n : Nat} (h : b.length = n) : Cut.rest ⟨b ++ t, false⟩ n = ⟨t, false⟩ := by
  subst h
  simp [Cut.rest]
theorem reads_u64 {n : Int} (h0 : 0 ≤ n) (h1 : n < 18446744073709551616) : Reads Cut.u64 (le8 n) n := fun t => by
  unfold Cut.u64
  rw [take_app _ _ (le8_length n), rest_app _ _ (le8_length n), le8, unle_leN 8 n h0 (by omega)]
theorem reads_num {n : Int} (h0 : 0 ≤ n) (h1 : n ≤ 1073741824) : Reads Cut.num (le8 n) n := fun t => by
  unfold Cut.num
  rw [take_app _ _ (le8_length n), rest_app _ _ (le8_length n), le8, unle_leN 8 n h0 (by omega), Int.min_eq_left h1]
theorem reads_text {s : Txt} (h : s.length ≤ 65535) : Reads Cut.text (text s) s := fun t => by
  have hc : cutText s = s := List.take_of_length_le h
  have hl : (leN 2 (s.length : Int)).length = 2 := leN_length _ _
  have hn : (Cut.lenOf (leN 2 (s.length : Int))).toNat = s.length := by
    rw [leN2 _ h]
    simp only [Cut.lenOf, List.getD_cons_zero, List.getD_cons_succ, UInt8.toNat_ofNat']
    omega
  unfold Cut.text text
  rw [hc]
  simp only [List.append_assoc]
  rw [take_app _ _ hl, rest_app _ _ hl, hn, take_app _ _ rfl, rest_app _ _ rfl]
  rw [if_neg (by intro h; rw [h] at hl; simp at hl)]
  simp
theorem eachN_reads {β : Type} {step : List β → Cut → List β × Cut} {enc : β → Txt} {l : List β} (h : ∀ x, x ∈ l → ∀ acc t, step acc ⟨enc x ++ t, false⟩ = (acc ++ [x], ⟨t, false⟩)) (t : Txt) :
    ∀ k, k ≤ l.length → eachN step k ([], ⟨(l.map enc).flatten ++ t, false⟩) = (l.take k, ⟨((l.drop k).map enc).flatten ++ t, false⟩)
  | 0, _ => by simp [eachN]
  | k + 1, hk => by
    have ih := eachN_reads h t k (by omega)
    rw [eachN_succ _ _ _ (by rw [ih]), ih]
    have hd : l.drop k = l[k] :: l.drop (k + 1) := List.drop_eq_getElem_cons (by omega)
    rw [hd, List.map_cons, List.flatten_cons, List.append_assoc, h _ (List.getElem_mem _), List.take_succ_eq_append_getElem (by omega)]
theorem eachN_all {β : Type} {step : List β → Cut → List β × Cut} {enc : β → Txt} {l : List β} (h : ∀ x, x ∈ l → ∀ acc t, step acc ⟨enc x ++ t, false⟩ = (acc ++ [x], ⟨t, false⟩)) (t : Txt) {n : Nat} (hn : n = l.length) :
    eachN step n ([], ⟨(l.map enc).flatten ++ t, false⟩) = (l, ⟨t, false⟩) := by
  subst hn
  rw [eachN_reads h t _ (Nat.le_refl _)]
  simp
theorem reads_vals {l : List Txt} (hl : l.length ≤ 1000) (h : ∀ s, s ∈ l → s.length ≤ 65535) : Reads Cut.vals (valsB l) l := fun t => by
  unfold Cut.vals valsB
  rw [List.append_assoc, reads_num (n := l.length) (by omega) (by omega) _]
  refine eachN_all (fun x hx acc t => ?_) t (by simp)
  unfold textStep
  rw [reads_text (h x hx)]
theorem reads_nums {l : List Int} (hl : l.length ≤ 1000) (h : ∀ n, n ∈ l → 0 ≤ n ∧ n ≤ 1073741824) : Reads Cut.nums (le8 l.length ++ numsB l) l := fun t => by
  unfold Cut.nums numsB
  rw [List.append_assoc, reads_num (n := l.length) (by omega) (by omega) _]
  refine eachN_all (fun x hx acc t => ?_) t (by simp)
  unfold numStep
  rw [reads_num (h x hx).1 (h x hx).2]
theorem reads_root {r : Root} (h : isRoot r = true) : Reads Cut.root (rootB r) r := fun t => by
  have hr := isRoot_rng h
  unfold Cut.root rootB
  simp only [List.append_assoc]
  rw [reads_num (by omega) (by omega), reads_num (by omega) (by omega), reads_num (by omega) (by omega)]
theorem reads_free {f : Free} (ht : 0 ≤ f.txn ∧ f.txn < 18446744073709551616) (hl : f.ids.length ≤ 1000) (h : ∀ n, n ∈ f.ids → 0 ≤ n ∧ n ≤ 1073741824) : Reads Cut.free (freeB f) f := fun t => by
  unfold Cut.free freeB
  have e : le8 f.txn ++ le8 f.ids.length ++ numsB f.ids ++ t = le8 f.txn ++ ((le8 f.ids.length ++ numsB f.ids) ++ t) := by simp only [List.append_assoc]
  rw [e, reads_u64 ht.1 ht.2]
  dsimp only
  rw [reads_nums hl h]
theorem isVals_mem {l : List Txt} {a b : Int} (h : isVals l a b = true) : ∀ s, s ∈ l → 1 ≤ s.length ∧ s.length ≤ 12 := fun s hs => by
  simp only [isVals, Bool.and_eq_true] at h
  obtain ⟨j, hj, rfl⟩ := List.getElem_of_mem hs
  have := allTo_iff.1 h.1.1 j hj
  simp only [valAt, Bool.and_eq_true, decide_eq_true_eq] at this
  simpa [List.getD, hj] using this.1
theorem isVals_len {l : List Txt} {a b : Int} (h : isVals l a b = true) : a ≤ l.length ∧ (l.length : Int) ≤ b := by
  simp only [isVals, Bool.and_eq_true, decide_eq_true_eq] at h
  exact ⟨h.1.2, h.2⟩
theorem isItem_val {x : Item} (h : isItem x = true) : x.key.length ≤ 8 ∧ x.val.length ≤ 12 ∧ (∀ s, s ∈ x.vals → s.length ≤ 65535) ∧ 1 ≤ x.kind := by
  simp only [isItem, sameItem, kindOk, short, Bool.and_eq_true, decide_eq_true_eq] at h
  obtain ⟨⟨hk8, ho⟩, hk⟩ := h
  obtain ⟨key, kind, val, run, len, vals, dup, rt⟩ := x
  simp only [own] at *
  by_cases h1 : kind = 1
  · simp only [h1, if_true, Item.mk.injEq, decide_eq_true_eq] at ho hk
    obtain ⟨_, _, _, rfl, rfl, rfl, rfl, rfl⟩ := ho
    exact ⟨hk8.2, hk, by simp, by omega⟩
  · rw [if_neg h1] at ho hk
    by_cases h2 : kind = 2
    · simp only [h2, if_true, Item.mk.injEq] at ho hk
      obtain ⟨_, _, rfl, _, _, rfl, rfl, rfl⟩ := ho
      exact ⟨hk8.2, by simp, by simp, by omega⟩
    · rw [if_neg h2] at ho hk
      by_cases h3 : kind = 3
      · simp only [h3, if_true, Item.mk.injEq] at ho hk
        obtain ⟨_, _, rfl, rfl, rfl, _, _, rfl⟩ := ho
        refine ⟨hk8.2, by simp, ?_, by omega⟩
        simp only [Bool.and_eq_true, Bool.or_eq_true, decide_eq_true_eq] at hk
        rcases hk with ⟨_, hv⟩ | ⟨rfl, _⟩
        · intro s hs
          have := isVals_mem hv s hs
          omega
        · simp
      · rw [if_neg h3] at ho hk
        by_cases h4 : kind = 4
        · simp only [h4, if_true, Item.mk.injEq] at ho hk
          obtain ⟨_, _, rfl, rfl, rfl, rfl, rfl, _⟩ := ho
          exact ⟨hk8.2, by simp, by simp, by omega⟩
        · rw [if_neg h4] at hk
          exact absurd hk (by simp)
theorem own_eq {x : Item} (h : isItem x = true) : x = own x := by
  simp only [isItem, sameItem, Bool.and_eq_true, decide_eq_true_eq] at h
  exact h.1.2
theorem reads_item {x : Item} (h : isItem x = true) : Reads Cut.item (itemB x) x := fun t => by
  have hr := isItem_rng h
  have hv := isItem_val h
  have ho := own_eq h
  unfold Cut.item itemB
  simp only [List.append_assoc]
  rw [reads_text (by omega)]
  dsimp only
  rw [reads_num (by omega) (by omega)]
  dsimp only
  by_cases h1 : x.kind = 1
  · rw [if_pos h1, if_pos h1, reads_text (by omega)]
    rw [own, if_pos h1] at ho
    rw [← ho]
  · rw [if_neg h1, if_neg h1]
    by_cases h2 : x.kind = 2
    · rw [if_pos h2, if_pos h2]
      simp only [List.append_assoc]
      rw [reads_num (by omega) (by omega)]
      dsimp only
      rw [reads_num (by omega) (by omega)]
      rw [own, if_neg h1, if_pos h2] at ho
      rw [← ho]
    · rw [if_neg h2, if_neg h2]
      by_cases h3 : x.kind = 3
      · rw [if_pos h3, if_pos h3]
        simp only [List.append_assoc]
        rw [reads_vals (by omega) hv.2.2.1]
        dsimp only
        rw [reads_num (by omega) (by omega)]
        rw [own, if_neg h1, if_neg h2, if_pos h3] at ho
        rw [← ho]
      · have h4 : x.kind = 4 := by omega
        rw [if_neg h3, if_neg h3, if_pos h4, reads_root hr.2.2.2.2.2.2.2.2.2]
        rw [own, if_neg h1, if_neg h2, if_neg h3, if_pos h4] at ho
        rw [← ho]
theorem isIDs_mem {l : List Int} (h : isIDs l = true) : ∀ n, n ∈ l → 2 ≤ n ∧ n < 400 := fun n hn => by
  obtain ⟨j, hj, rfl⟩ := List.getElem_of_mem hn
  have := allTo_iff.1 h j hj
  simp only [idAt, isID, Bool.and_eq_true, decide_eq_true_eq] at this
  simpa [List.getD, hj] using this.1
theorem isLeaf_mem {l : List Item} (h : isLeaf l = true) : l.length ≤ 4 ∧ ∀ x, x ∈ l → isItem x = true := by
  simp only [isLeaf, Bool.and_eq_true, decide_eq_true_eq] at h
  refine ⟨h.2, fun x hx => ?_⟩
  obtain ⟨j, hj, rfl⟩ := List.getElem_of_mem hx
  have := allTo_iff.1 h.1.1 j hj
  simp only [leafAt, Bool.and_eq_true] at this
  simpa [List.getD, hj] using this.1
theorem reads_items {l : List Item} (h : isLeaf l = true) : Reads Cut.items (le8 l.length ++ itemsB l) l := fun t => by
  have hl := isLeaf_mem h
  unfold Cut.items itemsB
  rw [List.append_assoc, reads_num (n := l.length) (by omega) (by omega) _]
  refine eachN_all (fun x hx acc t => ?_) t (by simp)
  unfold itemStep
  rw [reads_item (hl.2 x hx)]
theorem eachN_pairs {keys : List Txt} {kids : List Int} (hk : ∀ i, i < kids.length → (keys.getD i []).length ≤ 65535 ∧ 0 ≤ kids.getD i 0 ∧ kids.getD i 0 ≤ 1073741824) (hl : keys.length = kids.length) (t : Txt) :
    ∀ k, k ≤ kids.length → eachN keyStep k (([], []), ⟨kidsTo keys kids kids.length ++ t, false⟩) = ((keys.take k, kids.take k), ⟨(((List.range kids.length).drop k).map (kidB keys kids)).flatten ++ t, false⟩)
  | 0, _ => by simp [eachN, kidsTo]
  | k + 1, hk1 => by
    have ih := eachN_pairs hk hl t k (by omega)
    rw [eachN_succ _ _ _ (by rw [ih]), ih]
    have hd : (List.range kids.length).drop k = k :: (List.range kids.length).drop (k + 1) := by
      rw [List.drop_eq_getElem_cons (by simp; omega)]
      simp
    have hk2 := hk k (by omega)
    rw [hd, List.map_cons, List.flatten_cons, kidB]
    simp only [List.append_assoc]
    unfold keyStep
    dsimp only
    rw [reads_text hk2.1]
    dsimp only
    rw [reads_num hk2.2.1 hk2.2.2, List.take_succ_eq_append_getElem (by omega), List.take_succ_eq_append_getElem (by omega)]
    simp [List.getD, show k < kids.length by omega, show k < keys.length by omega]
theorem isBranch_all {p : Page} (h : isBranch p = true) : p.kids.length ≤ 4 ∧ p.keys.length = p.kids.length ∧ ∀ i, i < p.kids.length → (p.keys.getD i []).length ≤ 8 ∧ 2 ≤ p.kids.getD i 0 ∧ p.kids.getD i 0 < 400 := by
  simp only [isBranch, Bool.and_eq_true, decide_eq_true_eq] at h
  obtain ⟨⟨⟨⟨_, h1⟩, h2⟩, h3⟩, h4⟩ := h
  refine ⟨h1, h2, fun i hi => ?_⟩
  have := allTo_iff.1 h4 i hi
  simp only [branchAt, isID, short, Bool.and_eq_true, Bool.or_eq_true, decide_eq_true_eq] at this
  refine ⟨?_, this.1⟩
  rcases this.2 with rfl | h
  · rw [h3]; simp
  · exact h.1.2
theorem reads_keys {p : Page} (h : isBranch p = true) : Reads Cut.keys (le8 p.kids.length ++ kidsTo p.keys p.kids p.kids.length) (p.keys, p.kids) := fun t => by
  have hl := isBranch_all h
  unfold Cut.keys
  rw [List.append_assoc, reads_num (n := p.kids.length) (by omega) (by omega) _]
  dsimp only
  rw [Int.toNat_natCast, eachN_pairs (fun i hi => by have := hl.2.2 i hi; omega) hl.2.1 t _ (Nat.le_refl _)]
  have e0 : (List.range p.kids.length).drop p.kids.length = [] := by simp
  rw [e0, List.take_of_length_le (by omega), List.take_of_length_le (by omega)]
  rfl
/-- The numbers of versions that a page has lie in a word. -/
def Rng (p : Page) : Prop := (∀ f, f ∈ p.free → 0 ≤ f.txn ∧ f.txn < 18446744073709551616) ∧ 0 ≤ p.mt.txn ∧ p.mt.txn < 18446744073709551616
theorem total_mem {l : List Free} {f : Free} (h : f ∈ l) : f.ids.length ≤ total l := by
  unfold total
  induction l with
  | nil => simp at h
  | cons a l ih =>
    rcases List.mem_cons.1 h with rfl | h
    · simp
    · have := ih h
      simp only [List.map_cons, List.sum_cons]
      omega
theorem total_len {l : List Free} (h : ∀ f, f ∈ l → 1 ≤ f.ids.length) : l.length ≤ total l := by
  unfold total
  induction l with
  | nil => simp
  | cons a l ih =>
    have h1 := h a (by simp)
    have := ih fun f hf => h f (by simp [hf])
    simp only [List.map_cons, List.sum_cons, List.length_cons]
    omega
theorem isFree_mem {p : Page} (h : isFree p = true) : p.free.length ≤ 20 ∧ 0 ≤ p.next ∧ p.next < 400 ∧ ∀ f, f ∈ p.free → f.ids.length ≤ 20 ∧ isIDs f.ids = true := by
  simp only [isFree, noneOr, isID, Bool.and_eq_true, Bool.or_eq_true, decide_eq_true_eq] at h
  have hm : ∀ f, f ∈ p.free → 1 ≤ f.ids.length ∧ isIDs f.ids = true := fun f hf => by
    obtain ⟨j, hj, rfl⟩ := List.getElem_of_mem hf
    have := allTo_iff.1 h.1.1 j hj
    simp only [freeAt, Bool.and_eq_true, decide_eq_true_eq] at this
    have e : p.free.getD j free0 = p.free[j] := by simp [List.getD, hj]
    rw [e] at this
    exact ⟨List.length_pos_iff.2 this.1.1, this.2⟩
  have h1 := total_len fun f hf => (hm f hf).1
  refine ⟨by omega, by omega, by omega, fun f hf => ⟨?_, (hm f hf).2⟩⟩
  have := total_mem hf
  omega
theorem reads_frees {p : Page} (h : isFree p = true) (hr : Rng p) : Reads Cut.frees (le8 p.free.length ++ freesB p.free) p.free := fun t => by
  have hl := isFree_mem h
  unfold Cut.frees freesB
  rw [List.append_assoc, reads_num (n := p.free.length) (by omega) (by omega) _]
  refine eachN_all (fun x hx acc t => ?_) t (by simp)
  unfold freeStep
  have hx2 := hl.2.2.2 x hx
  rw [reads_free (hr.1 x hx) (by omega) fun n hn => by have := isIDs_mem hx2.2 n hn; omega]
theorem isMt_rng2 {m : Mt} (h : isMt m = true) : isRoot m.main = true ∧ 0 ≤ m.free ∧ m.free < 400 ∧ 2 ≤ m.last ∧ m.last ≤ 400 := by
  simp only [isMt, noneOr, isID, Bool.and_eq_true, Bool.or_eq_true, decide_eq_true_eq] at h
  refine ⟨h.1.1.1, by omega, by omega, by omega, by omega⟩
theorem reads_mt {m : Mt} (h : isMt m = true) (hr : 0 ≤ m.txn ∧ m.txn < 18446744073709551616) : Reads Cut.mt (mtB m) m := fun t => by
  have hm := isMt_rng2 h
  unfold Cut.mt mtB
  simp only [List.append_assoc]
  rw [reads_u64 hr.1 hr.2]
  dsimp only
  rw [reads_root hm.1]
  dsimp only
  rw [reads_num (by omega) (by omega)]
  dsimp only
  rw [reads_num (by omega) (by omega)]
theorem has_iff {p : Page} {a b c d e f g : Bool} (h : has p = [a, b, c, d, e, f, g]) : decide (p.items ≠ []) = a ∧ (decide (p.keys ≠ []) || decide (p.kids ≠ [])) = b ∧ decide (p.text ≠ []) = c ∧ decide (p.vals ≠ []) = d ∧ decide (p.free ≠ []) = e ∧ decide (p.next ≠ 0) = f ∧ decide (p.mt ≠ mt0) = g := by
  simpa only [has, List.cons.injEq, and_true] using h
theorem no_of {α : Type} [DecidableEq α] {a b : α} (h : decide (a ≠ b) = false) : a = b := by simpa using h
theorem reads_page {p : Page} (h : isPage p = true) (hr : Rng p) : Reads Cut.page (body p) p := fun t => by
  unfold Cut.page body partsB
  simp only [List.append_assoc]
  unfold isPage at h
  by_cases h1 : p.kind = 1
  · rw [if_pos h1, Bool.and_eq_true, decide_eq_true_eq] at h
    obtain ⟨hi, hk, ht, hv, hf, hn, hm⟩ := has_iff h.1
    simp only [Bool.or_eq_false_iff] at hk
    rw [reads_num (by omega) (by omega)]
    dsimp only
    rw [if_pos h1, if_pos h1, reads_items h.2]
    have e := (⟨no_of hk.1, no_of hk.2, no_of ht, no_of hv, no_of hf, no_of hn, no_of hm⟩ : p.keys = [] ∧ p.kids = [] ∧ p.text = [] ∧ p.vals = [] ∧ p.free = [] ∧ p.next = 0 ∧ p.mt = mt0)
    obtain ⟨kind, items, keys, kids, text, vals, free, next, mt⟩ := p
    simp only at e ⊢
    obtain ⟨rfl, rfl, rfl, rfl, rfl, rfl, rfl⟩ := e
    rfl
  rw [if_neg h1] at h
  by_cases h2 : p.kind = 2
  · rw [if_pos h2, Bool.and_eq_true, decide_eq_true_eq] at h
    obtain ⟨hi, hk, ht, hv, hf, hn, hm⟩ := has_iff h.1
    rw [reads_num (by omega) (by omega)]
    dsimp only
    rw [if_neg h1, if_pos h2, if_neg h1, if_pos h2, reads_keys h.2]
    have e := (⟨no_of hi, no_of ht, no_of hv, no_of hf, no_of hn, no_of hm⟩ : p.items = [] ∧ p.text = [] ∧ p.vals = [] ∧ p.free = [] ∧ p.next = 0 ∧ p.mt = mt0)
    obtain ⟨kind, items, keys, kids, text, vals, free, next, mt⟩ := p
    simp only at e ⊢
    obtain ⟨rfl, rfl, rfl, rfl, rfl, rfl⟩ := e
    rfl
  rw [if_neg h2] at h
  by_cases h3 : p.kind = 3
  · rw [if_pos h3, Bool.and_eq_true, decide_eq_true_eq, decide_eq_true_eq] at h
    obtain ⟨hi, hk, ht, hv, hf, hn, hm⟩ := has_iff h.1
    simp only [Bool.or_eq_false_iff] at hk
    rw [reads_num (by omega) (by omega)]
    dsimp only
    rw [if_neg h1, if_neg h2, if_pos h3, if_neg h1, if_neg h2, if_pos h3, reads_text (by omega)]
    have e := (⟨no_of hi, no_of hk.1, no_of hk.2, no_of hv, no_of hf, no_of hn, no_of hm⟩ : p.items = [] ∧ p.keys = [] ∧ p.kids = [] ∧ p.vals = [] ∧ p.free = [] ∧ p.next = 0 ∧ p.mt = mt0)
    obtain ⟨kind, items, keys, kids, text, vals, free, next, mt⟩ := p
    simp only at e ⊢
    obtain ⟨rfl, rfl, rfl, rfl, rfl, rfl, rfl⟩ := e
    rfl
  rw [if_neg h3] at h
  by_cases h4 : p.kind = 4
  · rw [if_pos h4, Bool.and_eq_true, decide_eq_true_eq] at h
    obtain ⟨hi, hk, ht, hv, hf, hn, hm⟩ := has_iff h.1
    simp only [Bool.or_eq_false_iff] at hk
    rw [reads_num (by omega) (by omega)]
    dsimp only
    have hvl := isVals_len h.2
    rw [if_neg h1, if_neg h2, if_neg h3, if_pos h4, if_neg h1, if_neg h2, if_neg h3, if_pos h4, reads_vals (by omega) fun s hs => by have := isVals_mem h.2 s hs; omega]
    have e := (⟨no_of hi, no_of hk.1, no_of hk.2, no_of ht, no_of hf, no_of hn, no_of hm⟩ : p.items = [] ∧ p.keys = [] ∧ p.kids = [] ∧ p.text = [] ∧ p.free = [] ∧ p.next = 0 ∧ p.mt = mt0)
    obtain ⟨kind, items, keys, kids, text, vals, free, next, mt⟩ := p
    simp only at e ⊢
    obtain ⟨rfl, rfl, rfl, rfl, rfl, rfl, rfl⟩ := e
    rfl
  rw [if_neg h4] at h
  by_cases h5 : p.kind = 5
  · rw [if_pos h5, Bool.and_eq_true, decide_eq_true_eq] at h
    obtain ⟨hi, hk, ht, hv, hf, hn, hm⟩ := has_iff h.1
    simp only [Bool.or_eq_false_iff] at hk
    have hfm := isFree_mem h.2
    rw [reads_num (by omega) (by omega)]
    dsimp only
    rw [if_neg h1, if_neg h2, if_neg h3, if_neg h4, if_pos h5, if_neg h1, if_neg h2, if_neg h3, if_neg h4, if_pos h5]
    have e2 : ∀ u, le8 p.free.length ++ (freesB p.free ++ le8 p.next) ++ u = (le8 p.free.length ++ freesB p.free) ++ (le8 p.next ++ u) := fun u => by simp only [List.append_assoc]
    rw [e2, reads_frees h.2 hr]
    dsimp only
    rw [reads_num (by omega) (by omega)]
    have e := (⟨no_of hi, no_of hk.1, no_of hk.2, no_of ht, no_of hv, no_of hm⟩ : p.items = [] ∧ p.keys = [] ∧ p.kids = [] ∧ p.text = [] ∧ p.vals = [] ∧ p.mt = mt0)
    obtain ⟨kind, items, keys, kids, text, vals, free, next, mt⟩ := p
    simp only at e ⊢
    obtain ⟨rfl, rfl, rfl, rfl, rfl, rfl⟩ := e
    rfl
  rw [if_neg h5] at h
  by_cases h6 : p.kind = 6
  · rw [if_pos h6, Bool.and_eq_true, decide_eq_true_eq] at h
    obtain ⟨hi, hk, ht, hv, hf, hn, hm⟩ := has_iff h.1
    simp only [Bool.or_eq_false_iff] at hk
    rw [reads_num (by omega) (by omega)]
    dsimp only
    rw [if_neg h1, if_neg h2, if_neg h3, if_neg h4, if_neg h5, if_pos h6, if_neg h1, if_neg h2, if_neg h3, if_neg h4, if_neg h5, if_pos h6, reads_mt h.2 hr.2]
    have e := (⟨no_of hi, no_of hk.1, no_of hk.2, no_of ht, no_of hv, no_of hf, no_of hn⟩ : p.items = [] ∧ p.keys = [] ∧ p.kids = [] ∧ p.text = [] ∧ p.vals = [] ∧ p.free = [] ∧ p.next = 0)
    obtain ⟨kind, items, keys, kids, text, vals, free, next, mt⟩ := p
    simp only at e ⊢
    obtain ⟨rfl, rfl, rfl, rfl, rfl, rfl, rfl⟩ := e
    rfl
  rw [if_neg h6] at h
  exact absurd h (by simp)
theorem bytes_of {p : Page} (h : isPage p = true) : bytes p = le8 (sum (body p)) ++ body p := by
  unfold bytes
  rw [if_pos h]
theorem bytes_no {p : Page} (h : isPage p = false) : bytes p = [] := by
  unfold bytes
  rw [if_neg (by simp [h])]
theorem parse_app {p : Page} (h : isPage p = true) (hr : Rng p) (t : Txt) : parse (bytes p ++ t) = p := by
  rw [bytes_of h, List.append_assoc, parse]
  have hs := sum_range (body p)
  rw [reads_u64 hs.1 hs.2]
  dsimp only
  rw [reads_page h hr]
theorem parse_bytes {p : Page} (h : isPage p = true) (hr : Rng p) : parse (bytes p) = p := by
  have := parse_app h hr []
  rwa [List.append_nil] at this
theorem body_len (p : Page) : 8 ≤ (body p).length := by
  unfold body
  rw [List.length_append, le8_length]
  omega
theorem bytes_len {p : Page} (h : isPage p = true) : 16 ≤ (bytes p).length := by
  have := body_len p
  rw [bytes_of h, List.length_append, le8_length]
  omega
theorem readOk_bytes {p : Page} (h : isPage p = true) (hr : Rng p) : readOk (bytes p) = true := by
  have := bytes_len h
  unfold readOk
  rw [parse_bytes h hr]
  simp only [Bool.and_eq_true, decide_eq_true_eq, and_true]
  rintro e
  rw [e] at this
  simp at this
theorem readOk_page {s : Txt} (h : readOk s = true) : isPage (parse s) = true ∧ bytes (parse s) = s := by
  simp only [readOk, Bool.and_eq_true, decide_eq_true_eq] at h
  refine ⟨?_, h.2⟩
  rcases hb : isPage (parse s) with _ | _
  · exact absurd ((bytes_no hb).symm.trans h.2).symm h.1
  · rfl
end Sp
end Go.Proofs.YtmcpkhknjdiocaaGreatDoor
namespace Go.Proofs.YtmcpkhknjdiocaaGreatDoor
open Go.RowKit
attribute [local go_sem low] mk_extract
attribute [local go_sem] After.cell After.frozen mk_extract_end ByteArray.mk_append_mk
namespace Sp
theorem eachN_mem {β : Type} {step : List β → Cut → List β × Cut} {P : β → Prop} (h : ∀ l c, (∀ x, x ∈ l → P x) → ∀ x, x ∈ (step l c).1 → P x) (s : List β × Cut) (hs : ∀ x, x ∈ s.1 → P x) : ∀ n, ∀ x, x ∈ (eachN step n s).1 → P x
  | 0 => hs
  | n + 1 => by
    have ih := eachN_mem h s hs n
    have e : eachN step (n + 1) s = if (eachN step n s).2.bad = true then eachN step n s else step (eachN step n s).1 (eachN step n s).2 := rfl
    rw [e]
    split
    · exact ih
    · exact h _ _ ih
theorem frees_rng (c : Cut) : ∀ f, f ∈ c.frees.1 → 0 ≤ f.txn ∧ f.txn < 18446744073709551616 := by
  unfold Cut.frees
  refine eachN_mem (P := fun f : Free => 0 ≤ f.txn ∧ f.txn < 18446744073709551616) (fun l c h x hx => ?_) _ (by simp) _
  unfold freeStep at hx
  simp only [List.mem_append, List.mem_singleton] at hx
  rcases hx with hx | rfl
  · exact h x hx
  · exact c.u64_rng
theorem page_rng (c : Cut) : Rng c.page.1 := by
  have h0 : 0 ≤ mt0.txn ∧ mt0.txn < 18446744073709551616 := by decide
  have hn : ∀ f : Free, f ∈ ([] : List Free) → 0 ≤ f.txn ∧ f.txn < 18446744073709551616 := by simp
  unfold Cut.page Rng
  by_cases h1 : c.num.1 = 1
  · rw [if_pos h1]; exact ⟨hn, h0⟩
  rw [if_neg h1]
  by_cases h2 : c.num.1 = 2
  · rw [if_pos h2]; exact ⟨hn, h0⟩
  rw [if_neg h2]
  by_cases h3 : c.num.1 = 3
  · rw [if_pos h3]; exact ⟨hn, h0⟩
  rw [if_neg h3]
  by_cases h4 : c.num.1 = 4
  · rw [if_pos h4]; exact ⟨hn, h0⟩
  rw [if_neg h4]
  by_cases h5 : c.num.1 = 5
  · rw [if_pos h5]; exact ⟨frees_rng _, h0⟩
  rw [if_neg h5]
  by_cases h6 : c.num.1 = 6
  · rw [if_pos h6]; exact ⟨hn, Cut.u64_rng _⟩
  rw [if_neg h6]
  exact ⟨hn, h0⟩
theorem parse_rng (s : Txt) : Rng (parse s) := page_rng _
end Sp
end Go.Proofs.YtmcpkhknjdiocaaGreatDoor
namespace Go.Proofs.YtmcpkhknjdiocaaGreatDoor
open Go.RowKit
attribute [local go_sem low] mk_extract
attribute [local go_sem] After.cell After.frozen mk_extract_end ByteArray.mk_append_mk
namespace Sp
def pgM (m : Mt) : Page := ⟨6, [], [], [], [], [], [], 0, m⟩
def fresh (i : Int) : Mt := ⟨min (max i 0) 1, root0, 0, 2⟩
def metaB (m : Mt) : Txt := bytes (pgM m)
end Sp
set_option maxRecDepth 100000 in
set_option maxHeartbeats 400000 in
theorem place_any (n : Int) (h0 : 0 ≤ n) (h1 : n < 18446744073709551616) (w : World) : Calls Tryz.prog 165 #[.int .u64 n] w fun e w' => e = .returned (.int .i64 (n % 2)) ∧ w = w' := by
  have H1 := Lib.hid h1
  clear h1
  go_enter Tryz.func165, Tryz.ntmps165
  go_wp2
  go_ret
  refine ⟨ret_int ?_, rfl⟩
  have := H1.out
  first | rfl | (simp [IntKind.wrap_u64, IntKind.wrap_i64, Int.tmod_eq_emod_of_nonneg h0]; omega) | omega
end Go.Proofs.YtmcpkhknjdiocaaGreatDoor
