/- Reading: page.Read. Reading: page.Read, case 1. Reading: page.Read, case 2. Reading: page.Read, case 3. Reading: page.Read, its contract. -/
import Derived.Test.YtmcpkhknjdiocaaGreatDoorQB07
import Derived.Test.YtmcpkhknjdiocaaGreatDoorQB08
import Derived.Test.YtmcpkhknjdiocaaGreatDoorQB10
set_option linter.unusedSimpArgs false
set_option linter.unusedVariables false
namespace Go.Proofs.YtmcpkhknjdiocaaGreatDoor
open Go.RowKit
attribute [local go_sem low] mk_extract
attribute [local go_sem] After.cell After.frozen mk_extract_end ByteArray.mk_append_mk
theorem rdPage_any (g : Nat) (c : Sp.Cut) (w : World) (hs : c.s.length ≤ 4611686018427387904) (hc : CutAt w g c.s c.bad) :
    Calls Tryz.prog 177 #[.agg #[.pointer (some ⟨g, 0, none⟩)]] w fun e w' => PageOut g c w e w' := by
  by_cases h1 : c.num.1 = 1
  · exact rdPage1 g c w hs hc h1
  by_cases h2 : c.num.1 = 2
  · exact rdPage2 g c w hs hc h2
  by_cases h3 : c.num.1 = 3
  · exact rdPage3 g c w hs hc h3
  by_cases h4 : c.num.1 = 4
  · exact rdPage4 g c w hs hc h4
  by_cases h5 : c.num.1 = 5
  · exact rdPage5 g c w hs hc h5
  by_cases h6 : c.num.1 = 6
  · exact rdPage6 g c w hs hc h6
  exact rdPage7 g c w hs hc ⟨h1, h2, h3, h4, h5, h6⟩
namespace Sp
def pg0 : Page := ⟨0, [], [], [], [], [], [], 0, mt0⟩
def parse (s : Txt) : Page := (Cut.u64 ⟨s, false⟩).2.page.1
def readOk (s : Txt) : Bool := decide (s ≠ []) && decide (bytes (parse s) = s)
end Sp
abbrev ErrT : TypeId := 120
/-- What page.Read gives: the page and no error; or the page of nothing and error 12. -/
def readV (s : Txt) (r : Refs) : Value := if Sp.readOk s then .tuple #[.agg (pageV (Sp.parse s) r).toArray, .nilIface] else .tuple #[.agg (pageV Sp.pg0 r).toArray, .iface 120 (.int .i64 12)]
theorem readV_yes {s : Txt} (h : Sp.readOk s = true) (r : Refs) : readV s r = .tuple #[.agg (pageV (Sp.parse s) r).toArray, .nilIface] := by
  unfold readV
  rw [h]
  rfl
def readPg (s : Txt) : Sp.Page := if Sp.readOk s then Sp.parse s else Sp.pg0
theorem pageRd0 (w : World) (M : Nat → Prop) (r : Refs) : PageRd w M Sp.pg0 r := ⟨Items.nil_, Row.nil_, Row.nil_, Row.nil_, Frees.nil_, by simp [Sp.pg0, Sp.mt0]⟩
def refs0 : Refs := ⟨none, none, none, none, none, 0, 0, 0, 0, 0⟩
theorem Row.anti {w : World} {M M' : Nat → Prop} {A : Option Addr} {cs : List Value} (h : Row w M A cs) (hM : ∀ k, M' k → M k) : Row w M' A cs := by
  refine ⟨h.1, ?_⟩
  rcases h.2 with h | ⟨b, off, e, hb, hm, hc⟩
  · exact .inl h
  · exact .inr ⟨b, off, e, hb, fun x => hm (hM _ x), hc⟩
theorem Items.anti {w : World} {M M' : Nat → Prop} {A : Option Addr} {l : List Sp.Item} (h : Items w M A l) (hM : ∀ k, M' k → M k) : Items w M' A l := by
  refine ⟨h.1, ?_⟩
  rcases h.2 with h | ⟨b, off, e, hb, hm, hc⟩
  · exact .inl h
  · refine .inr ⟨b, off, e, hb, fun x => hm (hM _ x), fun k hk => ?_⟩
    obtain ⟨V, c, hi, ht⟩ := hc k hk
    exact ⟨V, c, hi, ht.anti hM⟩
theorem Frees.anti {w : World} {M M' : Nat → Prop} {A : Option Addr} {l : List Sp.Free} (h : Frees w M A l) (hM : ∀ k, M' k → M k) : Frees w M' A l := by
  refine ⟨h.1, ?_⟩
  rcases h.2 with h | ⟨b, off, e, hb, hm, hc⟩
  · exact .inl h
  · refine .inr ⟨b, off, e, hb, fun x => hm (hM _ x), fun k hk => ?_⟩
    obtain ⟨V, c, hi, ht, hr⟩ := hc k hk
    exact ⟨V, c, hi, ht.anti hM, hr⟩
theorem PageRd.anti {w : World} {M M' : Nat → Prop} {p : Sp.Page} {r : Refs} (h : PageRd w M p r) (hM : ∀ k, M' k → M k) : PageRd w M' p r :=
  ⟨h.items.anti hM, h.keys.anti hM, h.kids.anti hM, h.vals.anti hM, h.free.anti hM, h.txn⟩
end Go.Proofs.YtmcpkhknjdiocaaGreatDoor
namespace Go.Proofs.YtmcpkhknjdiocaaGreatDoor
open Go.RowKit
attribute [local go_sem low] mk_extract
attribute [local go_sem] After.cell After.frozen mk_extract_end ByteArray.mk_append_mk
set_option maxRecDepth 100000 in
set_option maxHeartbeats 1600000 in
theorem read1 (s : Txt) (w : World) (hs : s.length ≤ 4611686018427387904) (HS0 : Hid (s = [])) :
    Calls Tryz.prog 152 #[.string ⟨s.toArray⟩] w fun e w' => ∃ r, e = .returned (readV s r) ∧ (∀ M : Nat → Prop, (∀ k, w.heap.size ≤ k → ¬ M k) → PageRd w' M (readPg s) r) ∧ Below w.heap.size w w' := by
  have H0 := Lib.hid (Sp.Cut.u64_len ⟨s, false⟩)
  go_enter Tryz.func152, Tryz.ntmps152
  go_wp2_with (go_at_call 175; refine (cutNew_any s _).mono ?_; rintro e w1 ⟨rfl, hw1⟩)
  have B0 := Lib.hid (((Blk.new w PageT (zPage 0)).alloc (.cells #[.string ⟨s.toArray⟩, badV false] 274)).alloc (.cells #[.pointer (some ⟨w.heap.size + 1, 0, none⟩)] 270))
  have C0 := Lib.hid ((blk_second w (.cells (zPage 0) PageT) 274 #[.string ⟨s.toArray⟩, badV false]).alloc (.cells #[.pointer (some ⟨w.heap.size + 1, 0, none⟩)] 270))
  have R0 := Lib.hid (Blk.new ((w.alloc (.cells (zPage 0) PageT)).alloc (.cells #[.string ⟨s.toArray⟩, badV false] 274)) 270 #[.pointer (some ⟨w.heap.size + 1, 0, none⟩)])
  have K0 := Lib.hid ((((Chg.refl (OneM (w.heap.size + 1)) w).alloc (.cells (zPage 0) PageT)).alloc (.cells #[.string ⟨s.toArray⟩, badV false] 274)).alloc (.cells #[.pointer (some ⟨w.heap.size + 1, 0, none⟩)] 270))
  refine (cutNum_any (w.heap.size + 1) s false _ hs C0.out).mono ?_
  rintro e w1 ⟨rfl, hc1, hk1⟩
  have hz1 := hk1.size
  simp only [World.size_alloc] at hz1
  have B1 := Lib.hid (B0.out.chg hk1 (by unfold OneM; omega))
  have R1 := Lib.hid (R0.out.chg hk1 (by unfold OneM; simp))
  have r1 := R1.out.at1
  simp only [World.size_alloc] at r1
  have K1 := Lib.hid (K0.out.trans hk1)
  have C1 := Lib.hid (show CutAt w1 (w.heap.size + 1) (Sp.Cut.u64 ⟨s, false⟩).2.s (Sp.Cut.u64 ⟨s, false⟩).2.bad from hc1)
  clear hc1 hk1
  go_wp2_with fail
  refine (rdPage_any (w.heap.size + 1) (Sp.Cut.u64 ⟨s, false⟩).2 _ (Nat.le_trans H0.out hs) C1.out).mono ?_
  rintro e w2 ⟨r, rfl, hp, hc2, hk2⟩
  rw [show (Sp.Cut.u64 ⟨s, false⟩).2.page.1 = Sp.parse s from rfl] at *
  have hz2 := hk2.size
  have K2 := Lib.hid (K1.out.trans hk2)
  have B2 := Lib.hid (B1.out.chg hk2 (by unfold OneM; omega))
  have HP := Lib.hid (fun M h => (hp M h).chg ((Chg.refl M w2).alloc (.cells (pageV (Sp.parse s) r).toArray PageT)))
  have HO := Lib.hid (show Sp.readOk s = (decide (s ≠ []) && decide (Sp.bytes (Sp.parse s) = s)) from rfl)
  have HRV := Lib.hid (show readV s = fun r => if Sp.readOk s then .tuple #[.agg (pageV (Sp.parse s) r).toArray, .nilIface] else .tuple #[.agg (pageV Sp.pg0 r).toArray, .iface 120 (.int .i64 12)] from rfl)
  have HRP := Lib.hid (show readPg s = if Sp.readOk s then Sp.parse s else Sp.pg0 from rfl)
  have hs0 := HS0.out
  have hok : Sp.readOk s = false := by unfold Sp.readOk; simp [hs0]
  have HOK := Lib.hid hok
  clear hok
  clear HS0
  subst hs0
  have hsz2 : w.heap.size < w2.heap.size := by omega
  have hq0 := hp
  generalize Sp.parse [] = p at *
  have B3 := Lib.hid (B2.out.alloc (.cells #[.int .i64 p.kind, .slice r.I p.items.length r.i, .slice r.K p.keys.length r.k, .slice r.D p.kids.length r.d, .string ⟨p.text.toArray⟩, .slice r.V p.vals.length r.v, .slice r.F p.free.length r.f, .int .i64 p.next, .int .u64 p.mt.txn, .int .i64 p.mt.main.page, .int .i64 p.mt.main.count, .int .i64 p.mt.main.flags, .int .i64 p.mt.free, .int .i64 p.mt.last] PageT))
  have P3 := Lib.hid (Blk.new w2 PageT #[.int .i64 p.kind, .slice r.I p.items.length r.i, .slice r.K p.keys.length r.k, .slice r.D p.kids.length r.d, .string ⟨p.text.toArray⟩, .slice r.V p.vals.length r.v, .slice r.F p.free.length r.f, .int .i64 p.next, .int .u64 p.mt.txn, .int .i64 p.mt.main.page, .int .i64 p.mt.main.count, .int .i64 p.mt.main.flags, .int .i64 p.mt.free, .int .i64 p.mt.last])
  have K3 := Lib.hid (K2.out.alloc (.cells #[.int .i64 p.kind, .slice r.I p.items.length r.i, .slice r.K p.keys.length r.k, .slice r.D p.kids.length r.d, .string ⟨p.text.toArray⟩, .slice r.V p.vals.length r.v, .slice r.F p.free.length r.f, .int .i64 p.next, .int .u64 p.mt.txn, .int .i64 p.mt.main.page, .int .i64 p.mt.main.count, .int .i64 p.mt.main.flags, .int .i64 p.mt.free, .int .i64 p.mt.last] PageT))
  have HP := Lib.hid (fun M h => (hp M h).chg ((Chg.refl M w2).alloc (.cells #[.int .i64 p.kind, .slice r.I p.items.length r.i, .slice r.K p.keys.length r.k, .slice r.D p.kids.length r.d, .string ⟨p.text.toArray⟩, .slice r.V p.vals.length r.v, .slice r.F p.free.length r.f, .int .i64 p.next, .int .u64 p.mt.txn, .int .i64 p.mt.main.page, .int .i64 p.mt.main.count, .int .i64 p.mt.main.flags, .int .i64 p.mt.free, .int .i64 p.mt.last] PageT)))
  have hsz3 : w2.heap.size < (w2.alloc (.cells #[.int .i64 p.kind, .slice r.I p.items.length r.i, .slice r.K p.keys.length r.k, .slice r.D p.kids.length r.d, .string ⟨p.text.toArray⟩, .slice r.V p.vals.length r.v, .slice r.F p.free.length r.f, .int .i64 p.next, .int .u64 p.mt.txn, .int .i64 p.mt.main.page, .int .i64 p.mt.main.count, .int .i64 p.mt.main.flags, .int .i64 p.mt.free, .int .i64 p.mt.last] PageT)).heap.size := by simp
  clear hp hq0 hc2 hk2 B2 K2
  simp only [pageV, mtV]
  go_upto_region 4 with fail
  generalize w2.alloc (.cells #[.int .i64 p.kind, .slice r.I p.items.length r.i, .slice r.K p.keys.length r.k, .slice r.D p.kids.length r.d, .string ⟨p.text.toArray⟩, .slice r.V p.vals.length r.v, .slice r.F p.free.length r.f, .int .i64 p.next, .int .u64 p.mt.txn, .int .i64 p.mt.main.page, .int .i64 p.mt.main.count, .int .i64 p.mt.main.flags, .int .i64 p.mt.free, .int .i64 p.mt.last] PageT) = w3 at *
  obtain ⟨⟨za, zb, zc, zd, ze, zf, zg, zh, zi, zj, zk, zl, zm, zn⟩, qa, qb, qc, qd, qe, qf, qg, qh, qi, qj, qk, ql, qm, qn⟩ := B3.out.at14
  clear B3 P3
  go_wp2
  refine bodyPost_ret (v := .tuple #[.agg (pageV Sp.pg0 refs0).toArray, .iface 120 (.int .i64 12)]) (by simp [results, Tryz.results152, go_sem, za, zb, zc, zd, ze, zf, zg, zh, zi, zj, zk, zl, zm, zn, qa, qb, qc, qd, qe, qf, qg, qh, qi, qj, qk, ql, qm, qn, pageV, mtV, Sp.pg0, Sp.mt0, Sp.root0, refs0]) rfl ⟨refs0, by simp [readV, HOK.out], fun M hM => by unfold readPg; rw [HOK.out]; exact pageRd0 _ _ _, ?_⟩
  refine Chg.below (S := OneM (w.heap.size + 1)) ?_ (Nat.le_refl _) (fun k hk e => by unfold OneM at e; omega)
  iterate 14 (refine Chg.setCell ?_ (.inr (by simp only; omega)) _)
  exact K3.out
end Go.Proofs.YtmcpkhknjdiocaaGreatDoor
namespace Go.Proofs.YtmcpkhknjdiocaaGreatDoor
open Go.RowKit
attribute [local go_sem low] mk_extract
attribute [local go_sem] After.cell After.frozen mk_extract_end ByteArray.mk_append_mk
set_option maxRecDepth 100000 in
set_option maxHeartbeats 1600000 in
theorem read2 (b0 : UInt8) (s0 s : Txt) (w : World) (hs : s.length ≤ 4611686018427387904) (HS0 : Hid (s = b0 :: s0)) (HBB : Hid (Sp.bytes (Sp.parse s) ≠ s)) :
    Calls Tryz.prog 152 #[.string ⟨s.toArray⟩] w fun e w' => ∃ r, e = .returned (readV s r) ∧ (∀ M : Nat → Prop, (∀ k, w.heap.size ≤ k → ¬ M k) → PageRd w' M (readPg s) r) ∧ Below w.heap.size w w' := by
  have H0 := Lib.hid (Sp.Cut.u64_len ⟨s, false⟩)
  go_enter Tryz.func152, Tryz.ntmps152
  go_wp2_with (go_at_call 175; refine (cutNew_any s _).mono ?_; rintro e w1 ⟨rfl, hw1⟩)
  have B0 := Lib.hid (((Blk.new w PageT (zPage 0)).alloc (.cells #[.string ⟨s.toArray⟩, badV false] 274)).alloc (.cells #[.pointer (some ⟨w.heap.size + 1, 0, none⟩)] 270))
  have C0 := Lib.hid ((blk_second w (.cells (zPage 0) PageT) 274 #[.string ⟨s.toArray⟩, badV false]).alloc (.cells #[.pointer (some ⟨w.heap.size + 1, 0, none⟩)] 270))
  have R0 := Lib.hid (Blk.new ((w.alloc (.cells (zPage 0) PageT)).alloc (.cells #[.string ⟨s.toArray⟩, badV false] 274)) 270 #[.pointer (some ⟨w.heap.size + 1, 0, none⟩)])
  have K0 := Lib.hid ((((Chg.refl (OneM (w.heap.size + 1)) w).alloc (.cells (zPage 0) PageT)).alloc (.cells #[.string ⟨s.toArray⟩, badV false] 274)).alloc (.cells #[.pointer (some ⟨w.heap.size + 1, 0, none⟩)] 270))
  refine (cutNum_any (w.heap.size + 1) s false _ hs C0.out).mono ?_
  rintro e w1 ⟨rfl, hc1, hk1⟩
  have hz1 := hk1.size
  simp only [World.size_alloc] at hz1
  have B1 := Lib.hid (B0.out.chg hk1 (by unfold OneM; omega))
  have R1 := Lib.hid (R0.out.chg hk1 (by unfold OneM; simp))
  have r1 := R1.out.at1
  simp only [World.size_alloc] at r1
  have K1 := Lib.hid (K0.out.trans hk1)
  have C1 := Lib.hid (show CutAt w1 (w.heap.size + 1) (Sp.Cut.u64 ⟨s, false⟩).2.s (Sp.Cut.u64 ⟨s, false⟩).2.bad from hc1)
  clear hc1 hk1
  go_wp2_with fail
  refine (rdPage_any (w.heap.size + 1) (Sp.Cut.u64 ⟨s, false⟩).2 _ (Nat.le_trans H0.out hs) C1.out).mono ?_
  rintro e w2 ⟨r, rfl, hp, hc2, hk2⟩
  rw [show (Sp.Cut.u64 ⟨s, false⟩).2.page.1 = Sp.parse s from rfl] at *
  have hz2 := hk2.size
  have K2 := Lib.hid (K1.out.trans hk2)
  have B2 := Lib.hid (B1.out.chg hk2 (by unfold OneM; omega))
  have HP := Lib.hid (fun M h => (hp M h).chg ((Chg.refl M w2).alloc (.cells (pageV (Sp.parse s) r).toArray PageT)))
  have HO := Lib.hid (show Sp.readOk s = (decide (s ≠ []) && decide (Sp.bytes (Sp.parse s) = s)) from rfl)
  have HRV := Lib.hid (show readV s = fun r => if Sp.readOk s then .tuple #[.agg (pageV (Sp.parse s) r).toArray, .nilIface] else .tuple #[.agg (pageV Sp.pg0 r).toArray, .iface 120 (.int .i64 12)] from rfl)
  have HRP := Lib.hid (show readPg s = if Sp.readOk s then Sp.parse s else Sp.pg0 from rfl)
  have hs0 := HS0.out
  have hok : Sp.readOk s = decide (Sp.bytes (Sp.parse s) = s) := by unfold Sp.readOk; simp [hs0]
  have HOK := Lib.hid hok
  clear hok
  clear HS0
  subst hs0
  have hsz2 : w.heap.size < w2.heap.size := by omega
  have hq0 := hp
  generalize Sp.parse (b0 :: s0) = p at *
  have B3 := Lib.hid (B2.out.alloc (.cells #[.int .i64 p.kind, .slice r.I p.items.length r.i, .slice r.K p.keys.length r.k, .slice r.D p.kids.length r.d, .string ⟨p.text.toArray⟩, .slice r.V p.vals.length r.v, .slice r.F p.free.length r.f, .int .i64 p.next, .int .u64 p.mt.txn, .int .i64 p.mt.main.page, .int .i64 p.mt.main.count, .int .i64 p.mt.main.flags, .int .i64 p.mt.free, .int .i64 p.mt.last] PageT))
  have P3 := Lib.hid (Blk.new w2 PageT #[.int .i64 p.kind, .slice r.I p.items.length r.i, .slice r.K p.keys.length r.k, .slice r.D p.kids.length r.d, .string ⟨p.text.toArray⟩, .slice r.V p.vals.length r.v, .slice r.F p.free.length r.f, .int .i64 p.next, .int .u64 p.mt.txn, .int .i64 p.mt.main.page, .int .i64 p.mt.main.count, .int .i64 p.mt.main.flags, .int .i64 p.mt.free, .int .i64 p.mt.last])
  have K3 := Lib.hid (K2.out.alloc (.cells #[.int .i64 p.kind, .slice r.I p.items.length r.i, .slice r.K p.keys.length r.k, .slice r.D p.kids.length r.d, .string ⟨p.text.toArray⟩, .slice r.V p.vals.length r.v, .slice r.F p.free.length r.f, .int .i64 p.next, .int .u64 p.mt.txn, .int .i64 p.mt.main.page, .int .i64 p.mt.main.count, .int .i64 p.mt.main.flags, .int .i64 p.mt.free, .int .i64 p.mt.last] PageT))
  have HP := Lib.hid (fun M h => (hp M h).chg ((Chg.refl M w2).alloc (.cells #[.int .i64 p.kind, .slice r.I p.items.length r.i, .slice r.K p.keys.length r.k, .slice r.D p.kids.length r.d, .string ⟨p.text.toArray⟩, .slice r.V p.vals.length r.v, .slice r.F p.free.length r.f, .int .i64 p.next, .int .u64 p.mt.txn, .int .i64 p.mt.main.page, .int .i64 p.mt.main.count, .int .i64 p.mt.main.flags, .int .i64 p.mt.free, .int .i64 p.mt.last] PageT)))
  have hsz3 : w2.heap.size < (w2.alloc (.cells #[.int .i64 p.kind, .slice r.I p.items.length r.i, .slice r.K p.keys.length r.k, .slice r.D p.kids.length r.d, .string ⟨p.text.toArray⟩, .slice r.V p.vals.length r.v, .slice r.F p.free.length r.f, .int .i64 p.next, .int .u64 p.mt.txn, .int .i64 p.mt.main.page, .int .i64 p.mt.main.count, .int .i64 p.mt.main.flags, .int .i64 p.mt.free, .int .i64 p.mt.last] PageT)).heap.size := by simp
  clear hp hq0 hc2 hk2 B2 K2
  have hb := HBB.out
  have hbq : (Sp.bytes p == b0 :: s0) = false := beq_eq_false_iff_ne.2 hb
  have HOK := Lib.hid (HOK.out.trans (decide_eq_false hb))
  simp only [pageV, mtV]
  go_upto_region 4 with fail
  generalize w2.alloc (.cells #[.int .i64 p.kind, .slice r.I p.items.length r.i, .slice r.K p.keys.length r.k, .slice r.D p.kids.length r.d, .string ⟨p.text.toArray⟩, .slice r.V p.vals.length r.v, .slice r.F p.free.length r.f, .int .i64 p.next, .int .u64 p.mt.txn, .int .i64 p.mt.main.page, .int .i64 p.mt.main.count, .int .i64 p.mt.main.flags, .int .i64 p.mt.free, .int .i64 p.mt.last] PageT) = w3 at *
  have hlw := P3.out.lt
  obtain ⟨⟨uua, uub, uuc, uud, uue, uuf, uug, uuh, uui, uuj, uuk, uul, uum, uun⟩, vva, vvb, vvc, vvd, vve, vvf, vvg, vvh, vvi, vvj, vvk, vvl, vvm, vvn⟩ := P3.out.at14
  go_wp2_with (go_at_call 178; refine (bytes_any (M := NoM) p r _ (HP.out _ (fun _ _ h => h))).mono ?_; rintro e w4 ⟨rfl, hb4⟩; have K4 := Lib.hid (Chg.trans K3.out (.of_below hb4)); have hz4 := hb4.size; have B4 := Lib.hid (B3.out.below hb4 B3.out.lt); have P4 := Lib.hid (P3.out.below hb4 P3.out.lt); have HP4 := Lib.hid (fun M h => (HP.out M h).chg (.of_below hb4)); obtain ⟨⟨za, zb, zc, zd, ze, zf, zg, zh, zi, zj, zk, zl, zm, zn⟩, qa, qb, qc, qd, qe, qf, qg, qh, qi, qj, qk, ql, qm, qn⟩ := B4.out.at14; obtain ⟨⟨xa, xb, xc, xd, xe, xf, xg, xh, xi, xj, xk, xl, xm, xn⟩, ya, yb, yc, yd, ye, yf, yg, yh, yi, yj, yk, yl, ym, yn⟩ := P4.out.at14; clear hb4 B3 P3 uua uub uuc uud uue uuf uug uuh uui uuj uuk uul uum uun vva vvb vvc vvd vve vvf vvg vvh vvi vvj vvk vvl vvm vvn)
  go_wp2
  refine bodyPost_ret (v := .tuple #[.agg (pageV Sp.pg0 refs0).toArray, .iface 120 (.int .i64 12)]) (by simp [results, Tryz.results152, go_sem, za, zb, zc, zd, ze, zf, zg, zh, zi, zj, zk, zl, zm, zn, qa, qb, qc, qd, qe, qf, qg, qh, qi, qj, qk, ql, qm, qn, pageV, mtV, Sp.pg0, Sp.mt0, Sp.root0, refs0]) rfl ⟨refs0, by simp [readV, HOK.out], fun M hM => by unfold readPg; rw [HOK.out]; exact pageRd0 _ _ _, ?_⟩
  refine Chg.below (S := OneM (w.heap.size + 1)) ?_ (Nat.le_refl _) (fun k hk e => by unfold OneM at e; omega)
  iterate 14 (refine Chg.setCell ?_ (.inr (by simp only; omega)) _)
  exact K4.out
end Go.Proofs.YtmcpkhknjdiocaaGreatDoor
namespace Go.Proofs.YtmcpkhknjdiocaaGreatDoor
open Go.RowKit
attribute [local go_sem low] mk_extract
attribute [local go_sem] After.cell After.frozen mk_extract_end ByteArray.mk_append_mk
set_option maxRecDepth 100000 in
set_option maxHeartbeats 1600000 in
theorem read3 (b0 : UInt8) (s0 s : Txt) (w : World) (hs : s.length ≤ 4611686018427387904) (HS0 : Hid (s = b0 :: s0)) (HBB : Hid (Sp.bytes (Sp.parse s) = s)) :
    Calls Tryz.prog 152 #[.string ⟨s.toArray⟩] w fun e w' => ∃ r, e = .returned (readV s r) ∧ (∀ M : Nat → Prop, (∀ k, w.heap.size ≤ k → ¬ M k) → PageRd w' M (readPg s) r) ∧ Below w.heap.size w w' := by
  have H0 := Lib.hid (Sp.Cut.u64_len ⟨s, false⟩)
  go_enter Tryz.func152, Tryz.ntmps152
  go_wp2_with (go_at_call 175; refine (cutNew_any s _).mono ?_; rintro e w1 ⟨rfl, hw1⟩)
  have B0 := Lib.hid (((Blk.new w PageT (zPage 0)).alloc (.cells #[.string ⟨s.toArray⟩, badV false] 274)).alloc (.cells #[.pointer (some ⟨w.heap.size + 1, 0, none⟩)] 270))
  have C0 := Lib.hid ((blk_second w (.cells (zPage 0) PageT) 274 #[.string ⟨s.toArray⟩, badV false]).alloc (.cells #[.pointer (some ⟨w.heap.size + 1, 0, none⟩)] 270))
  have R0 := Lib.hid (Blk.new ((w.alloc (.cells (zPage 0) PageT)).alloc (.cells #[.string ⟨s.toArray⟩, badV false] 274)) 270 #[.pointer (some ⟨w.heap.size + 1, 0, none⟩)])
  have K0 := Lib.hid ((((Chg.refl (OneM (w.heap.size + 1)) w).alloc (.cells (zPage 0) PageT)).alloc (.cells #[.string ⟨s.toArray⟩, badV false] 274)).alloc (.cells #[.pointer (some ⟨w.heap.size + 1, 0, none⟩)] 270))
  refine (cutNum_any (w.heap.size + 1) s false _ hs C0.out).mono ?_
  rintro e w1 ⟨rfl, hc1, hk1⟩
  have hz1 := hk1.size
  simp only [World.size_alloc] at hz1
  have B1 := Lib.hid (B0.out.chg hk1 (by unfold OneM; omega))
  have R1 := Lib.hid (R0.out.chg hk1 (by unfold OneM; simp))
  have r1 := R1.out.at1
  simp only [World.size_alloc] at r1
  have K1 := Lib.hid (K0.out.trans hk1)
  have C1 := Lib.hid (show CutAt w1 (w.heap.size + 1) (Sp.Cut.u64 ⟨s, false⟩).2.s (Sp.Cut.u64 ⟨s, false⟩).2.bad from hc1)
  clear hc1 hk1
  go_wp2_with fail
  refine (rdPage_any (w.heap.size + 1) (Sp.Cut.u64 ⟨s, false⟩).2 _ (Nat.le_trans H0.out hs) C1.out).mono ?_
  rintro e w2 ⟨r, rfl, hp, hc2, hk2⟩
  rw [show (Sp.Cut.u64 ⟨s, false⟩).2.page.1 = Sp.parse s from rfl] at *
  have hz2 := hk2.size
  have K2 := Lib.hid (K1.out.trans hk2)
  have B2 := Lib.hid (B1.out.chg hk2 (by unfold OneM; omega))
  have HP := Lib.hid (fun M h => (hp M h).chg ((Chg.refl M w2).alloc (.cells (pageV (Sp.parse s) r).toArray PageT)))
  have HO := Lib.hid (show Sp.readOk s = (decide (s ≠ []) && decide (Sp.bytes (Sp.parse s) = s)) from rfl)
  have HRV := Lib.hid (show readV s = fun r => if Sp.readOk s then .tuple #[.agg (pageV (Sp.parse s) r).toArray, .nilIface] else .tuple #[.agg (pageV Sp.pg0 r).toArray, .iface 120 (.int .i64 12)] from rfl)
  have HRP := Lib.hid (show readPg s = if Sp.readOk s then Sp.parse s else Sp.pg0 from rfl)
  have hs0 := HS0.out
  have hok : Sp.readOk s = decide (Sp.bytes (Sp.parse s) = s) := by unfold Sp.readOk; simp [hs0]
  have HOK := Lib.hid hok
  clear hok
  clear HS0
  subst hs0
  have hsz2 : w.heap.size < w2.heap.size := by omega
  have hq0 := hp
  have HPP := Lib.hid (rfl : Sp.parse (b0 :: s0) = Sp.parse (b0 :: s0))
  generalize hpp : Sp.parse (b0 :: s0) = p at *
  have HPE := Lib.hid hpp
  clear hpp HPP
  have B3 := Lib.hid (B2.out.alloc (.cells #[.int .i64 p.kind, .slice r.I p.items.length r.i, .slice r.K p.keys.length r.k, .slice r.D p.kids.length r.d, .string ⟨p.text.toArray⟩, .slice r.V p.vals.length r.v, .slice r.F p.free.length r.f, .int .i64 p.next, .int .u64 p.mt.txn, .int .i64 p.mt.main.page, .int .i64 p.mt.main.count, .int .i64 p.mt.main.flags, .int .i64 p.mt.free, .int .i64 p.mt.last] PageT))
  have P3 := Lib.hid (Blk.new w2 PageT #[.int .i64 p.kind, .slice r.I p.items.length r.i, .slice r.K p.keys.length r.k, .slice r.D p.kids.length r.d, .string ⟨p.text.toArray⟩, .slice r.V p.vals.length r.v, .slice r.F p.free.length r.f, .int .i64 p.next, .int .u64 p.mt.txn, .int .i64 p.mt.main.page, .int .i64 p.mt.main.count, .int .i64 p.mt.main.flags, .int .i64 p.mt.free, .int .i64 p.mt.last])
  have K3 := Lib.hid (K2.out.alloc (.cells #[.int .i64 p.kind, .slice r.I p.items.length r.i, .slice r.K p.keys.length r.k, .slice r.D p.kids.length r.d, .string ⟨p.text.toArray⟩, .slice r.V p.vals.length r.v, .slice r.F p.free.length r.f, .int .i64 p.next, .int .u64 p.mt.txn, .int .i64 p.mt.main.page, .int .i64 p.mt.main.count, .int .i64 p.mt.main.flags, .int .i64 p.mt.free, .int .i64 p.mt.last] PageT))
  have HP := Lib.hid (fun M h => (hp M h).chg ((Chg.refl M w2).alloc (.cells #[.int .i64 p.kind, .slice r.I p.items.length r.i, .slice r.K p.keys.length r.k, .slice r.D p.kids.length r.d, .string ⟨p.text.toArray⟩, .slice r.V p.vals.length r.v, .slice r.F p.free.length r.f, .int .i64 p.next, .int .u64 p.mt.txn, .int .i64 p.mt.main.page, .int .i64 p.mt.main.count, .int .i64 p.mt.main.flags, .int .i64 p.mt.free, .int .i64 p.mt.last] PageT)))
  have hsz3 : w2.heap.size < (w2.alloc (.cells #[.int .i64 p.kind, .slice r.I p.items.length r.i, .slice r.K p.keys.length r.k, .slice r.D p.kids.length r.d, .string ⟨p.text.toArray⟩, .slice r.V p.vals.length r.v, .slice r.F p.free.length r.f, .int .i64 p.next, .int .u64 p.mt.txn, .int .i64 p.mt.main.page, .int .i64 p.mt.main.count, .int .i64 p.mt.main.flags, .int .i64 p.mt.free, .int .i64 p.mt.last] PageT)).heap.size := by simp
  clear hp hq0 hc2 hk2 B2 K2
  have hb := HBB.out
  have HOK := Lib.hid (HOK.out.trans (decide_eq_true hb))
  simp only [pageV, mtV]
  go_upto_region 4 with fail
  generalize w2.alloc (.cells #[.int .i64 p.kind, .slice r.I p.items.length r.i, .slice r.K p.keys.length r.k, .slice r.D p.kids.length r.d, .string ⟨p.text.toArray⟩, .slice r.V p.vals.length r.v, .slice r.F p.free.length r.f, .int .i64 p.next, .int .u64 p.mt.txn, .int .i64 p.mt.main.page, .int .i64 p.mt.main.count, .int .i64 p.mt.main.flags, .int .i64 p.mt.free, .int .i64 p.mt.last] PageT) = w3 at *
  have hlw := P3.out.lt
  obtain ⟨⟨uua, uub, uuc, uud, uue, uuf, uug, uuh, uui, uuj, uuk, uul, uum, uun⟩, vva, vvb, vvc, vvd, vve, vvf, vvg, vvh, vvi, vvj, vvk, vvl, vvm, vvn⟩ := P3.out.at14
  go_wp2_with (go_at_call 178; refine (bytes_any (M := NoM) p r _ (HP.out _ (fun _ _ h => h))).mono ?_; rintro e w4 ⟨rfl, hb4⟩; have K4 := Lib.hid (Chg.trans K3.out (.of_below hb4)); have hz4 := hb4.size; have B4 := Lib.hid (B3.out.below hb4 B3.out.lt); have P4 := Lib.hid (P3.out.below hb4 P3.out.lt); have HP4 := Lib.hid (fun M h => (HP.out M h).chg (.of_below hb4)); obtain ⟨⟨za, zb, zc, zd, ze, zf, zg, zh, zi, zj, zk, zl, zm, zn⟩, qa, qb, qc, qd, qe, qf, qg, qh, qi, qj, qk, ql, qm, qn⟩ := B4.out.at14; obtain ⟨⟨xa, xb, xc, xd, xe, xf, xg, xh, xi, xj, xk, xl, xm, xn⟩, ya, yb, yc, yd, ye, yf, yg, yh, yi, yj, yk, yl, ym, yn⟩ := P4.out.at14; clear hb4 B3 P3 uua uub uuc uud uue uuf uug uuh uui uuj uuk uul uum uun vva vvb vvc vvd vve vvf vvg vvh vvi vvj vvk vvl vvm vvn)
  go_wp2
  refine bodyPost_ret (v := .tuple #[.agg (pageV p r).toArray, .nilIface]) (by simp [results, Tryz.results152, go_sem, za, zb, zc, zd, ze, zf, zg, zh, zi, zj, zk, zl, zm, zn, qa, qb, qc, qd, qe, qf, qg, qh, qi, qj, qk, ql, qm, qn, pageV, mtV]) rfl ⟨r, by simp [readV, HOK.out, HPE.out], fun M hM => ?_, ?_⟩
  · unfold readPg
    rw [HOK.out, if_pos rfl, HPE.out]
    refine PageRd.anti (M := fun k => M k ∨ k = w.heap.size) (PageRd.chg (HP4.out _ (fun k hk h => ?_)) ?_) (fun k h => .inl h)
    · rcases h with h | h
      · exact hM k (by omega) h
      · omega
    · iterate 14 (refine Chg.setCell ?_ (.inl (.inr rfl)) _)
      exact Chg.refl _ _
  refine Chg.below (S := OneM (w.heap.size + 1)) ?_ (Nat.le_refl _) (fun k hk e => by unfold OneM at e; omega)
  iterate 14 (refine Chg.setCell ?_ (.inr (by simp only; omega)) _)
  exact K4.out
end Go.Proofs.YtmcpkhknjdiocaaGreatDoor
namespace Go.Proofs.YtmcpkhknjdiocaaGreatDoor
open Go.RowKit
attribute [local go_sem low] mk_extract
attribute [local go_sem] After.cell After.frozen mk_extract_end ByteArray.mk_append_mk
theorem read_any (s : Txt) (w : World) (hs : s.length ≤ 4611686018427387904) :
    Calls Tryz.prog 152 #[.string ⟨s.toArray⟩] w fun e w' => ∃ r, e = .returned (readV s r) ∧ (∀ M : Nat → Prop, (∀ k, w.heap.size ≤ k → ¬ M k) → PageRd w' M (readPg s) r) ∧ Below w.heap.size w w' := by
  rcases hq : s with _ | ⟨b0, s0⟩
  · rw [← hq]
    exact read1 s w hs (Lib.hid hq)
  · rw [← hq]
    by_cases hb : Sp.bytes (Sp.parse s) = s
    · exact read3 b0 s0 s w hs (Lib.hid hq) (Lib.hid hb)
    · exact read2 b0 s0 s w hs (Lib.hid hq) (Lib.hid hb)
end Go.Proofs.YtmcpkhknjdiocaaGreatDoor
