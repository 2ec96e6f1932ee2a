/- Long values in the package's store: written. Many values of a key: an item with these values. Trees of the document: keys in order; a tree whose pages are told by number. Many values of a key, in plain Lean: rows of texts that rise. -/
import Derived.Test.YtkcfmjlcijhieaaGreatQB01
import Derived.Test.YtkcfmjlcijhieaaGreatQB23
import Derived.Test.YtkcfmjlcijhieaaGreatQB24
import Derived.Test.YtkcfmjlcijhieaaGreatQPDElder01
import Derived.Test.YtkcfmjlcijhieaaGreatQPDElder02
import Derived.Sort.Walk0
set_option linter.unusedSimpArgs false
set_option linter.unusedVariables false
namespace Go.Proofs.YtkcfmjlcijhieaaGreat
open Go.RowKit
attribute [local go_sem low] mk_extract
attribute [local go_sem] After.cell After.frozen mk_extract_end ByteArray.mk_append_mk
open Go.Conc
namespace Sp
theorem run_made {s s1 : Sto} {n id : Int} (h : s.run n = ((id, none), s1)) (hok : s.Ok) (h1 : 1 ≤ n) (h2 : n ≤ 120) : (∀ j : Nat, (j : Int) < n → (lookD s1.d (id + j)).isSome = true) ∧ 2 ≤ id ∧ id + n ≤ 400 := by
  rw [s.run_mid n h1 h2] at h
  have ho := hok.numbers h1
  generalize s.numbers n = r at *
  obtain ⟨⟨i, er⟩, s'⟩ := r
  rcases er with _ | e
  · dsimp only at h ho
    have e1 := congrArg (fun x => x.1.1) h
    have e2 := congrArg (fun x => x.2.d) h
    dsimp only at e1 e2
    subst e1
    refine ⟨fun j hj => ?_, (ho.2.2.2.2 rfl).1, (ho.2.2.2.2 rfl).2.1⟩
    rw [← e2, lookD_run, if_pos (by omega)]
    rfl
  · exact absurd (congrArg (fun x => x.1.2) h) (by simp)
theorem fill_made {d : List (Int × Page)} {id : Int} {T : Txt} {c k : Nat} (h : ∀ j : Nat, j < c → (lookD d (id + j)).isSome = true) (hk : k < c) : (lookD (fillD d id T k) (id + k)).isSome = true := by
  rw [lookD_fill, if_neg (by omega)]
  exact h k hk
end Sp
theorem pageRdO (w : World) (M : Nat → Prop) (T : Txt) : PageRd w M (Sp.ovPg T) refs0 :=
  have h := pageRd0 w M refs0
  ⟨h.items, h.keys, h.kids, h.vals, h.free, h.txn⟩
theorem pcs_head {T : Txt} {c k : Nat} (h : k < c) : ((pcs T c).extract k c).getD 0 undef = .string ⟨(Sp.piece T k).toArray⟩ := by
  have hs : 0 < ((pcs T c).extract k c).size := by rw [Array.size_extract, pcs_size]; omega
  rw [Array.getD_eq_getD_getElem?, Array.getElem?_eq_getElem hs, Array.getElem_extract]
  simp [pcs, tv]
theorem pcs_tail (T : Txt) (c k : Nat) : ((pcs T c).extract k c).extract 1 ((pcs T c).extract k c).size = (pcs T c).extract (k + 1) c := by
  have hs : ((pcs T c).extract k c).size = c - k := by rw [Array.size_extract, pcs_size]; omega
  rw [hs, Array.extract_extract]
  congr 1
  omega
theorem Row.anti2 {w : World} {M M' : Nat → Prop} {A : Option Addr} {cs : List Value} (h : Row w M A cs) (hM : ∀ k, k < w.heap.size → M' k → M k) : Row w M' A cs := by
  refine ⟨h.1, ?_⟩
  rcases h.2 with h | ⟨b, off, e, hb, hm, hc⟩
  · exact .inl h
  · exact .inr ⟨b, off, e, hb, fun x => hm (hM _ hb x), hc⟩
theorem Items.anti2 {w : World} {M M' : Nat → Prop} {A : Option Addr} {l : List Sp.Item} (h : Items w M A l) (hM : ∀ k, k < w.heap.size → M' k → M k) : Items w M' A l := by
  refine ⟨h.1, ?_⟩
  rcases h.2 with h | ⟨b, off, e, hb, hm, hc⟩
  · exact .inl h
  · refine .inr ⟨b, off, e, hb, fun x => hm (hM _ hb x), fun k hk => ?_⟩
    obtain ⟨V, c, hi, ht⟩ := hc k hk
    exact ⟨V, c, hi, Row.anti2 ht hM⟩
theorem Frees.anti2 {w : World} {M M' : Nat → Prop} {A : Option Addr} {l : List Sp.Free} (h : Frees w M A l) (hM : ∀ k, k < w.heap.size → M' k → M k) : Frees w M' A l := by
  refine ⟨h.1, ?_⟩
  rcases h.2 with h | ⟨b, off, e, hb, hm, hc⟩
  · exact .inl h
  · refine .inr ⟨b, off, e, hb, fun x => hm (hM _ hb x), fun k hk => ?_⟩
    obtain ⟨V, c, hi, ht, hr⟩ := hc k hk
    exact ⟨V, c, hi, Row.anti2 ht hM, hr⟩
theorem PageRd.anti2 {w : World} {M M' : Nat → Prop} {p : Sp.Page} {r : Refs} (h : PageRd w M p r) (hM : ∀ k, k < w.heap.size → M' k → M k) : PageRd w M' p r :=
  ⟨h.items.anti2 hM, Row.anti2 h.keys hM, Row.anti2 h.kids hM, Row.anti2 h.vals hM, h.free.anti2 hM, h.txn⟩
theorem DPg.anti2 {w : World} {M M' : Nat → Prop} (hM : ∀ k, k < w.heap.size → M' k → M k) : ∀ {l : List (Int × Sp.Page)} {D : List (Int × Value)}, DPg w M l D → DPg w M' l D
  | [], _, h => h
  | _ :: _, _, ⟨r, E, e, h1, h2, h⟩ => ⟨r, E, e, h1.anti2 hM, h2, DPg.anti2 hM h⟩
/-- A block that is new may be turned without a page. -/
theorem StAt.newM {w w' : World} {M : Nat → Prop} {t f m d : Nat} {fv : Value} {V : List Txt} {s : Sp.Sto} {cc : Nat} (h : StAt w M t f m d fv V s) (hb : Below w.heap.size w w') (hcc : w.heap.size ≤ cc) (hcs : cc < w'.heap.size) : StAt w' (fun k => M k ∨ k = cc) t f m d fv V s := by
  have h0 : StAt w M t f m d fv V s := h
  obtain ⟨D, h4, h5⟩ := h.dm
  have h1 := h.go hb
  have h5' : DPg w (fun k => M k ∨ k = cc) s.d D := h5.anti2 fun k hk e => by
    rcases e with e | e
    · exact e
    · omega
  exact ⟨h1.bt, h1.fa, ⟨D, h4.go hb, h5'.chg (Chg.of_below hb)⟩, h.hm, ⟨.inl h.hM.1, .inl h.hM.2⟩, fun k hk => by
    rcases hk with hk | rfl
    · exact h1.lt k hk
    · exact hcs⟩
theorem StAt.oldM {w : World} {M : Nat → Prop} {t f m d : Nat} {fv : Value} {V : List Txt} {s : Sp.Sto} {cc : Nat} (h : StAt w (fun k => M k ∨ k = cc) t f m d fv V s) (hM : M t ∧ M d) : StAt w M t f m d fv V s := by
  obtain ⟨D, h4, h5⟩ := h.dm
  exact ⟨h.bt, h.fa, ⟨D, h4, h5.anti2 fun k _ e => .inl e⟩, h.hm, hM, fun k hk => h.lt k (.inl hk)⟩
theorem chg_setChan {S : Nat → Prop} {a b : World} {c : Nat} (h : Chg S a b) (hc : S c ∨ a.heap.size ≤ c) (cap : Nat) (buf : Array Value) (cl : Bool) (s r : Nat) (tm : Bool) : Chg S a (b.setChan c cap buf cl s r tm) :=
  ⟨h.os, h.tape, h.output, by rw [size_setChan]; exact h.size, fun k hk hs => by
    have : k ≠ c := by
      rintro rfl
      rcases hc with hc | hc
      · exact hs hc
      · omega
    simp only [World.setChan]
    rw [Array.getElem?_setIfInBounds_ne (by omega)]
    exact h.block k hk hs⟩
/-- A channel beside the store is turned. -/
theorem StAt.setChan {w : World} {M : Nat → Prop} {t f m d : Nat} {fv : Value} {V : List Txt} {s : Sp.Sto} {cc cap s0 r0 : Nat} {buf : Array Value} {cl tm : Bool} (h : StAt w M t f m d fv V s) (hM : M cc) (hc : w.heap[cc]? = some (.chan cap buf cl s0 r0 tm)) (cap' : Nat) (buf' : Array Value) (cl' : Bool) (s' r' : Nat) (tm' : Bool) :
    StAt (w.setChan cc cap' buf' cl' s' r' tm') M t f m d fv V s := by
  have hblk : ∀ {k : Nat} {ty : TypeId} {cs : Array Value}, Blk w k ty cs → k ≠ cc := fun {k ty cs} hb e => by
    have h1 : w.heap[k]? = _ := hb
    rw [e, hc] at h1
    cases h1
  obtain ⟨uf, ua, h1, h2, h3⟩ := h.bt
  obtain ⟨sv, hf⟩ := h.fa.bf
  obtain ⟨D, ⟨es, clock, hd, _⟩, _⟩ := h.dm
  refine h.chg (S := OneM cc) (chg_setChan (Chg.refl (OneM cc) w) (.inl rfl) cap' buf' cl' s' r' tm') (fun k hk => hk ▸ hM) (hblk h1) (hblk hf) (fun e => ?_) (fun e => ?_) (fun k hk e => ?_) (fun k cs hb => hblk hb)
  · obtain ⟨es, ck, hm, _⟩ := h.fa.map
    rw [e, hc] at hm
    cases hm
  · rw [e, hc] at hd
    cases hd
  · rcases h.fa.own.2 with ⟨e2, _⟩ | ⟨g, cap, cur, e2, _, hh, _⟩
    · rw [e2] at hk; simp [Value.ownBlock] at hk
    · rw [e2] at hk
      have : g = k := by simpa [Value.ownBlock] using hk
      exact hblk (this ▸ hh : Blk w k StrT cur) e
/-- In the loop: so many pieces are on their pages. -/
structure WrS (w : World) (M : Nat → Prop) (t f m d : Nat) (fv : Value) (V : List Txt) (s1 : Sp.Sto) (id : Int) (T : Txt) (c cc cap k : Nat) (W : World) : Prop where
  st : StAt W (fun k => M k ∨ k = cc) t f m d fv V { s1 with d := Sp.fillD s1.d id T k }
  ck : Chg (TwoM t d) w W
  ch : ∃ s q, W.heap[cc]? = some (.chan cap ((pcs T c).extract k c) false s q false)
  lt : cc < W.heap.size
set_option maxRecDepth 100000 in
set_option maxHeartbeats 1600000 in
theorem owrite_any (M : Nat → Prop) (t f m d : Nat) (fv : Value) (V : List Txt) (s : Sp.Sto) (T : Txt) (w : World) (h : StAt w M t f m d fv V s) (hok : s.Ok) (hT : T.length ≤ 1000000) :
    Calls Tryz.prog 45 #[.pointer (some ⟨t, 0, none⟩), .string ⟨T.toArray⟩] w fun e w' => e = .returned (.tuple #[.int .i64 (s.write T).1.1, erO (s.write T).1.2]) ∧ StAt w' M t f m d fv V (s.write T).2 ∧ Chg (TwoM t d) w w' := by
  have H := Lib.hid h
  have HL := Lib.hid (fun W => isLong_any (T.length : Int) W)
  rcases hlb : Sp.longB T.length with _ | _
  · have HR := Lib.hid (show s.write T = ((0, some 22), s) from if_pos hlb)
    rw [hlb] at HL
    clear h
    go_enter Tryz.func45, Tryz.ntmps45
    go_wp2_with (go_at_call 78; refine (HL.out _).mono ?_; rintro e w1 ⟨rfl, rfl⟩)
    refine bodyPost_ret (v := .tuple #[.int .i64 0, erO (some 22)]) (by simp [results, Tryz.results45, go_sem, erO]) rfl ⟨by rw [HR.out], by rw [HR.out]; exact H.out, Chg.refl _ _⟩
  · rw [hlb] at HL
    have hnb := Sp.longB_iff.1 hlb
    have HC := Lib.hid (fun W => count_any T.length W (by omega) (by omega))
    have HP := Lib.hid (fun W => pieces_any T (by omega) W)
    have hcn := Sp.cntO_le hlb
    have HRC := Lib.hid (stoRun_any M t f m d fv V s (Sp.cntO T.length) w h hok)
    have HMM := Lib.hid h.hM
    have HLT := Lib.hid (show t < w.heap.size ∧ d < w.heap.size from ⟨h.lt _ h.hM.1, h.lt _ h.hM.2⟩)
    have HW := Lib.hid (show s.write T = (match s.run (Sp.cntO T.length) with
      | ((id, none), s1) => ((id, none), { s1 with d := Sp.fillD s1.d id T (Sp.cntO T.length) })
      | ((_, some e), s1) => ((0, some e), s1)) from if_neg (by rw [hlb]; simp))
    rcases hr : s.run (Sp.cntO T.length) with ⟨⟨id, er⟩, s1⟩
    rw [hr] at HRC HW
    rcases er with _ | e
    · have HCT := Lib.hid (show 100 * Sp.cntO T.length < T.length + 100 from hcn.2.2.2)
      have HM := Lib.hid (Sp.run_made hr hok (by omega) (by omega))
      dsimp only at HW HRC
      clear h hlb hr
      generalize Sp.cntO T.length = c at *
      have hid := HM.out.2
      go_enter Tryz.func45, Tryz.ntmps45
      go_upto_region 7 with (first
        | (go_at_call 78; refine (HL.out _).mono ?_; rintro e w1 ⟨rfl, rfl⟩)
        | (go_at_call 46; refine (HC.out _).mono ?_; rintro e w1 ⟨rfl, rfl⟩)
        | (go_at_call 33; refine HRC.out.mono ?_; rintro e w2 ⟨rfl, hst2, hk2⟩; have ST2 := Lib.hid hst2; have CK2 := Lib.hid hk2; clear hst2 hk2; simp only [erO])
        | (go_at_call 79; refine (HP.out _).mono ?_; rintro e w3 ⟨cc, cap, sq, qq, rfl, hcc, hch, hb3⟩; have CC := Lib.hid hcc; have CH := Lib.hid hch; have HB3 := Lib.hid hb3; clear hcc hch hb3))
      have hz2 : w.heap.size ≤ w2.heap.size := CK2.out.size
      have hlt := HLT.out
      have hcc := CC.out
      have hne : cc ≠ t ∧ cc ≠ d := by omega
      have W0 := Lib.hid (show WrS w M t f m d fv V s1 id T c cc cap 0 w3 from ⟨ST2.out.newM HB3.out CC.out (Array.getElem?_eq_some_iff.1 CH.out).1, CK2.out.trans (Chg.of_below HB3.out), by
        have e : (pcs T c).extract 0 c = pcs T c := by
          have := Array.extract_size (xs := pcs T c)
          rw [pcs_size] at this
          exact this
        exact ⟨sq, qq, by rw [e]; exact CH.out⟩, (Array.getElem?_eq_some_iff.1 CH.out).1⟩)
      have hcc : w.heap.size ≤ cc := by omega
      clear CH CC HB3 ST2 CK2 HL HC HP HRC HLT hz2 hlt hnb hcn
      go_wp2_with fail
      go_loopw [9] (fun v wr => ∃ k : Nat, v = .int .i64 (id + (k : Int)) ∧ k ≤ c ∧ WrS w M t f m d fv V s1 id T c cc cap k wr) (fun v _ => (id + c - intOf v).toNat)
      case atStart => exact ⟨0, by simp, Nat.zero_le _, W0.out⟩
      case round =>
        obtain ⟨k, rfl, hk, hs⟩ := hrel
        have S := Lib.hid hs
        clear hs W0
        by_cases hkc : k < c
        · go_upto_region 10 with fail
          obtain ⟨sq, qq, hc⟩ := S.out.ch
          refine InReg.region ?_
          show InReg _ _ _ [0, 1, 2] _ _
          refine InReg.recv (w' := wr) (c := cc) (z := .string ⟨#[]⟩) rfl rfl (by simp [go_sem, execOp, rcase, Act.eval]) hc (by rw [Array.size_extract, pcs_size]; omega) ?_
          rw [pcs_head hkc, pcs_tail]
          have hlt4 := S.out.lt
          have ST4 := Lib.hid (S.out.st.setChan (.inr rfl) hc cap ((pcs T c).extract (k + 1) c) false sq (qq + 1) false)
          have CK4 := Lib.hid (chg_setChan S.out.ck (.inr hcc) cap ((pcs T c).extract (k + 1) c) false sq (qq + 1) false)
          have CH4 := Lib.hid (heap_setChan wr cc cap ((pcs T c).extract (k + 1) c) false sq (qq + 1) false hlt4)
          have LT4 := Lib.hid (show cc < (wr.setChan cc cap ((pcs T c).extract (k + 1) c) false sq (qq + 1) false).heap.size from by rw [size_setChan]; exact hlt4)
          clear hc S hlt4
          generalize wr.setChan cc cap ((pcs T c).extract (k + 1) c) false sq (qq + 1) false = W4 at *
          refine InReg.val (w' := W4) (v := goInt 0) rfl rfl (by simp [go_sem, execOp, Act.eval, Act.put]) ?_
          refine InReg.val (w' := W4) (v := .bool true) rfl rfl (by simp [go_sem, execOp, Act.eval, Act.put, goInt]) ?_
          refine InReg.nil ?_
          have HSY := Lib.hid (fun (r : Refs) => stoSet_any (fun k => M k ∨ k = cc) t f m d fv V { s1 with d := Sp.fillD s1.d id T k } (id + (k : Int)) (Sp.ovPg (Sp.piece T k)) refs0 W4 ST4.out (pageRdO W4 (TwoM t d) (Sp.piece T k)) (fun k h => h))
          obtain ⟨q, hq⟩ := Option.isSome_iff_exists.1 (Sp.fill_made (T := T) (fun j hj => HM.out.1 j (by omega)) hkc)
          rw [Sp.Sto.set_yes { s1 with d := Sp.fillD s1.d id T k } (id + (k : Int)) (Sp.ovPg (Sp.piece T k)) q hq (Sp.piece_is (by have := HCT.out; omega))] at HSY
          clear hq
          go_upto_region 14 with (go_at_call 38; refine (HSY.out refs0).mono ?_; rintro e w5 ⟨rfl, hst5, hk5⟩; have ST5 := Lib.hid hst5; have K5 := Lib.hid hk5; clear hst5 hk5; simp only [erO])
          have W5 := Lib.hid (show WrS w M t f m d fv V s1 id T c cc cap (k + 1) w5 from ⟨ST5.out, CK4.out.trans K5.out, ⟨sq, qq + 1, (K5.out.block cc LT4.out (fun e => by rcases e with e | e <;> omega)).trans CH4.out⟩, Nat.lt_of_lt_of_le LT4.out K5.out.size⟩)
          clear ST4 CK4 CH4 LT4 ST5 K5 HSY
          go_wp2_with fail
          go_roundw
          case rel => exact ⟨k + 1, by go_num, by omega, W5.out⟩
          case measure => simp [intOf]; omega
        · obtain rfl : k = c := by omega
          go_upto_region 10 with fail
          obtain ⟨sq, qq, hc⟩ := S.out.ch
          have he : (pcs T k).extract k k = #[] := by
            rw [Array.extract_eq_empty_iff]; omega
          rw [he] at hc
          refine InReg.region ?_
          show InReg _ _ _ [0, 1, 2] _ _
          refine InReg.default (w' := wr) (c := cc) (z := .string ⟨#[]⟩) rfl rfl (by simp [go_sem, execOp, rcase, Act.eval]) hc ?_
          refine InReg.val (w' := wr) (v := goInt (-1)) rfl rfl (by simp [go_sem, execOp, Act.eval, Act.put]) ?_
          refine InReg.val (w' := wr) (v := .bool false) rfl rfl (by simp [go_sem, execOp, Act.eval, Act.put, goInt]) ?_
          refine InReg.nil ?_
          go_wp2_with fail
          try rw [Exit.noGoto_ret]
          refine bodyPost_ret (v := .tuple #[.int .i64 id, erO none]) (by simp [results, Tryz.results45, go_sem, erO]) rfl ⟨by rw [HW.out], by rw [HW.out]; exact S.out.st.oldM HMM.out, S.out.ck⟩
    · have HW2 := Lib.hid (show s.write T = ((0, some e), s1) from HW.out)
      clear h hlb hr HW
      go_enter Tryz.func45, Tryz.ntmps45
      go_wp2_with (first
        | (go_at_call 78; refine (HL.out _).mono ?_; rintro e w1 ⟨rfl, rfl⟩)
        | (go_at_call 46; refine (HC.out _).mono ?_; rintro e w1 ⟨rfl, rfl⟩)
        | (go_at_call 33; refine HRC.out.mono ?_; rintro e w2 ⟨rfl, hst2, hk2⟩; have ST2 := Lib.hid hst2; have CK2 := Lib.hid hk2; clear hst2 hk2; simp only [erO]))
      refine bodyPost_ret (v := .tuple #[.int .i64 0, erO (some e)]) (by simp [results, Tryz.results45, go_sem, erO]) rfl ⟨by rw [HW2.out], by rw [HW2.out]; exact ST2.out, CK2.out⟩
end Go.Proofs.YtkcfmjlcijhieaaGreat
namespace Go.Proofs.YtkcfmjlcijhieaaGreat
open Go.RowKit
attribute [local go_sem low] mk_extract
attribute [local go_sem] After.cell After.frozen mk_extract_end ByteArray.mk_append_mk
namespace Sp
/-- A page of values. -/
def dpPg (l : List Txt) : Page := ⟨4, [], [], [], [], l, [], 0, mt0⟩
theorem dp_is {l : List Txt} (h : isVals l 4 12 = true) : isPage (dpPg l) = true := by
  have h0 : l ≠ [] := fun e => by subst e; revert h; decide
  simp [isPage, dpPg, has, h0, h]
end Sp
theorem itA_all (k : Txt) (kind : Int) (A : Option Addr) (n c : Nat) (dup : Int) : (itA k kind A n c dup).all (·.oneCell') = true := by
  rw [Array.all_eq_true_iff_forall_mem]
  intro u hu
  simp only [List.mem_toArray, List.mem_cons, List.not_mem_nil, or_false] at hu
  rcases hu with rfl | rfl | rfl | rfl | rfl | rfl | rfl | rfl | rfl | rfl <;> rfl
abbrev itZ0 : Array Value := #[.string ⟨#[]⟩, .int .i64 0, .string ⟨#[]⟩, .int .i64 0, .int .i64 0, .slice none 0 0, .int .i64 0, .int .i64 0, .int .i64 0, .int .i64 0]
theorem StAt.not_kind {w : World} {M : Nat → Prop} {t f m d : Nat} {fv : Value} {V : List Txt} {s : Sp.Sto} (h : StAt w M t f m d fv V s) {ty : TypeId} (hne : StoT ≠ ty) : ∀ k cs, Blk w k ty cs → ¬ TwoM t d k := fun k cs hb e => by
  rcases e with rfl | rfl
  · obtain ⟨uf, ua, h1, _, _⟩ := h.bt
    exact h1.not_ hne _ hb
  · obtain ⟨D, hD, _⟩ := h.dm
    exact hD.not_blk hb
theorem StAt.newMs {w w' : World} {M N : Nat → Prop} {t f m d : Nat} {fv : Value} {V : List Txt} {s : Sp.Sto} (h : StAt w M t f m d fv V s) (hb : Below w.heap.size w w') (hN : ∀ k, N k → w.heap.size ≤ k ∧ k < w'.heap.size) : StAt w' (fun k => M k ∨ N k) t f m d fv V s := by
  obtain ⟨D, h4, h5⟩ := h.dm
  have h1 := h.go hb
  have h5' : DPg w (fun k => M k ∨ N k) s.d D := h5.anti2 fun k hk e => by
    rcases e with e | e
    · exact e
    · have := (hN k e).1; omega
  exact ⟨h1.bt, h1.fa, ⟨D, h4.go hb, h5'.chg (Chg.of_below hb)⟩, h.hm, ⟨.inl h.hM.1, .inl h.hM.2⟩, fun k hk => by
    rcases hk with hk | hk
    · exact h1.lt k hk
    · exact (hN k hk).2⟩
theorem StAt.oldMs {w : World} {M N : Nat → Prop} {t f m d : Nat} {fv : Value} {V : List Txt} {s : Sp.Sto} (h : StAt w (fun k => M k ∨ N k) t f m d fv V s) (hM : M t ∧ M d) : StAt w M t f m d fv V s := by
  obtain ⟨D, h4, h5⟩ := h.dm
  exact ⟨h.bt, h.fa, ⟨D, h4, h5.anti2 fun k _ e => .inl e⟩, h.hm, hM, fun k hk => h.lt k (.inl hk)⟩
theorem StAt.one {W W' : World} {M : Nat → Prop} {t f m d : Nat} {fv : Value} {V : List Txt} {s : Sp.Sto} (h : StAt W M t f m d fv V s) {g : Nat} {cs : Array Value} (hg : Blk W g ItemT cs) (hM : M g) (hk : Chg (OneM g) W W') : StAt W' M t f m d fv V s := by
  have hblk : ∀ {k : Nat} {ty : TypeId} {cs : Array Value}, Blk W k ty cs → ty ≠ ItemT → k ≠ g := fun {k ty cs'} hb hne e => hb.not_ hne _ (e ▸ hg)
  obtain ⟨uf, ua, h1, _, _⟩ := h.bt
  obtain ⟨sv, hf⟩ := h.fa.bf
  obtain ⟨D, hD, _⟩ := h.dm
  refine h.chg hk (fun k e => e ▸ hM) (hblk h1 (by decide)) (hblk hf (by decide)) (fun e => ?_) (fun e => ?_) (fun k hk' e => ?_) (fun k cs hb => hblk hb (by decide))
  · obtain ⟨es, ck, hm, _⟩ := h.fa.map
    have h2 : W.heap[g]? = _ := hg
    rw [← e, hm] at h2
    cases h2
  · exact hD.not_blk (e ▸ hg)
  · rcases h.fa.own.2 with ⟨e2, _⟩ | ⟨g', cap, cur, e2, _, hh, _⟩
    · rw [e2] at hk'; simp [Value.ownBlock] at hk'
    · rw [e2] at hk'
      have e3 : g' = k := by simpa [Value.ownBlock] using hk'
      have hh2 : Blk W g' StrT cur := hh
      exact hblk hh2 (by decide) (e3.trans e)
theorem chg_setRowN {S : Nat → Prop} {a b : World} {g : Nat} (h : Chg S a b) (hg : S g ∨ a.heap.size ≤ g) (cs : Array Value) : Chg S a (b.setRow g cs) :=
  ⟨h.os, h.tape, h.output, by have := h.size; simpa [World.setRow] using this, fun k hk hs => by
    have : k ≠ g := by
      rintro rfl
      rcases hg with hg | hg
      · exact hs hg
      · omega
    rw [setRow_other b g k cs this]
    exact h.block k hk hs⟩
/-- An item in the making beside the store. -/
structure WdS (w : World) (M : Nat → Prop) (t f m d : Nat) (fv : Value) (V : List Txt) (s : Sp.Sto) (A : Option Addr) (l : List Txt) (b0 b1 b2 : Nat) (X Z O : Array Value) (W : World) : Prop where
  st : StAt W (fun k => M k ∨ (k = b1 ∨ k = b2)) t f m d fv V s
  ck : Chg (TwoM t d) w W
  bx : Blk W b0 ItemT X
  bz : Blk W b1 ItemT Z
  bo : Blk W b2 ItemT O
  ge : w.heap.size ≤ b0 ∧ w.heap.size ≤ b1 ∧ w.heap.size ≤ b2
  ne : b0 ≠ b1 ∧ b1 ≠ b2 ∧ b0 ≠ b2
  tx : Txts W (fun k => TwoM t d k ∨ w.heap.size ≤ k) A l
section
variable {w W W' : World} {M : Nat → Prop} {t f m d : Nat} {fv : Value} {V : List Txt} {s s' : Sp.Sto} {A : Option Addr} {l : List Txt} {b0 b1 b2 : Nat} {X Z O : Array Value}
theorem WdS.turn (h : WdS w M t f m d fv V s A l b0 b1 b2 X Z O W) (hs : StAt W' (fun k => M k ∨ (k = b1 ∨ k = b2)) t f m d fv V s') (hk : Chg (TwoM t d) W W') : WdS w M t f m d fv V s' A l b0 b1 b2 X Z O W' :=
  have hn := h.st.not_kind (ty := ItemT) (by decide)
  ⟨hs, h.ck.trans hk, h.bx.chg hk (hn _ _ h.bx), h.bz.chg hk (hn _ _ h.bz), h.bo.chg hk (hn _ _ h.bo), h.ge, h.ne, h.tx.chg (hk.mono fun _ _ h => .inl h)⟩
theorem WdS.go (h : WdS w M t f m d fv V s A l b0 b1 b2 X Z O W) (hb : Below W.heap.size W W') : WdS w M t f m d fv V s A l b0 b1 b2 X Z O W' :=
  h.turn (h.st.go hb) (Chg.of_below hb)
theorem WdS.setO (h : WdS w M t f m d fv V s A l b0 b1 b2 X Z O W) (i : Nat) (u : Value) : WdS w M t f m d fv V s A l b0 b1 b2 X Z (O.setIfInBounds i u) (W.setCell ⟨b2, i, none⟩ u) :=
  ⟨h.st.one h.bo (.inr (.inr rfl)) (Chg.set1 W b2 i u), h.ck.setCell (p := ⟨b2, i, none⟩) (.inr h.ge.2.2) u, h.bx.far h.ne.2.2 u, h.bz.far h.ne.2.1 u, h.bo.set_ i u, h.ge, h.ne, h.tx.chg ((Chg.set1 W b2 i u).mono fun k _ e => .inr (by have : k = b2 := e; have := h.ge.2.2; omega))⟩
theorem WdS.new_ (h : StAt w M t f m d fv V s) (ht : Txts w (TwoM t d) A l) (X Z O : Array Value) : WdS w M t f m d fv V s A l w.heap.size (w.heap.size + 1) (w.heap.size + 2) X Z O (((w.alloc (.cells X ItemT)).alloc (.cells Z ItemT)).alloc (.cells O ItemT)) := by
  have e1 : (w.alloc (.cells X ItemT)).heap.size = w.heap.size + 1 := by simp
  have e2 : ((w.alloc (.cells X ItemT)).alloc (.cells Z ItemT)).heap.size = w.heap.size + 2 := by simp
  have hb : Below w.heap.size w (((w.alloc (.cells X ItemT)).alloc (.cells Z ItemT)).alloc (.cells O ItemT)) := (((Below.refl _ _).alloc (Nat.le_refl _) _).alloc (by rw [e1]; omega) _).alloc (by rw [e2]; omega) _
  have h1 := Blk.new w ItemT X
  have h2 := Blk.new (w.alloc (.cells X ItemT)) ItemT Z
  have h3 := Blk.new ((w.alloc (.cells X ItemT)).alloc (.cells Z ItemT)) ItemT O
  rw [e1] at h2
  rw [e2] at h3
  refine ⟨h.newMs hb fun k e => ?_, Chg.of_below hb, (h1.alloc _).alloc _, h2.alloc _, h3, ⟨by omega, by omega, by omega⟩, ⟨by omega, by omega, by omega⟩, Txts.go (Row.anti2 ht fun k hk e => ?_) hb⟩
  · rw [World.size_alloc, e2]
    rcases e with rfl | rfl <;> omega
  · rcases e with e | e
    · exact e
    · omega
end
set_option maxRecDepth 100000 in
set_option maxHeartbeats 1600000 in
theorem with_in (M : Nat → Prop) (t f m d : Nat) (fv : Value) (V : List Txt) (s : Sp.Sto) (k : Txt) (kind : Int) (A0 : Option Addr) (n0 c0 : Nat) (i : Int) (l : List Txt) (A : Option Addr) (c : Nat) (w : World) (h : StAt w M t f m d fv V s) (hok : s.Ok) (hl : l.length ≤ 3) (ht : Txts w (TwoM t d) A l) :
    Calls Tryz.prog 82 #[.pointer (some ⟨t, 0, none⟩), .agg (itA k kind A0 n0 c0 i), .slice A l.length c] w fun e w' => e = .returned (.tuple #[.agg (itA k 3 A l.length c 0), .nilIface]) ∧ StAt w' M t f m d fv V (Sp.dropZ s i) ∧ Chg (TwoM t d) w w' := by
  have HN := Lib.hid (WdS.new_ h ht (itA k kind A0 n0 c0 i) itZ0 (itA k 3 none 0 0 0))
  have HMM := Lib.hid h.hM
  clear h ht
  go_enter Tryz.func82, Tryz.ntmps82
  go_upto_region 2 with (refine wpList_new ItemT _ _ rfl rfl rfl rfl rfl rfl _ rfl (of_decide_eq_true (by kernel_rfl)) (by kernel_rfl) (by kernel_rfl) (by kernel_rfl) ?_)
  refine wp_gen _ HN.out ?_
  intro W1 hW1
  have S1 := Lib.hid hW1
  clear hW1 HN
  have f5 := S1.out.bo.frozen 5
  have c5 : W1.cell? ⟨w.heap.size + 2, 5, none⟩ = some (.slice none 0 0) := S1.out.bo.cell 5
  go_upto_region 4 with fail
  refine wp_gen _ (S1.out.setO 5 (.slice A l.length c)) ?_
  intro W2 hW2
  have S2 := Lib.hid (show WdS w M t f m d fv V s A l w.heap.size (w.heap.size + 1) (w.heap.size + 2) (itA k kind A0 n0 c0 i) itZ0 (itA k 3 A l.length c 0) W2 from hW2)
  clear hW2 S1 f5 c5
  have HD := Lib.hid (ddrop_any _ t f m d fv V s k kind A0 n0 c0 i W2 S2.out.st hok)
  go_upto_region 5 with (first
    | (refine wpList_row ItemT _ rfl w.heap.size rfl rfl ItemT _ (0, 0) _ S2.out.bx Tryz.underlying90 rfl rfl ?_)
    | (go_at_call 113; refine HD.out.mono ?_; rintro e w3 ⟨rfl, hst3, hk3⟩; have S3 := Lib.hid (S2.out.turn hst3 hk3); clear hst3 hk3))
  clear HD S2
  go_wp2_with (first
    | (refine wpList_row ItemT _ rfl (w.heap.size + 2) rfl rfl ItemT _ (0, 0) _ S3.out.bo Tryz.underlying90 rfl rfl ?_)
    | (refine wpList_store_row rfl ItemT _ _ rfl (w.heap.size + 1) _ rfl rfl ItemT _ S3.out.bz (by kernel_rfl) rfl (itA_all _ _ _ _ _ _) ?_))
  obtain ⟨z0, z1, z2, z3, z4, z5, z6, z7, z8, z9⟩ := (S3.out.bz.row (ds := itA k 3 A l.length c 0)).at10.1
  refine bodyPost_ret (v := .tuple #[.agg (itA k 3 A l.length c 0), .nilIface]) (by simp [results, Tryz.results82, go_sem, z0, z1, z2, z3, z4, z5, z6, z7, z8, z9]) rfl ⟨rfl, ?_, chg_setRowN S3.out.ck (.inr (by omega)) _⟩
  exact (S3.out.st.one S3.out.bz (.inr (.inl rfl)) (chg_setRowN (Chg.refl (OneM _) _) (.inl rfl) _)).oldMs HMM.out
end Go.Proofs.YtkcfmjlcijhieaaGreat
namespace Go.Proofs.YtkcfmjlcijhieaaGreat
open Go.RowKit
attribute [local go_sem low] mk_extract
attribute [local go_sem] After.cell After.frozen mk_extract_end ByteArray.mk_append_mk
namespace Sp
theorem lt_eq (a b : Txt) : lt a b = decide (a < b) := bytesLess_eq a b
theorem lt_irr (a : Txt) : lt a a = false := by
  rw [lt_eq]
  exact decide_eq_false (List.lt_irrefl a)
theorem lt_trans {a b c : Txt} (h1 : lt a b = true) (h2 : lt b c = true) : lt a c = true := by
  rw [lt_eq] at *
  exact decide_eq_true (List.lt_trans (of_decide_eq_true h1) (of_decide_eq_true h2))
theorem lt_asymm {a b : Txt} (h : lt a b = true) : lt b a = false := by
  rcases hb : lt b a with _ | _
  · rfl
  · exact absurd (lt_trans h hb) (by rw [lt_irr]; simp)
theorem lt_tri (a b : Txt) : lt a b = true ∨ a = b ∨ lt b a = true := by
  rw [lt_eq, lt_eq]
  by_cases h1 : a < b
  · exact .inl (decide_eq_true h1)
  · by_cases h2 : b < a
    · exact .inr (.inr (decide_eq_true h2))
    · exact .inr (.inl (List.le_antisymm (List.not_lt.1 h2) (List.not_lt.1 h1)))
theorem lt_nilF (a : Txt) : lt a [] = false := by
  unfold lt Op.bytesLess
  rfl
/-- An item put into a leaf's. -/
def insIt (x : Item) : List Item → List Item
  | [] => [x]
  | y :: l => if lt y.key x.key then y :: insIt x l else if y.key = x.key then x :: l else x :: y :: l
/-- Items whose keys rise. -/
def Rising (l : List Item) : Prop := l.Pairwise fun a b => lt a.key b.key = true
theorem insIt_len (x : Item) : ∀ l : List Item, l.length ≤ (insIt x l).length ∧ (insIt x l).length ≤ l.length + 1
  | [] => by simp [insIt]
  | y :: l => by
    have := insIt_len x l
    unfold insIt
    split
    · simp; omega
    · split <;> simp
theorem mem_insIt {x y : Item} : ∀ {l : List Item}, y ∈ insIt x l → y = x ∨ y ∈ l
  | [], h => by simpa [insIt] using h
  | z :: l, h => by
    unfold insIt at h
    split at h
    · rcases List.mem_cons.1 h with h | h
      · exact .inr (by simp [h])
      · rcases mem_insIt h with h | h
        · exact .inl h
        · exact .inr (by simp [h])
    · split at h
      · rcases List.mem_cons.1 h with h | h
        · exact .inl h
        · exact .inr (by simp [h])
      · rcases List.mem_cons.1 h with h | h
        · exact .inl h
        · exact .inr h
theorem insIt_rising (x : Item) : ∀ {l : List Item}, Rising l → Rising (insIt x l)
  | [], _ => by simp [insIt, Rising]
  | y :: l, h => by
    obtain ⟨h1, h2⟩ := List.pairwise_cons.1 h
    unfold insIt
    split
    · rename_i hy
      refine List.pairwise_cons.2 ⟨fun z hz => ?_, insIt_rising x h2⟩
      rcases mem_insIt hz with rfl | hz
      · exact hy
      · exact h1 z hz
    · rename_i hy
      split
      · rename_i he
        exact List.pairwise_cons.2 ⟨fun z hz => by rw [← he]; exact h1 z hz, h2⟩
      · rename_i he
        have hxy : lt x.key y.key = true := by
          rcases lt_tri y.key x.key with h' | h' | h'
          · exact absurd h' hy
          · exact absurd h' he
          · exact h'
        exact List.pairwise_cons.2 ⟨fun z hz => by
          rcases List.mem_cons.1 hz with rfl | hz
          · exact hxy
          · exact lt_trans hxy (h1 z hz), h⟩
/-- Put into one of two rows, where it belongs. -/
theorem insIt_left {x : Item} : ∀ {l r : List Item}, (∀ y ∈ r, lt x.key y.key = true) → insIt x (l ++ r) = insIt x l ++ r
  | [], [], _ => rfl
  | [], y :: r, h => by
    have hy := h y (by simp)
    show insIt x (y :: r) = [x] ++ y :: r
    unfold insIt
    rw [if_neg (by rw [lt_asymm hy]; simp), if_neg (fun e => by rw [e, lt_irr] at hy; simp at hy)]
    rfl
  | z :: l, r, h => by
    rw [List.cons_append]
    unfold insIt
    split
    · rw [insIt_left h]; rfl
    · split <;> rfl
theorem insIt_right {x : Item} : ∀ {l r : List Item}, (∀ y ∈ l, lt y.key x.key = true) → insIt x (l ++ r) = l ++ insIt x r
  | [], _, _ => rfl
  | z :: l, r, h => by
    rw [List.cons_append]
    show insIt x (z :: (l ++ r)) = z :: (l ++ insIt x r)
    rw [insIt, if_pos (h z (by simp)), insIt_right fun y hy => h y (by simp [hy])]
end Sp
end Go.Proofs.YtkcfmjlcijhieaaGreat
namespace Go.Proofs.YtkcfmjlcijhieaaGreat
open Go.RowKit
attribute [local go_sem low] mk_extract
attribute [local go_sem] After.cell After.frozen mk_extract_end ByteArray.mk_append_mk
namespace Sp
/-- Values that rise, each of them one that may be. -/
structure SrtV (l : List Txt) : Prop where
  up : l.Pairwise (fun a b => lt a b = true)
  ok : ∀ x ∈ l, 1 ≤ x.length ∧ x.length ≤ 12
theorem SrtV.nil : SrtV [] := ⟨List.Pairwise.nil, fun _ h => by cases h⟩
theorem SrtV.one {v : Txt} (h : 1 ≤ v.length ∧ v.length ≤ 12) : SrtV [v] := ⟨List.pairwise_singleton _ _, fun x hx => by rw [List.mem_singleton.1 hx]; exact h⟩
theorem isVals_of {l : List Txt} (h : SrtV l) (h4 : 4 ≤ l.length) (h12 : l.length ≤ 12) : isVals l 4 12 = true := by
  unfold isVals
  rw [Bool.and_eq_true, Bool.and_eq_true]
  refine ⟨⟨allTo_true fun j hj => ?_, decide_eq_true (by omega)⟩, decide_eq_true (by omega)⟩
  have hg : l.getD j [] = l[j] := by simp [List.getD, hj]
  have ho := h.ok l[j] (List.getElem_mem hj)
  unfold valAt
  rw [hg, decide_eq_true ho.1, decide_eq_true ho.2, Bool.true_and, Bool.true_and]
  by_cases h0 : j = 0
  · rw [decide_eq_true h0, Bool.true_or]
  · have hj1 : j - 1 < l.length := by omega
    have hg1 : l.getD (j - 1) [] = l[j - 1] := by simp [List.getD, hj1]
    rw [hg1, List.pairwise_iff_getElem.1 h.up (j - 1) j hj1 hj (by omega), Bool.or_true]
theorem plc_take : ∀ (l : List Txt) (v : Txt), ∀ x ∈ l.take (plc l v), lt x v = true
  | [], _, _, h => by simp at h
  | y :: l, v, x, h => by
    unfold plc at h
    by_cases hy : lt y v = true
    · rw [if_pos hy, List.take_succ_cons] at h
      rcases List.mem_cons.1 h with rfl | h
      · exact hy
      · exact plc_take l v x h
    · rw [if_neg hy] at h
      simp at h
theorem plc_head : ∀ {l : List Txt} {v y : Txt} {r : List Txt}, l.drop (plc l v) = y :: r → lt y v = false
  | [], _, _, _, h => by simp at h
  | z :: l, v, y, r, h => by
    unfold plc at h
    by_cases hz : lt z v = true
    · rw [if_pos hz, List.drop_succ_cons] at h
      exact plc_head h
    · rw [if_neg hz, List.drop_zero] at h
      have e : z = y := (List.cons.inj h).1
      rw [← e]
      rcases hb : lt z v with _ | _
      · rfl
      · exact absurd hb hz
theorem plc_cases (l : List Txt) (v : Txt) : (l.drop (plc l v) = [] ∧ hasV l v = false) ∨ ∃ y r, l.drop (plc l v) = y :: r ∧ lt y v = false ∧ plc l v < l.length ∧ hasV l v = decide (y = v) := by
  rcases hd : l.drop (plc l v) with _ | ⟨y, r⟩
  · refine .inl ⟨rfl, ?_⟩
    have : l.length ≤ plc l v := List.drop_eq_nil_iff.1 hd
    unfold hasV
    rw [decide_eq_false (by omega), Bool.false_and]
  · have hlt : plc l v < l.length := by
      have := congrArg List.length hd
      rw [List.length_drop, List.length_cons] at this
      omega
    refine .inr ⟨y, r, rfl, plc_head hd, hlt, ?_⟩
    have hy : l.getD (plc l v) [] = y := by
      have := List.drop_eq_getElem_cons hlt
      rw [hd] at this
      rw [(List.cons.inj this).1]
      simp [List.getD, hlt]
    unfold hasV
    rw [hy, decide_eq_true hlt, Bool.true_and]
theorem hasV_iff {l : List Txt} (h : SrtV l) (v : Txt) : hasV l v = true ↔ v ∈ l := by
  have hsplit : l = l.take (plc l v) ++ l.drop (plc l v) := (List.take_append_drop _ _).symm
  rcases plc_cases l v with ⟨hd, hh⟩ | ⟨y, r, hd, hy, _, hh⟩
  · rw [hh]
    refine ⟨fun e => (by cases e), fun hm => ?_⟩
    rw [hsplit, hd, List.append_nil] at hm
    have := plc_take l v v hm
    rw [lt_irr] at this
    cases this
  · rw [hh, decide_eq_true_iff]
    constructor
    · rintro rfl
      rw [hsplit, hd]
      simp
    · intro hm
      rw [hsplit, hd] at hm
      rcases List.mem_append.1 hm with hm | hm
      · have := plc_take l v v hm
        rw [lt_irr] at this
        cases this
      · rcases List.mem_cons.1 hm with e | hm
        · exact e.symm
        · have hup := h.up
          rw [hsplit, hd] at hup
          have := (List.pairwise_cons.1 (List.pairwise_append.1 hup).2.1).1 v hm
          rw [hy] at this
          cases this
/-- Values with one more. -/
def insT (v : Txt) (l : List Txt) : List Txt := l.take (plc l v) ++ v :: l.drop (plc l v)
theorem mem_insT {v x : Txt} {l : List Txt} : x ∈ insT v l ↔ x = v ∨ x ∈ l := by
  unfold insT
  constructor
  · intro h
    rcases List.mem_append.1 h with h | h
    · exact .inr (List.mem_of_mem_take h)
    · rcases List.mem_cons.1 h with h | h
      · exact .inl h
      · exact .inr (List.mem_of_mem_drop h)
  · rintro (rfl | h)
    · simp
    · rw [← List.take_append_drop (plc l v) l] at h
      rcases List.mem_append.1 h with h | h
      · exact List.mem_append.2 (.inl h)
      · exact List.mem_append.2 (.inr (List.mem_cons.2 (.inr h)))
theorem insT_len (v : Txt) (l : List Txt) : (insT v l).length = l.length + 1 := by
  have := plc_le l v
  unfold insT
  rw [List.length_append, List.length_cons, List.length_take, List.length_drop]
  omega
theorem insT_srt {v : Txt} {l : List Txt} (h : SrtV l) (hv : 1 ≤ v.length ∧ v.length ≤ 12) (hn : hasV l v = false) : SrtV (insT v l) := by
  refine ⟨?_, fun x hx => ?_⟩
  · have hup := h.up
    have hsplit : l = l.take (plc l v) ++ l.drop (plc l v) := (List.take_append_drop _ _).symm
    rw [hsplit] at hup
    obtain ⟨u1, u2, u3⟩ := List.pairwise_append.1 hup
    have hR : ∀ x ∈ l.drop (plc l v), lt v x = true := fun x hx => by
      rcases plc_cases l v with ⟨hd, _⟩ | ⟨y, r, hd, hy, _, hh⟩
      · rw [hd] at hx; cases hx
      · rw [hn] at hh
        have hyv : y ≠ v := of_decide_eq_false hh.symm
        have hvy : lt v y = true := by
          rcases lt_tri v y with h | h | h
          · exact h
          · exact absurd h.symm hyv
          · rw [hy] at h; cases h
        rw [hd] at hx u2
        rcases List.mem_cons.1 hx with rfl | hx
        · exact hvy
        · exact lt_trans hvy ((List.pairwise_cons.1 u2).1 x hx)
    refine List.pairwise_append.2 ⟨u1, List.pairwise_cons.2 ⟨hR, u2⟩, fun x hx y hy => ?_⟩
    rcases List.mem_cons.1 hy with rfl | hy
    · exact plc_take l y x hx
    · exact u3 x hx y hy
  · rcases mem_insT.1 hx with rfl | hx
    · exact hv
    · exact h.ok x hx
theorem era_srt {l : List Txt} (h : SrtV l) (k : Nat) : SrtV (l.eraseIdx k) :=
  ⟨h.up.sublist (List.eraseIdx_sublist ..), fun x hx => h.ok x (List.mem_of_mem_eraseIdx hx)⟩
/-- What the store has where these values are a key's. -/
structure DuSt (l : List Txt) (s : Sto) : Prop where
  ok : s.Ok
  most : s.most = 400
  few : l.length ≤ 3 → s.d = [] ∧ ((s.avail = [] ∧ s.last = 2) ∨ (s.avail = [2] ∧ s.last = 3))
  many : 3 < l.length → s.d = [(2, dpPg l)] ∧ s.avail = [] ∧ s.last = 3
theorem DuSt.zero : DuSt [] (Sto.new 2 400 []) := ⟨Sto.new_ok 2 400 [], rfl, fun _ => ⟨rfl, .inl ⟨rfl, rfl⟩⟩, fun h => by simp at h⟩
/-- The page that the item of these values names. -/
def duP (l : List Txt) : Int := if l.length ≤ 3 then 0 else 2
theorem DuSt.look {l : List Txt} {s : Sto} (h : DuSt l s) (hl : 3 < l.length) : lookD s.d 2 = some (dpPg l) := by
  rw [(h.many hl).1]
  rfl
/-- Few values: the page is let go. -/
theorem DuSt.fall {l l' : List Txt} {s : Sto} (h : DuSt l s) (hl : l'.length ≤ 3) : DuSt l' (dropZ s (duP l)) := by
  unfold duP dropZ
  by_cases h3 : l.length ≤ 3
  · rw [if_pos h3, if_pos rfl]
    exact ⟨h.ok, h.most, fun _ => h.few h3, fun h => by omega⟩
  · rw [if_neg h3, if_neg (by decide)]
    obtain ⟨hd, ha, hla⟩ := h.many (by omega)
    have hdr := s.drop_made 2 _ (h.look (by omega))
    have hok := h.ok.drop 2
    rw [hdr] at hok ⊢
    refine ⟨hok, h.most, fun _ => ⟨?_, .inr ⟨?_, hla⟩⟩, fun h => by omega⟩
    · show delD s.d 2 = []
      rw [hd]; rfl
    · show insI 2 s.avail = [2]
      rw [ha]; rfl
/-- Many values now: a page is made. -/
theorem DuSt.rise {l l' : List Txt} {s : Sto} (h : DuSt l s) (hl : l.length ≤ 3) (hl' : 3 < l'.length) (hv : isVals l' 4 12 = true) : ∃ s1, s.add (dpPg l') = ((2, none), s1) ∧ DuSt l' s1 := by
  obtain ⟨hd, hav⟩ := h.few hl
  have hok := h.ok.add (dpPg l')
  have hm := h.most
  rcases hav with ⟨ha, hla⟩ | ⟨ha, hla⟩
  · have e := Sto.add_last ha (dp_is hv) (by rw [hd]; decide) (by omega)
    rw [e] at hok ⊢
    rw [hla]
    refine ⟨_, rfl, ?_⟩
    rw [hla] at hok
    exact ⟨hok, hm, fun h => by omega, fun _ => ⟨by show putD s.d 2 _ = _; rw [hd]; rfl, ha, rfl⟩⟩
  · have e := Sto.add_avail ha (dp_is hv) (by rw [hd]; decide) h.ok.avail
    rw [e] at hok ⊢
    exact ⟨_, rfl, hok, hm, fun h => by omega, fun _ => ⟨by show putD s.d 2 _ = _; rw [hd]; rfl, rfl, hla⟩⟩
/-- Many values still: the page is filled anew. -/
theorem DuSt.stay {l l' : List Txt} {s : Sto} (h : DuSt l s) (hl : 3 < l.length) (hl' : 3 < l'.length) : DuSt l' { s with d := putD s.d 2 (dpPg l') } := by
  obtain ⟨hd, ha, hla⟩ := h.many hl
  have hk : (putD s.d 2 (dpPg l')).map (·.1) = s.d.map (·.1) := by rw [hd]; rfl
  exact ⟨h.ok.keys_eq hk, h.most, fun h => by omega, fun _ => ⟨by show putD s.d 2 _ = _; rw [hd]; rfl, ha, hla⟩⟩
end Sp
end Go.Proofs.YtkcfmjlcijhieaaGreat
