/- Long values in the package's store: read, dropped. Long values in the package's store: written. -/
import Derived.Test.YtkcfmjlcijhieaaGreatQB24
import Derived.Test.YtkcfmjlcijhieaaGreatQPKeeps05
set_option linter.unusedSimpArgs false
set_option linter.unusedVariables false
namespace Go.Proofs.YtkcfmjlcijhieaaGreat
open Go.RowKit
attribute [local go_sem low] mk_extract
attribute [local go_sem] After.cell After.frozen mk_extract_end ByteArray.mk_append_mk
open Go.Conc
namespace Sp
theorem readTo_step {s : Sto} {V : List Txt} {run n : Int} {k : Nat} {t : Txt} (h : readTo s V run n k = (t, none)) : readTo s V run n (k + 1) = match s.read V (run + k) with
      | (_, some e) => ([], some e)
      | (p, none) => if p.kind = 3 ∧ (p.text.length : Int) = min (n - 100 * k) 100 then (t ++ p.text, none) else ([], some 12) := by
  show (match readTo s V run n k with
    | (_, some e) => ([], some e)
    | (t, none) => match s.read V (run + k) with
      | (_, some e) => ([], some e)
      | (p, none) => if p.kind = 3 ∧ (p.text.length : Int) = min (n - 100 * k) 100 then (t ++ p.text, none) else ([], some 12)) = _
  rw [h]
theorem dropTo_ok {s : Sto} (h : s.Ok) (run : Int) : ∀ k : Nat, (dropTo s run k).Ok
  | 0 => h
  | k + 1 => (dropTo_ok h run k).drop (run + k)
end Sp
theorem wpList_gen9 {P : Program} {ops rest : _} {a : Act} {w : World} {Q : Exit → Act → World → Prop} (R : World → Prop) (hR : R w) (h : ∀ W, R W → wpList P ops Q rest a W) : wpList P ops Q rest a w := h w hR
set_option maxRecDepth 100000 in
set_option maxHeartbeats 1600000 in
theorem odrop_any (M : Nat → Prop) (t f m d : Nat) (fv : Value) (V : List Txt) (s : Sp.Sto) (run n : Int) (w : World) (h : StAt w M t f m d fv V s) (hok : s.Ok) (hn : -1000000 ≤ n ∧ n ≤ 1000000) (hr : -1000000 ≤ run ∧ run ≤ 1000000) :
    Calls Tryz.prog 48 #[.pointer (some ⟨t, 0, none⟩), .int .i64 run, .int .i64 n] w fun e w' => e = .returned (.tuple #[]) ∧ StAt w' M t f m d fv V (Sp.dropTo s run (Sp.cntO n)) ∧ Chg (TwoM t d) w w' := by
  have H := Lib.hid h
  have HC := Lib.hid (count_any n w hn.1 hn.2)
  have HCB := Lib.hid (show Sp.cntO n ≤ 10001 from by unfold Sp.cntO; split <;> omega)
  clear h hn
  generalize Sp.cntO n = c at *
  have hcb := HCB.out
  go_enter Tryz.func48, Tryz.ntmps48
  go_upto_region 1 with (go_at_call 46; refine HC.out.mono ?_; rintro e w1 ⟨rfl, rfl⟩)
  go_loopw [9] (fun i wr => ∃ k : Nat, k ≤ c ∧ i = .int .i64 k ∧ StAt wr M t f m d fv V (Sp.dropTo s run k) ∧ Chg (TwoM t d) w wr) (fun i _ => c - (intOf i).toNat)
  case atStart => exact ⟨0, by omega, rfl, H.out, Chg.refl _ _⟩
  case round =>
    obtain ⟨k, hk, rfl, hs, hck⟩ := hrel
    have S := Lib.hid hs
    have CK := Lib.hid hck
    clear hs hck
    by_cases hkc : k < c
    · have HD := Lib.hid (stoDrop_any M t f m d fv V (Sp.dropTo s run k) (run + k) wr S.out (Sp.dropTo_ok hok run k))
      go_wp2_with (go_at_call 34; refine HD.out.mono ?_; rintro e w2 ⟨rfl, hst2, hk2⟩; have S2 := Lib.hid hst2; have CK2 := Lib.hid (CK.out.trans hk2); clear hst2 hk2)
      go_roundw
      case rel => exact ⟨k + 1, by omega, by go_num, S2.out, CK2.out⟩
      case measure => simp [intOf]; omega
    · obtain rfl : k = c := by omega
      go_wp2_with fail
      go_end0
      exact ⟨by simp, S.out, CK.out⟩
set_option maxRecDepth 100000 in
set_option maxHeartbeats 1600000 in
theorem oread_any (M : Nat → Prop) (t f m d : Nat) (fv : Value) (V : List Txt) (s : Sp.Sto) (run n : Int) (w : World) (h : StAt w M t f m d fv V s) (hok : s.Ok) (hV : V.length ≤ 400) (hn : -1000000 ≤ n ∧ n ≤ 1000000) (hr : -1000000 ≤ run ∧ run ≤ 1000000) :
    Calls Tryz.prog 47 #[.pointer (some ⟨t, 0, none⟩), .int .i64 run, .int .i64 n] w fun e w' => e = .returned (.tuple #[.string ⟨(s.readO V run n).1.toArray⟩, erO (s.readO V run n).2]) ∧ Below w.heap.size w w' := by
  have H := Lib.hid h
  have HL := Lib.hid (isLong_any n w)
  rcases hlb : Sp.longB n with _ | _
  · have HR := Lib.hid (show s.readO V run n = ([], some 22) from if_pos hlb)
    rw [hlb] at HL
    clear h
    go_enter Tryz.func47, Tryz.ntmps47
    go_wp2_with (go_at_call 78; refine HL.out.mono ?_; rintro e w1 ⟨rfl, rfl⟩)
    refine bodyPost_ret (v := .tuple #[.string ⟨#[]⟩, erO (some 22)]) (by simp [results, Tryz.results47, go_sem, erO]) rfl ⟨by rw [HR.out], Below.refl _ _⟩
  · have HR := Lib.hid (show s.readO V run n = Sp.readTo s V run n (Sp.cntO n) from if_neg (by rw [hlb]; simp))
    rw [hlb] at HL
    have hnb := Sp.longB_iff.1 hlb
    have HC := Lib.hid (count_any n w hn.1 hn.2)
    have HCB := Lib.hid (show Sp.cntO n ≤ 10 ∧ n ≤ 100 * (Sp.cntO n : Int) from by unfold Sp.cntO; split <;> omega)
    clear h hlb
    generalize Sp.cntO n = c at *
    have hcb := HCB.out
    go_enter Tryz.func47, Tryz.ntmps47
    go_upto_region 5 with (first
      | (go_at_call 78; refine HL.out.mono ?_; rintro e w1 ⟨rfl, rfl⟩)
      | (go_at_call 46; refine HC.out.mono ?_; rintro e w1 ⟨rfl, rfl⟩))
    go_loopw [8, 18] (fun o i wr => ∃ (k : Nat) (x : Txt), k ≤ c ∧ i = .int .i64 k ∧ o = .string ⟨x.toArray⟩ ∧ x.length ≤ 100 * k ∧ Sp.readTo s V run n k = (x, none) ∧ Below w.heap.size w wr) (fun _ i _ => c - (intOf i).toNat)
    case atStart => exact ⟨0, [], by omega, rfl, rfl, Nat.zero_le _, rfl, Below.refl _ _⟩
    case round =>
      obtain ⟨k, x, hk, rfl, rfl, hxk, hx, hb⟩ := hrel
      have HB := Lib.hid hb
      have HX := Lib.hid hx
      clear hb hx
      by_cases hkc : k < c
      · have HST := Lib.hid (Sp.readTo_step HX.out)
        have HRD := Lib.hid (stoRead_any M t f m d fv V s (run + k) wr (H.out.go HB.out) hok hV)
        rcases hrd : s.read V (run + k) with ⟨p, er⟩
        rw [hrd] at HRD HST
        rcases er with _ | e
        · dsimp only at HST HRD
          go_upto_region 8 with (first
            | (go_at_call 37; refine HRD.out.mono ?_; rintro e w2 ⟨r2, rfl, _, hb2⟩; rw [pv14]; have HB2 := Lib.hid (HB.out.trans (hb2.mono HB.out.size)); clear hb2; simp only [erO])
            | (refine wpList_new PageT _ _ rfl rfl rfl rfl rfl rfl _ rfl (of_decide_eq_true (by kernel_rfl)) (by kernel_rfl) (by kernel_rfl) (by kernel_rfl) ?_; refine wpList_gen9 (fun W => Below w.heap.size w W ∧ W.cell? ⟨w2.heap.size, 0, none⟩ = some (.int .i64 p.kind) ∧ W.cell? ⟨w2.heap.size, 4, none⟩ = some (.string ⟨p.text.toArray⟩)) ⟨HB2.out.alloc HB2.out.size _, (Blk.new w2 PageT _).cell 0, (Blk.new w2 PageT _).cell 4⟩ ?_; rintro w3 ⟨hb3, hc0, hc4⟩; have HB3 := Lib.hid hb3; clear hb3))
          clear HB2 HRD hrd
          by_cases hk3 : p.kind = 3
          · rw [hk3] at hc0
            by_cases hl : (p.text.length : Int) = min (n - 100 * k) 100
            · have HS2 := Lib.hid (HST.out.trans (if_pos ⟨hk3, hl⟩))
              clear HST
              have hxn : ¬ 9223372036854775807 < x.length + p.text.length := by omega
              go_wp2_with fail
              go_roundw
              case rel => exact ⟨k + 1, x ++ p.text, by omega, by go_num, by simp, by rw [List.length_append]; omega, HS2.out, HB3.out⟩
              case measure => simp [intOf]; omega
            · have HS2 := Lib.hid (HST.out.trans (if_neg fun h => hl h.2))
              have HS3 := Lib.hid (Sp.readTo_bad HS2.out (j := c) (by omega))
              clear HST HS2
              go_wp2_with fail
              try rw [Exit.noGoto_ret]
              refine bodyPost_ret (v := .tuple #[.string ⟨#[]⟩, erO (some 12)]) (by simp [results, Tryz.results47, go_sem, erO]) rfl ⟨by rw [HR.out, HS3.out], HB3.out⟩
          · have HS2 := Lib.hid (HST.out.trans (if_neg fun h => hk3 h.1))
            have HS3 := Lib.hid (Sp.readTo_bad HS2.out (j := c) (by omega))
            clear HST HS2
            go_wp2_with fail
            try rw [Exit.noGoto_ret]
            refine bodyPost_ret (v := .tuple #[.string ⟨#[]⟩, erO (some 12)]) (by simp [results, Tryz.results47, go_sem, erO]) rfl ⟨by rw [HR.out, HS3.out], HB3.out⟩
        · dsimp only at HST HRD
          have HS3 := Lib.hid (Sp.readTo_bad HST.out (j := c) (by omega))
          clear HST
          go_upto_region 8 with (first
            | (go_at_call 37; refine HRD.out.mono ?_; rintro e w2 ⟨r2, rfl, _, hb2⟩; rw [pv14]; have HB2 := Lib.hid (HB.out.trans (hb2.mono HB.out.size)); clear hb2; simp only [erO])
            | (refine wpList_new PageT _ _ rfl rfl rfl rfl rfl rfl _ rfl (of_decide_eq_true (by kernel_rfl)) (by kernel_rfl) (by kernel_rfl) (by kernel_rfl) ?_; refine wpList_gen9 (fun W => Below w.heap.size w W) (HB2.out.alloc HB2.out.size _) ?_; rintro w3 hb3; have HB3 := Lib.hid hb3; clear hb3))
          clear HB2 HRD hrd
          go_wp2_with fail
          try rw [Exit.noGoto_ret]
          refine bodyPost_ret (v := .tuple #[.string ⟨#[]⟩, erO (some e)]) (by simp [results, Tryz.results47, go_sem, erO]) rfl ⟨by rw [HR.out, HS3.out], HB3.out⟩
      · obtain rfl : k = c := by omega
        go_wp2_with fail
        try rw [Exit.noGoto_ret]
        refine bodyPost_ret (v := .tuple #[.string ⟨x.toArray⟩, erO none]) (by simp [results, Tryz.results47, go_sem, erO]) rfl ⟨by rw [HR.out, HX.out], HB.out⟩
end Go.Proofs.YtkcfmjlcijhieaaGreat
namespace Go.Proofs.YtkcfmjlcijhieaaGreat
open Go.RowKit
attribute [local go_sem low] mk_extract
attribute [local go_sem] After.cell After.frozen mk_extract_end ByteArray.mk_append_mk
open Go.Conc
namespace Sp
theorem run_made {s s1 : Sto} {n id : Int} (h : s.run n = ((id, none), s1)) (hok : s.Ok) (h1 : 1 ≤ n) (h2 : n ≤ 120) : (∀ j : Nat, (j : Int) < n → (lookD s1.d (id + j)).isSome = true) ∧ 2 ≤ id ∧ id + n ≤ 400 := by
  rw [s.run_mid n h1 h2] at h
  have ho := hok.numbers h1
  generalize s.numbers n = r at *
  obtain ⟨⟨i, er⟩, s'⟩ := r
  rcases er with _ | e
  · dsimp only at h ho
    have e1 := congrArg (fun x => x.1.1) h
    have e2 := congrArg (fun x => x.2.d) h
    dsimp only at e1 e2
    subst e1
    refine ⟨fun j hj => ?_, (ho.2.2.2.2 rfl).1, (ho.2.2.2.2 rfl).2.1⟩
    rw [← e2, lookD_run, if_pos (by omega)]
    rfl
  · exact absurd (congrArg (fun x => x.1.2) h) (by simp)
theorem fill_made {d : List (Int × Page)} {id : Int} {T : Txt} {c k : Nat} (h : ∀ j : Nat, j < c → (lookD d (id + j)).isSome = true) (hk : k < c) : (lookD (fillD d id T k) (id + k)).isSome = true := by
  rw [lookD_fill, if_neg (by omega)]
  exact h k hk
end Sp
theorem pageRdO (w : World) (M : Nat → Prop) (T : Txt) : PageRd w M (Sp.ovPg T) refs0 :=
  have h := pageRd0 w M refs0
  ⟨h.items, h.keys, h.kids, h.vals, h.free, h.txn⟩
theorem pcs_head {T : Txt} {c k : Nat} (h : k < c) : ((pcs T c).extract k c).getD 0 undef = .string ⟨(Sp.piece T k).toArray⟩ := by
  have hs : 0 < ((pcs T c).extract k c).size := by rw [Array.size_extract, pcs_size]; omega
  rw [Array.getD_eq_getD_getElem?, Array.getElem?_eq_getElem hs, Array.getElem_extract]
  simp [pcs, tv]
theorem pcs_tail (T : Txt) (c k : Nat) : ((pcs T c).extract k c).extract 1 ((pcs T c).extract k c).size = (pcs T c).extract (k + 1) c := by
  have hs : ((pcs T c).extract k c).size = c - k := by rw [Array.size_extract, pcs_size]; omega
  rw [hs, Array.extract_extract]
  congr 1
  omega
theorem Row.anti2 {w : World} {M M' : Nat → Prop} {A : Option Addr} {cs : List Value} (h : Row w M A cs) (hM : ∀ k, k < w.heap.size → M' k → M k) : Row w M' A cs := by
  refine ⟨h.1, ?_⟩
  rcases h.2 with h | ⟨b, off, e, hb, hm, hc⟩
  · exact .inl h
  · exact .inr ⟨b, off, e, hb, fun x => hm (hM _ hb x), hc⟩
theorem Items.anti2 {w : World} {M M' : Nat → Prop} {A : Option Addr} {l : List Sp.Item} (h : Items w M A l) (hM : ∀ k, k < w.heap.size → M' k → M k) : Items w M' A l := by
  refine ⟨h.1, ?_⟩
  rcases h.2 with h | ⟨b, off, e, hb, hm, hc⟩
  · exact .inl h
  · refine .inr ⟨b, off, e, hb, fun x => hm (hM _ hb x), fun k hk => ?_⟩
    obtain ⟨V, c, hi, ht⟩ := hc k hk
    exact ⟨V, c, hi, Row.anti2 ht hM⟩
theorem Frees.anti2 {w : World} {M M' : Nat → Prop} {A : Option Addr} {l : List Sp.Free} (h : Frees w M A l) (hM : ∀ k, k < w.heap.size → M' k → M k) : Frees w M' A l := by
  refine ⟨h.1, ?_⟩
  rcases h.2 with h | ⟨b, off, e, hb, hm, hc⟩
  · exact .inl h
  · refine .inr ⟨b, off, e, hb, fun x => hm (hM _ hb x), fun k hk => ?_⟩
    obtain ⟨V, c, hi, ht, hr⟩ := hc k hk
    exact ⟨V, c, hi, Row.anti2 ht hM, hr⟩
theorem PageRd.anti2 {w : World} {M M' : Nat → Prop} {p : Sp.Page} {r : Refs} (h : PageRd w M p r) (hM : ∀ k, k < w.heap.size → M' k → M k) : PageRd w M' p r :=
  ⟨h.items.anti2 hM, Row.anti2 h.keys hM, Row.anti2 h.kids hM, Row.anti2 h.vals hM, h.free.anti2 hM, h.txn⟩
theorem DPg.anti2 {w : World} {M M' : Nat → Prop} (hM : ∀ k, k < w.heap.size → M' k → M k) : ∀ {l : List (Int × Sp.Page)} {D : List (Int × Value)}, DPg w M l D → DPg w M' l D
  | [], _, h => h
  | _ :: _, _, ⟨r, E, e, h1, h2, h⟩ => ⟨r, E, e, h1.anti2 hM, h2, DPg.anti2 hM h⟩
/-- A block that is new may be turned without a page. -/
theorem StAt.newM {w w' : World} {M : Nat → Prop} {t f m d : Nat} {fv : Value} {V : List Txt} {s : Sp.Sto} {cc : Nat} (h : StAt w M t f m d fv V s) (hb : Below w.heap.size w w') (hcc : w.heap.size ≤ cc) (hcs : cc < w'.heap.size) : StAt w' (fun k => M k ∨ k = cc) t f m d fv V s := by
  have h0 : StAt w M t f m d fv V s := h
  obtain ⟨D, h4, h5⟩ := h.dm
  have h1 := h.go hb
  have h5' : DPg w (fun k => M k ∨ k = cc) s.d D := h5.anti2 fun k hk e => by
    rcases e with e | e
    · exact e
    · omega
  exact ⟨h1.bt, h1.fa, ⟨D, h4.go hb, h5'.chg (Chg.of_below hb)⟩, h.hm, ⟨.inl h.hM.1, .inl h.hM.2⟩, fun k hk => by
    rcases hk with hk | rfl
    · exact h1.lt k hk
    · exact hcs⟩
theorem StAt.oldM {w : World} {M : Nat → Prop} {t f m d : Nat} {fv : Value} {V : List Txt} {s : Sp.Sto} {cc : Nat} (h : StAt w (fun k => M k ∨ k = cc) t f m d fv V s) (hM : M t ∧ M d) : StAt w M t f m d fv V s := by
  obtain ⟨D, h4, h5⟩ := h.dm
  exact ⟨h.bt, h.fa, ⟨D, h4, h5.anti2 fun k _ e => .inl e⟩, h.hm, hM, fun k hk => h.lt k (.inl hk)⟩
theorem chg_setChan {S : Nat → Prop} {a b : World} {c : Nat} (h : Chg S a b) (hc : S c ∨ a.heap.size ≤ c) (cap : Nat) (buf : Array Value) (cl : Bool) (s r : Nat) (tm : Bool) : Chg S a (b.setChan c cap buf cl s r tm) :=
  ⟨h.os, h.tape, h.output, by rw [size_setChan]; exact h.size, fun k hk hs => by
    have : k ≠ c := by
      rintro rfl
      rcases hc with hc | hc
      · exact hs hc
      · omega
    simp only [World.setChan]
    rw [Array.getElem?_setIfInBounds_ne (by omega)]
    exact h.block k hk hs⟩
/-- A channel beside the store is turned. -/
theorem StAt.setChan {w : World} {M : Nat → Prop} {t f m d : Nat} {fv : Value} {V : List Txt} {s : Sp.Sto} {cc cap s0 r0 : Nat} {buf : Array Value} {cl tm : Bool} (h : StAt w M t f m d fv V s) (hM : M cc) (hc : w.heap[cc]? = some (.chan cap buf cl s0 r0 tm)) (cap' : Nat) (buf' : Array Value) (cl' : Bool) (s' r' : Nat) (tm' : Bool) :
    StAt (w.setChan cc cap' buf' cl' s' r' tm') M t f m d fv V s := by
  have hblk : ∀ {k : Nat} {ty : TypeId} {cs : Array Value}, Blk w k ty cs → k ≠ cc := fun {k ty cs} hb e => by
    have h1 : w.heap[k]? = _ := hb
    rw [e, hc] at h1
    cases h1
  obtain ⟨uf, ua, h1, h2, h3⟩ := h.bt
  obtain ⟨sv, hf⟩ := h.fa.bf
  obtain ⟨D, ⟨es, clock, hd, _⟩, _⟩ := h.dm
  refine h.chg (S := OneM cc) (chg_setChan (Chg.refl (OneM cc) w) (.inl rfl) cap' buf' cl' s' r' tm') (fun k hk => hk ▸ hM) (hblk h1) (hblk hf) (fun e => ?_) (fun e => ?_) (fun k hk e => ?_) (fun k cs hb => hblk hb)
  · obtain ⟨es, ck, hm, _⟩ := h.fa.map
    rw [e, hc] at hm
    cases hm
  · rw [e, hc] at hd
    cases hd
  · rcases h.fa.own.2 with ⟨e2, _⟩ | ⟨g, cap, cur, e2, _, hh, _⟩
    · rw [e2] at hk; simp [Value.ownBlock] at hk
    · rw [e2] at hk
      have : g = k := by simpa [Value.ownBlock] using hk
      exact hblk (this ▸ hh : Blk w k StrT cur) e
/-- In the loop: so many pieces are on their pages. -/
structure WrS (w : World) (M : Nat → Prop) (t f m d : Nat) (fv : Value) (V : List Txt) (s1 : Sp.Sto) (id : Int) (T : Txt) (c cc cap k : Nat) (W : World) : Prop where
  st : StAt W (fun k => M k ∨ k = cc) t f m d fv V { s1 with d := Sp.fillD s1.d id T k }
  ck : Chg (TwoM t d) w W
  ch : ∃ s q, W.heap[cc]? = some (.chan cap ((pcs T c).extract k c) false s q false)
  lt : cc < W.heap.size
set_option maxRecDepth 100000 in
set_option maxHeartbeats 1600000 in
theorem owrite_any (M : Nat → Prop) (t f m d : Nat) (fv : Value) (V : List Txt) (s : Sp.Sto) (T : Txt) (w : World) (h : StAt w M t f m d fv V s) (hok : s.Ok) (hT : T.length ≤ 1000000) :
    Calls Tryz.prog 45 #[.pointer (some ⟨t, 0, none⟩), .string ⟨T.toArray⟩] w fun e w' => e = .returned (.tuple #[.int .i64 (s.write T).1.1, erO (s.write T).1.2]) ∧ StAt w' M t f m d fv V (s.write T).2 ∧ Chg (TwoM t d) w w' := by
  have H := Lib.hid h
  have HL := Lib.hid (fun W => isLong_any (T.length : Int) W)
  rcases hlb : Sp.longB T.length with _ | _
  · have HR := Lib.hid (show s.write T = ((0, some 22), s) from if_pos hlb)
    rw [hlb] at HL
    clear h
    go_enter Tryz.func45, Tryz.ntmps45
    go_wp2_with (go_at_call 78; refine (HL.out _).mono ?_; rintro e w1 ⟨rfl, rfl⟩)
    refine bodyPost_ret (v := .tuple #[.int .i64 0, erO (some 22)]) (by simp [results, Tryz.results45, go_sem, erO]) rfl ⟨by rw [HR.out], by rw [HR.out]; exact H.out, Chg.refl _ _⟩
  · rw [hlb] at HL
    have hnb := Sp.longB_iff.1 hlb
    have HC := Lib.hid (fun W => count_any T.length W (by omega) (by omega))
    have HP := Lib.hid (fun W => pieces_any T (by omega) W)
    have hcn := Sp.cntO_le hlb
    have HRC := Lib.hid (stoRun_any M t f m d fv V s (Sp.cntO T.length) w h hok)
    have HMM := Lib.hid h.hM
    have HLT := Lib.hid (show t < w.heap.size ∧ d < w.heap.size from ⟨h.lt _ h.hM.1, h.lt _ h.hM.2⟩)
    have HW := Lib.hid (show s.write T = (match s.run (Sp.cntO T.length) with
      | ((id, none), s1) => ((id, none), { s1 with d := Sp.fillD s1.d id T (Sp.cntO T.length) })
      | ((_, some e), s1) => ((0, some e), s1)) from if_neg (by rw [hlb]; simp))
    rcases hr : s.run (Sp.cntO T.length) with ⟨⟨id, er⟩, s1⟩
    rw [hr] at HRC HW
    rcases er with _ | e
    · have HCT := Lib.hid (show 100 * Sp.cntO T.length < T.length + 100 from hcn.2.2.2)
      have HM := Lib.hid (Sp.run_made hr hok (by omega) (by omega))
      dsimp only at HW HRC
      clear h hlb hr
      generalize Sp.cntO T.length = c at *
      have hid := HM.out.2
      go_enter Tryz.func45, Tryz.ntmps45
      go_upto_region 7 with (first
        | (go_at_call 78; refine (HL.out _).mono ?_; rintro e w1 ⟨rfl, rfl⟩)
        | (go_at_call 46; refine (HC.out _).mono ?_; rintro e w1 ⟨rfl, rfl⟩)
        | (go_at_call 33; refine HRC.out.mono ?_; rintro e w2 ⟨rfl, hst2, hk2⟩; have ST2 := Lib.hid hst2; have CK2 := Lib.hid hk2; clear hst2 hk2; simp only [erO])
        | (go_at_call 79; refine (HP.out _).mono ?_; rintro e w3 ⟨cc, cap, sq, qq, rfl, hcc, hch, hb3⟩; have CC := Lib.hid hcc; have CH := Lib.hid hch; have HB3 := Lib.hid hb3; clear hcc hch hb3))
      have hz2 : w.heap.size ≤ w2.heap.size := CK2.out.size
      have hlt := HLT.out
      have hcc := CC.out
      have hne : cc ≠ t ∧ cc ≠ d := by omega
      have W0 := Lib.hid (show WrS w M t f m d fv V s1 id T c cc cap 0 w3 from ⟨ST2.out.newM HB3.out CC.out (Array.getElem?_eq_some_iff.1 CH.out).1, CK2.out.trans (Chg.of_below HB3.out), by
        have e : (pcs T c).extract 0 c = pcs T c := by
          have := Array.extract_size (xs := pcs T c)
          rw [pcs_size] at this
          exact this
        exact ⟨sq, qq, by rw [e]; exact CH.out⟩, (Array.getElem?_eq_some_iff.1 CH.out).1⟩)
      have hcc : w.heap.size ≤ cc := by omega
      clear CH CC HB3 ST2 CK2 HL HC HP HRC HLT hz2 hlt hnb hcn
      go_wp2_with fail
      go_loopw [9] (fun v wr => ∃ k : Nat, v = .int .i64 (id + (k : Int)) ∧ k ≤ c ∧ WrS w M t f m d fv V s1 id T c cc cap k wr) (fun v _ => (id + c - intOf v).toNat)
      case atStart => exact ⟨0, by simp, Nat.zero_le _, W0.out⟩
      case round =>
        obtain ⟨k, rfl, hk, hs⟩ := hrel
        have S := Lib.hid hs
        clear hs W0
        by_cases hkc : k < c
        · go_upto_region 10 with fail
          obtain ⟨sq, qq, hc⟩ := S.out.ch
          refine InReg.region ?_
          show InReg _ _ _ [0, 1, 2] _ _
          refine InReg.recv (w' := wr) (c := cc) (z := .string ⟨#[]⟩) rfl rfl (by simp [go_sem, execOp, rcase, Act.eval]) hc (by rw [Array.size_extract, pcs_size]; omega) ?_
          rw [pcs_head hkc, pcs_tail]
          have hlt4 := S.out.lt
          have ST4 := Lib.hid (S.out.st.setChan (.inr rfl) hc cap ((pcs T c).extract (k + 1) c) false sq (qq + 1) false)
          have CK4 := Lib.hid (chg_setChan S.out.ck (.inr hcc) cap ((pcs T c).extract (k + 1) c) false sq (qq + 1) false)
          have CH4 := Lib.hid (heap_setChan wr cc cap ((pcs T c).extract (k + 1) c) false sq (qq + 1) false hlt4)
          have LT4 := Lib.hid (show cc < (wr.setChan cc cap ((pcs T c).extract (k + 1) c) false sq (qq + 1) false).heap.size from by rw [size_setChan]; exact hlt4)
          clear hc S hlt4
          generalize wr.setChan cc cap ((pcs T c).extract (k + 1) c) false sq (qq + 1) false = W4 at *
          refine InReg.val (w' := W4) (v := goInt 0) rfl rfl (by simp [go_sem, execOp, Act.eval, Act.put]) ?_
          refine InReg.val (w' := W4) (v := .bool true) rfl rfl (by simp [go_sem, execOp, Act.eval, Act.put, goInt]) ?_
          refine InReg.nil ?_
          have HSY := Lib.hid (fun (r : Refs) => stoSet_any (fun k => M k ∨ k = cc) t f m d fv V { s1 with d := Sp.fillD s1.d id T k } (id + (k : Int)) (Sp.ovPg (Sp.piece T k)) refs0 W4 ST4.out (pageRdO W4 (TwoM t d) (Sp.piece T k)) (fun k h => h))
          obtain ⟨q, hq⟩ := Option.isSome_iff_exists.1 (Sp.fill_made (T := T) (fun j hj => HM.out.1 j (by omega)) hkc)
          rw [Sp.Sto.set_yes { s1 with d := Sp.fillD s1.d id T k } (id + (k : Int)) (Sp.ovPg (Sp.piece T k)) q hq (Sp.piece_is (by have := HCT.out; omega))] at HSY
          clear hq
          go_upto_region 14 with (go_at_call 38; refine (HSY.out refs0).mono ?_; rintro e w5 ⟨rfl, hst5, hk5⟩; have ST5 := Lib.hid hst5; have K5 := Lib.hid hk5; clear hst5 hk5; simp only [erO])
          have W5 := Lib.hid (show WrS w M t f m d fv V s1 id T c cc cap (k + 1) w5 from ⟨ST5.out, CK4.out.trans K5.out, ⟨sq, qq + 1, (K5.out.block cc LT4.out (fun e => by rcases e with e | e <;> omega)).trans CH4.out⟩, Nat.lt_of_lt_of_le LT4.out K5.out.size⟩)
          clear ST4 CK4 CH4 LT4 ST5 K5 HSY
          go_wp2_with fail
          go_roundw
          case rel => exact ⟨k + 1, by go_num, by omega, W5.out⟩
          case measure => simp [intOf]; omega
        · obtain rfl : k = c := by omega
          go_upto_region 10 with fail
          obtain ⟨sq, qq, hc⟩ := S.out.ch
          have he : (pcs T k).extract k k = #[] := by
            rw [Array.extract_eq_empty_iff]; omega
          rw [he] at hc
          refine InReg.region ?_
          show InReg _ _ _ [0, 1, 2] _ _
          refine InReg.default (w' := wr) (c := cc) (z := .string ⟨#[]⟩) rfl rfl (by simp [go_sem, execOp, rcase, Act.eval]) hc ?_
          refine InReg.val (w' := wr) (v := goInt (-1)) rfl rfl (by simp [go_sem, execOp, Act.eval, Act.put]) ?_
          refine InReg.val (w' := wr) (v := .bool false) rfl rfl (by simp [go_sem, execOp, Act.eval, Act.put, goInt]) ?_
          refine InReg.nil ?_
          go_wp2_with fail
          try rw [Exit.noGoto_ret]
          refine bodyPost_ret (v := .tuple #[.int .i64 id, erO none]) (by simp [results, Tryz.results45, go_sem, erO]) rfl ⟨by rw [HW.out], by rw [HW.out]; exact S.out.st.oldM HMM.out, S.out.ck⟩
    · have HW2 := Lib.hid (show s.write T = ((0, some e), s1) from HW.out)
      clear h hlb hr HW
      go_enter Tryz.func45, Tryz.ntmps45
      go_wp2_with (first
        | (go_at_call 78; refine (HL.out _).mono ?_; rintro e w1 ⟨rfl, rfl⟩)
        | (go_at_call 46; refine (HC.out _).mono ?_; rintro e w1 ⟨rfl, rfl⟩)
        | (go_at_call 33; refine HRC.out.mono ?_; rintro e w2 ⟨rfl, hst2, hk2⟩; have ST2 := Lib.hid hst2; have CK2 := Lib.hid hk2; clear hst2 hk2; simp only [erO]))
      refine bodyPost_ret (v := .tuple #[.int .i64 0, erO (some e)]) (by simp [results, Tryz.results45, go_sem, erO]) rfl ⟨by rw [HW2.out], by rw [HW2.out]; exact ST2.out, CK2.out⟩
end Go.Proofs.YtkcfmjlcijhieaaGreat
