/- As many pages as may be, in plain Lean. New numbers: the law's walk. As many pages as may be: the law's walk. StoreMany: whatever the input: true; the input reads as it did. -/
import Derived.Test.YtkcfmjlcijhieaaGreatQB00
import Derived.Test.YtkcfmjlcijhieaaGreatQB16
import Derived.Test.YtkcfmjlcijhieaaGreatQB22
import Derived.Test.YtkcfmjlcijhieaaGreatQB24
import Derived.Test.YtkcfmjlcijhieaaGreatQB25
import Derived.SizedLaws
set_option linter.unusedSimpArgs false
set_option linter.unusedVariables false
namespace Go.Proofs.YtkcfmjlcijhieaaGreat
open Go.RowKit
attribute [local go_sem low] mk_extract
attribute [local go_sem] After.cell After.frozen mk_extract_end ByteArray.mk_append_mk
namespace Sp
theorem putD_new {α : Type} {D : List (Int × α)} {i : Int} {v : α} (h : lookD D i = none) : putD D i v = D ++ [(i, v)] := by
  unfold putD
  rw [if_neg (by rw [h]; simp)]
theorem delD_one {α : Type} {D : List (Int × α)} {i : Int} {v : α} (hn : (D.map (·.1)).Nodup) (h : lookD D i = some v) : (delD D i).length + 1 = D.length := by
  have hm := lookD_mem h
  obtain ⟨j, hj, e⟩ := List.getElem_of_mem hm
  rw [delD_at (v := v) (j := j) hn (by rw [List.getElem?_eq_getElem hj, e]), List.length_eraseIdx, if_pos hj]
  omega
/-- So many pages are made. -/
structure Full (k : Nat) (s : Sto) : Prop where
  ok : s.Ok
  avail : s.avail = []
  freed : s.freed = []
  last : s.last = 2 + k
  most : s.most = 400
  keys : s.d.map (·.1) = (List.range k).map fun j : Nat => 2 + (j : Int)
theorem Full.len {k : Nat} {s : Sto} (h : Full k s) : s.d.length = k := by
  have := congrArg List.length h.keys
  simpa using this
theorem Full.zero : Full 0 (Sto.new 2 400 []) := ⟨Sto.new_ok 2 400 [], rfl, rfl, rfl, rfl, rfl⟩
theorem Full.add {k : Nat} {s : Sto} (h : Full k s) (hk : k < 120) {p : Page} (hp : isPage p = true) : s.add p = ((2 + (k : Int), none), { s with last := s.last + 1, d := putD s.d s.last p }) ∧ Full (k + 1) { s with last := s.last + 1, d := putD s.d s.last p } := by
  have hl := h.len
  have hla := h.last
  have hmo := h.most
  have e := Sto.add_last (p := p) h.avail hp (by omega) (by omega)
  have hno : lookD s.d s.last = none := lookD_none.2 fun x hx e => by
    have : x.1 ∈ s.d.map (·.1) := List.mem_map.2 ⟨x, hx, rfl⟩
    rw [h.keys] at this
    obtain ⟨j, hj, e2⟩ := List.mem_map.1 this
    have := List.mem_range.1 hj
    omega
  have hok := h.ok.add p
  rw [e] at hok
  refine ⟨by rw [e, hla], hok, h.avail, h.freed, by show s.last + 1 = _; rw [hla]; omega, h.most, ?_⟩
  show (putD s.d s.last p).map (·.1) = _
  rw [putD_new hno, List.map_append, h.keys, List.range_succ, List.map_append, hla]
  rfl
theorem Full.more {s : Sto} (h : Full 120 s) {p : Page} (hp : isPage p = true) : s.add p = ((0, some 17), s) ∧ s.run 1 = ((0, some 17), s) := by
  have hl := h.len
  have e : s.numbers 1 = ((0, some 17), s) := by
    unfold Sto.numbers
    rw [if_pos (by omega)]
  refine ⟨by rw [s.add_yes p hp, e], ?_⟩
  rw [s.run_mid 1 (by omega) (by omega), e]
theorem Full.drop {s : Sto} (h : Full 120 s) {j : Nat} (hj : j < 120) : ∃ q, lookD s.d (2 + (j : Int)) = some q ∧ s.drop (2 + (j : Int)) = { s with d := delD s.d (2 + (j : Int)), avail := [2 + (j : Int)] } ∧ (delD s.d (2 + (j : Int))).length = 119 := by
  have hm : 2 + (j : Int) ∈ s.d.map (·.1) := by
    rw [h.keys]
    exact List.mem_map.2 ⟨j, List.mem_range.2 hj, rfl⟩
  obtain ⟨x, hx, hxe⟩ := List.mem_map.1 hm
  have hq : lookD s.d (2 + (j : Int)) = some x.2 := lookD_of_mem h.ok.nodup (by rw [← hxe]; exact hx)
  have hl := h.len
  have := delD_one h.ok.nodup hq
  refine ⟨x.2, hq, ?_, by omega⟩
  rw [s.drop_made _ _ hq, h.avail]
  rfl
end Sp
end Go.Proofs.YtkcfmjlcijhieaaGreat
namespace Go.Proofs.YtkcfmjlcijhieaaGreat
open Go.RowKit
attribute [local go_sem low] mk_extract
attribute [local go_sem] After.cell After.frozen mk_extract_end ByteArray.mk_append_mk
theorem and_u16 (n : Nat) : bits BinOp.and IntKind.u16 (n : Int) 1 = ((n % 2 : Nat) : Int) := by
  have h : (BitVec.ofInt 16 (n : Int) &&& BitVec.ofInt 16 1).toNat = (BitVec.ofInt 16 (n : Int)).toNat % 2 := by
    rw [BitVec.toNat_and]
    exact Nat.and_one_is_mod _
  have h2 : (BitVec.ofInt 16 (n : Int)).toNat = n % 65536 := by
    rw [BitVec.toNat_ofInt]
    omega
  show IntKind.u16.wrap (((BitVec.ofInt 16 (n : Int) &&& BitVec.ofInt 16 1).toNat : Nat) : Int) = _
  rw [h, h2]
  simp only [IntKind.wrap_u16]
  omega
theorem bit_u16 (F k : Nat) : (bits BinOp.and IntKind.u16 ((F : Int) / 2 ^ k) 1 == 1) = decide (F / 2 ^ k % 2 = 1) := by
  have e : ((F : Int) / 2 ^ k) = ((F / 2 ^ k : Nat) : Int) := by
    rw [Int.natCast_ediv, Int.natCast_pow]
    rfl
  rw [e, and_u16]
  by_cases h : F / 2 ^ k % 2 = 1
  · simp [h]
  · have h0 : F / 2 ^ k % 2 = 0 := by omega
    simp [h0]
/-- A slice of numbers in a block of numbers. -/
structure IVB (w : World) (u : Value) (L : List Int) : Prop where
  iv : IV w u L
  blk : ∀ A n c, u = .slice (some A) n c → ∃ cs, Blk w A.block IntT cs
  cap : ∀ A n c, u = .slice A n c → n ≤ c
theorem own_ivb {w : World} {base : Nat} {u : Value} {L : List Int} (h : w.ownsRow base IntT 1 u L.length (L.map iv)) (hn : L.length ≤ 100000) : IVB w u L := by
  refine ⟨own_iv h hn, fun A n c e => ?_, fun A n c e => ?_⟩
  · rcases h.2 with ⟨e2, _⟩ | ⟨g, cap, cur, e2, _, hh, _⟩
    · rw [e] at e2; cases e2
    · rw [e] at e2
      simp only [Value.slice.injEq, Option.some.injEq] at e2
      rw [e2.1]
      exact ⟨cur, hh⟩
  · rcases h.2 with ⟨e2, _⟩ | ⟨g, cap, cur, e2, _, hh, hnc, _⟩
    · rw [e] at e2
      simp only [Value.slice.injEq] at e2
      omega
    · rw [e] at e2
      simp only [Value.slice.injEq] at e2
      omega
theorem IVB.chg {S : Nat → Prop} {w w' : World} {u : Value} {L : List Int} (h : IVB w u L) (hk : Chg S w w') (hS : ∀ k cs, Blk w k IntT cs → ¬ S k) : IVB w' u L := by
  obtain ⟨A, c, rfl, h1⟩ := h.iv.form
  refine ⟨⟨⟨A, c, rfl, ?_⟩, h.iv.len⟩, fun A' n' c' e => ?_, h.cap⟩
  · rcases h1 with h1 | ⟨b, off, rfl, hc⟩
    · exact .inl h1
    · obtain ⟨cs, hb⟩ := h.blk _ _ _ rfl
      refine .inr ⟨b, off, rfl, fun j hj => ?_⟩
      exact (hk.cell hb.lt (hS _ _ hb)).trans (hc j hj)
  · obtain ⟨cs, hb⟩ := h.blk _ _ _ e
    exact ⟨cs, hb.chg hk (hS _ _ hb)⟩
theorem IVB.go {w w' : World} {u : Value} {L : List Int} (h : IVB w u L) (hb : Below w.heap.size w w') : IVB w' u L :=
  h.chg (S := NoM) (Chg.of_below hb) fun _ _ _ h => h
theorem IVB.tail {w : World} {b off : Nat} {x : Int} {L : List Int} {c : Nat} (h : IVB w (.slice (some ⟨b, off, none⟩) (L.length + 1) c) (x :: L)) : IVB w (.slice (if c = 1 then some ⟨b, off, none⟩ else some ⟨b, off + 1, none⟩) L.length (c - 1)) L := by
  have hcap := h.cap _ _ _ rfl
  obtain ⟨A, c', e, h1⟩ := h.iv.form
  simp only [Value.slice.injEq] at e
  obtain ⟨rfl, _, rfl⟩ := e
  have hl := h.iv.len
  rw [List.length_cons] at hl
  obtain ⟨cs, hb⟩ := h.blk _ _ _ rfl
  by_cases h1c : c = 1
  · rw [if_pos h1c]
    have h0 : L.length = 0 := by omega
    refine ⟨⟨⟨some ⟨b, off, none⟩, c - 1, rfl, .inr ⟨b, off, rfl, fun j hj => by omega⟩⟩, by omega⟩, fun A' n' c' e => ?_, fun A' n' c' e => ?_⟩
    · simp only [Value.slice.injEq, Option.some.injEq] at e
      rw [← e.1]
      exact ⟨cs, hb⟩
    · simp only [Value.slice.injEq] at e
      omega
  · rw [if_neg h1c]
    refine ⟨⟨⟨some ⟨b, off + 1, none⟩, c - 1, rfl, ?_⟩, by omega⟩, fun A' n' c' e => ?_, fun A' n' c' e => ?_⟩
    · rcases h1 with ⟨h1, _⟩ | ⟨b', off', e, hc⟩
      · cases h1
      · simp only [Option.some.injEq, Addr.mk.injEq] at e
        obtain ⟨rfl, rfl, _⟩ := e
        refine .inr ⟨b, off + 1, rfl, fun j hj => ?_⟩
        have hj1 := hc (j + 1) (by simpa using hj)
        rw [show off + 1 + j = off + (j + 1) by omega, hj1]
        rfl
    · simp only [Value.slice.injEq, Option.some.injEq] at e
      rw [← e.1]
      exact ⟨cs, hb⟩
    · simp only [Value.slice.injEq] at e
      omega
theorem IVB.ints {w : World} {A : Option Addr} {n c : Nat} {L : List Int} (h : IVB w (.slice A n c) L) : n = L.length ∧ Ints w NoM A L := by
  obtain ⟨A', c', e, h1⟩ := h.iv.form
  simp only [Value.slice.injEq] at e
  obtain ⟨rfl, e2, rfl⟩ := e
  refine ⟨e2, ?_⟩
  have hl := h.iv.len
  rcases h1 with ⟨_, rfl⟩ | ⟨b, off, rfl, hc⟩
  · exact Row.nil_
  · obtain ⟨cs, hb⟩ := h.blk _ _ _ rfl
    refine ⟨by rw [List.length_map]; omega, .inr ⟨b, off, rfl, hb.lt, fun h => h, fun j v hv => ?_⟩⟩
    rw [List.getElem?_map, Option.map_eq_some_iff] at hv
    obtain ⟨x, hx, rfl⟩ := hv
    have hj : j < L.length := (List.getElem?_eq_some_iff.1 hx).1
    have := hc j hj
    rw [List.getD_eq_getElem?_getD, hx] at this
    exact this
/-- In the second loop. -/
structure NuS (w : World) (M : Nat → Prop) (t f m d : Nat) (fv : Value) (mm : Int) (k : Nat) (v : Value) (s : Sp.Sto) (W : World) : Prop where
  st : StAt W M t f m d fv [] s
  ok : s.Ok
  hb : Below w.heap.size w W
  ht : w.heap.size ≤ t ∧ w.heap.size ≤ d
  av : IVB W v s.avail
  mo : s.most = mm
  cnt : s.d.length ≤ k
theorem StAt.not_int {w : World} {M : Nat → Prop} {t f m d : Nat} {fv : Value} {V : List Txt} {s : Sp.Sto} (h : StAt w M t f m d fv V s) : ∀ k cs, Blk w k IntT cs → ¬ TwoM t d k := fun k cs hb e => by
  rcases e with rfl | rfl
  · obtain ⟨uf, ua, h1, _, _⟩ := h.bt
    exact h1.not_ (by decide) _ hb
  · obtain ⟨D, hD, _⟩ := h.dm
    exact hD.not_blk hb
set_option maxRecDepth 100000 in
set_option maxHeartbeats 1600000 in
theorem numbers_walk0 (HK : ∀ W, Calls Tryz.prog 27 #[] W fun e w' => e = .returned (.bool true) ∧ Below W.heap.size W w') (free n most : Int) (hf : 0 ≤ free ∧ free < 65536) (hn : 0 ≤ n ∧ n < 256) (hm : 0 ≤ most ∧ most < 256) (w : World) :
    Calls Tryz.prog 6 #[.int .u16 free, .int .u8 n, .int .u8 most] w fun e w' => e = .returned (.bool true) ∧ Below w.heap.size w w' := by
  obtain ⟨i0, hi0, hz0, hz1, hz2⟩ := info_parts info_int
  obtain ⟨F, rfl⟩ : ∃ F : Nat, free = F := ⟨free.toNat, by omega⟩
  have HKN := Lib.hid (HK w)
  clear HK
  go_enter Tryz.func6, Tryz.ntmps6
  go_upto_region 4 with (go_at_call 27; refine HKN.out.mono ?_; rintro e w1 ⟨rfl, hb1⟩; have HB1 := Lib.hid hb1; clear hb1)
  go_wp2_with fail
  go_loopw [7, 8] (fun v i wr => ∃ k : Nat, k ≤ 16 ∧ i = .int .i64 k ∧ wr.ownsRow w.heap.size IntT 1 v (Sp.bitsTo F k).length ((Sp.bitsTo F k).map iv) ∧ Below w.heap.size w wr) (fun _ i _ => 16 - (intOf i).toNat)
  case atStart => exact ⟨0, by omega, rfl, World.ownsRow_nil _ _ _ _, HB1.out⟩
  case round =>
    obtain ⟨k, hk, rfl, ho, hb⟩ := hrel
    have HO := Lib.hid ho
    have HB := Lib.hid hb
    clear ho hb
    by_cases hk16 : k < 16
    · obtain ⟨A7, c7, rfl⟩ := own_slice HO.out
      have hln := (Sp.bitsTo_rng (free := F) (i := k)).2.2
      have hbt := bit_u16 F k
      by_cases hb1 : F / 2 ^ k % 2 = 1
      · have HE := Lib.hid (Sp.bitsTo_yes hb1)
        rw [decide_eq_true hb1] at hbt
        have hlt := HB.out.size
        clear hb1
        go_wp2_with (at_builtin; refine wpList_append_own _ rfl _ _ 26 rfl w.heap.size IntT i0 _ 1 8 Tryz.underlying26 hi0 hz0 hz1 hz2 rfl (by decide) (.slice A7 (Sp.bitsTo F k).length c7) (Sp.bitsTo F k).length ((Sp.bitsTo F k).map iv) rfl ?c0 ⟨wr.heap.size, 0, none⟩ 1 1 [iv (2 + (k : Int))] rfl rfl ?c1 ?c2 ?c3 ?c4 ?c5 ?_)
        case c0 => exact HO.out.alloc _
        case c1 => exact cell_one_new _ _ _
        case c2 => exact fun u hu => by rw [List.mem_singleton.1 hu]; rfl
        case c3 => simp only [maxLen]; omega
        case c4 => omega
        case c5 => simp; omega
        intro v' w' hown' hgr' _
        have hk2 : Below w.heap.size w (wr.alloc (.cells #[iv (2 + (k : Int))] IntT)) := HB.out.alloc HB.out.size _
        have HO2 := Lib.hid hown'
        have HB2 := Lib.hid (hk2.grown hgr' hk2.size (fun j hj => (HO.out.lt j hj).1))
        clear hown' hgr' hk2
        go_wp2_with fail
        go_roundw
        case rel => exact ⟨k + 1, by omega, by go_num, by rw [HE.out, List.length_append, List.map_append]; exact HO2.out, HB2.out⟩
        case measure => simp [intOf]; omega
      · have HE := Lib.hid (Sp.bitsTo_no hb1)
        rw [decide_eq_false hb1] at hbt
        clear hb1
        go_wp2_with fail
        go_roundw
        case rel => exact ⟨k + 1, by omega, by go_num, by rw [HE.out]; exact HO.out, HB.out⟩
        case measure => simp [intOf]; omega
    · obtain rfl : k = 16 := by omega
      obtain ⟨A7, c7, rfl⟩ := own_slice HO.out
      have hl16 := (Sp.bitsTo_rng (free := F) (i := 16)).2.2
      have HIV := Lib.hid (own_ivb HO.out (by omega))
      generalize hmm : 18 + most % 20 = mm at *
      have hmm2 : 18 ≤ mm ∧ mm < 38 := by omega
      have HS0 := Lib.hid (show (Sp.Sto.new 18 mm (Sp.bitsTo F 16)).avail = Sp.bitsTo F 16 from by
        obtain ⟨h1, h2, _⟩ := Sp.bitsTo_rng (free := F) (i := 16)
        have := Sp.foldl_new (b := min (min (max 18 2) 400) (min (max mm 2) 400)) (Sp.bitsTo F 16) [] h1 (fun x hx => by have := h2 x hx; omega)
        exact this)
      have HS1 := Lib.hid (show (Sp.Sto.new 18 mm (Sp.bitsTo F 16)).last = 18 from rfl)
      have HS2 := Lib.hid (show (Sp.Sto.new 18 mm (Sp.bitsTo F 16)).most = mm from by show min (max mm 2) 400 = mm; omega)
      have HS3 := Lib.hid (show (Sp.Sto.new 18 mm (Sp.bitsTo F 16)).d = [] from rfl)
      have HS4 := Lib.hid (Sp.Sto.new_ok 18 mm (Sp.bitsTo F 16))
      go_upto_region 11 with (first
        | (go_at_call 20; refine (fileNew_nil _).mono ?_; rintro e w2 ⟨f, fv, m, rfl, hf, _, _, hb2⟩; have HF := Lib.hid hf; have HB2 := Lib.hid hb2; clear hf hb2)
        | (go_at_call 28; refine (stoNew_any f m fv [] 18 mm (.slice A7 (Sp.bitsTo F 16).length c7) (Sp.bitsTo F 16) _ HF.out (HIV.out.go HB2.out).iv).mono ?_; rintro e w3 ⟨t, d, M, rfl, hst, hM, hb3, ht, hd⟩; have HST := Lib.hid hst; have HM := Lib.hid hM; have HB3 := Lib.hid hb3; clear hst hM hb3))
      have hzz : w.heap.size ≤ wr.heap.size := HB.out.size
      have hz2 := HB2.out.size
      have HBB := Lib.hid (HB.out.trans ((HB2.out.mono hzz).trans (HB3.out.mono (by omega))))
      have HN0 := Lib.hid (show NuS w M t f m d fv mm 0 (.slice A7 (Sp.bitsTo F 16).length c7) (Sp.Sto.new 18 mm (Sp.bitsTo F 16)) w3 from
        ⟨HST.out, HS4.out, HBB.out, ⟨by omega, by omega⟩, by rw [HS0.out]; exact (HIV.out.go HB2.out).go HB3.out, HS2.out, by rw [HS3.out]; exact Nat.le_refl _⟩)
      have HLN := Lib.hid (show (Sp.bitsTo F 16).length = (Sp.Sto.new 18 mm (Sp.bitsTo F 16)).avail.length from by rw [HS0.out])
      generalize (Sp.bitsTo F 16).length = len0 at *
      generalize Sp.Sto.new 18 mm (Sp.bitsTo F 16) = s0 at *
      clear HIV HST HBB HB HB2 HB3 HS0 HS2 HS3 HS4 HM HF hz2 hzz ht hd HO hl16
      go_wp2_with fail
      obtain ⟨N, hN⟩ : ∃ N : Nat, n % 40 = N := ⟨(n % 40).toNat, by omega⟩
      have hN40 : N < 40 := by omega
      go_loopw [7, 11, 12] (fun v l i wr => ∃ (k : Nat) (s : Sp.Sto) (A : Option Addr) (c : Nat), k ≤ N ∧ i = .int .i64 k ∧ v = .slice A s.avail.length c ∧ l = .int .i64 s.last ∧ NuS w M t f m d fv mm k v s wr) (fun _ _ i _ => N - (intOf i).toNat)
      case atStart => exact ⟨0, s0, A7, c7, Nat.zero_le _, rfl, by rw [HLN.out], by rw [HS1.out], HN0.out⟩
      case round =>
        obtain ⟨k, s, A, c, hk, rfl, rfl, rfl, hs⟩ := hrel
        have S := Lib.hid hs
        clear hs HN0 HLN HS1
        by_cases hkn : k < N
        · have htw := S.out.st.lt t S.out.st.hM.1
          have hdw := S.out.st.lt d S.out.st.hM.2
          have hcn := S.out.cnt
          have hc120 : s.d.length < 120 := by omega
          have HADD := Lib.hid (fun (r : Refs) (W : World) (hb : Below wr.heap.size wr W) (hp : PageRd W (LowB wr) (Sp.lfPg [107]) r) => stoAdd_any M t f m d fv [] s (Sp.lfPg [107]) r W (S.out.st.go hb) S.out.ok hp (fun k hk => by
            show k < wr.heap.size
            rcases hk with rfl | rfl <;> assumption))
          have HOK := Lib.hid (S.out.ok.add (Sp.lfPg [107]))
          obtain ⟨A', c', e, hform⟩ := S.out.av.iv.form
          simp only [Value.slice.injEq] at e
          obtain ⟨rfl, _, rfl⟩ := e
          rcases hav : s.avail with _ | ⟨x, l⟩
          · have hlen : s.avail.length = 0 := by rw [hav]; rfl
            simp only [List.length_nil]
            have hsl := S.out.ok.last
            have hsm : s.most = mm := S.out.mo
            have HLN := Lib.hid (show ∀ (A : Option Addr) (c : Nat), Value.slice A 0 c = Value.slice A s.avail.length c from fun A c => by rw [hlen])
            have HNI := Lib.hid S.out.st.not_int
            have HAV := Lib.hid S.out.av
            by_cases hlm : s.last < mm
            · have HA := Lib.hid (Sp.Sto.add_last (p := Sp.lfPg [107]) hav Sp.lf_k hc120 (by rw [hsm]; exact hlm))
              rw [HA.out] at HADD HOK
              clear hform htw hdw
              go_upto_region 16 with (first
                | (go_at_call 30; refine (leaf_any [107] _).mono ?_; rintro e w4 ⟨r4, rfl, hp4, hb4⟩; have HP4 := Lib.hid hp4; have HB4 := Lib.hid hb4; clear hp4 hb4)
                | (go_at_call 29; refine (HADD.out r4 w4 HB4.out HP4.out).mono ?_; rintro e w5 ⟨rfl, hst5, hk5⟩; have HST5 := Lib.hid hst5; have HK5 := Lib.hid hk5; clear hst5 hk5; simp only [erO]))
              have HK45 := Lib.hid ((Chg.of_below (S := TwoM t d) HB4.out).trans HK5.out)
              have hN5 := Lib.hid (show NuS w M t f m d fv mm (k + 1) (.slice A s.avail.length c) { s with last := s.last + 1, d := Sp.putD s.d s.last (Sp.lfPg [107]) } w5 from
                ⟨HST5.out, HOK.out, S.out.hb.trans (HK45.out.below S.out.hb.size fun j hj e => by
                  have := S.out.ht
                  rcases e with rfl | rfl <;> omega), S.out.ht, HAV.out.chg HK45.out HNI.out, S.out.mo, by
                  have := Sp.putD_len s.d s.last (Sp.lfPg [107])
                  show (Sp.putD s.d s.last (Sp.lfPg [107])).length ≤ k + 1
                  omega⟩)
              clear hav hlen hsm
              go_wp2_with fail
              go_roundw
              case rel => exact ⟨k + 1, { s with last := s.last + 1, d := Sp.putD s.d s.last (Sp.lfPg [107]) }, A, c, by omega, by go_num, HLN.out A c, rfl, by rw [HLN.out A c]; exact hN5.out⟩
              case measure => simp [intOf]; omega
            · have HA := Lib.hid (Sp.Sto.add_full (p := Sp.lfPg [107]) hav Sp.lf_k hc120 (by rw [hsm]; omega))
              rw [HA.out] at HADD HOK
              clear hform htw hdw
              go_upto_region 16 with (first
                | (go_at_call 30; refine (leaf_any [107] _).mono ?_; rintro e w4 ⟨r4, rfl, hp4, hb4⟩; have HP4 := Lib.hid hp4; have HB4 := Lib.hid hb4; clear hp4 hb4)
                | (go_at_call 29; refine (HADD.out r4 w4 HB4.out HP4.out).mono ?_; rintro e w5 ⟨rfl, hst5, hk5⟩; have HST5 := Lib.hid hst5; have HK5 := Lib.hid hk5; clear hst5 hk5; simp only [erO]))
              have HK45 := Lib.hid ((Chg.of_below (S := TwoM t d) HB4.out).trans HK5.out)
              have hN5 := Lib.hid (show NuS w M t f m d fv mm (k + 1) (.slice A s.avail.length c) s w5 from
                ⟨HST5.out, HOK.out, S.out.hb.trans (HK45.out.below S.out.hb.size fun j hj e => by
                  have := S.out.ht
                  rcases e with rfl | rfl <;> omega), S.out.ht, HAV.out.chg HK45.out HNI.out, S.out.mo, by
                  have := S.out.cnt
                  omega⟩)
              clear hav hlen hsm
              go_wp2_with (first
                | (go_at_call 26; refine (errIs_same 14 _).mono ?_; rintro e w6 ⟨rfl, rfl⟩)
                | (go_at_call 31; refine (stoLast_any M t f m d fv [] s _ hN5.out.st).mono ?_; rintro e w6 ⟨rfl, rfl⟩))
              go_roundw
              case rel => exact ⟨k + 1, s, A, c, by omega, by go_num, HLN.out A c, rfl, by rw [HLN.out A c]; exact hN5.out⟩
              case measure => simp [intOf]; omega
          · have hlen : s.avail.length = l.length + 1 := by rw [hav]; rfl
            have HA := Lib.hid (Sp.Sto.add_avail (p := Sp.lfPg [107]) hav Sp.lf_k hc120 S.out.ok.avail)
            rw [HA.out] at HADD HOK
            obtain ⟨b, off, rfl, hcl⟩ : ∃ b off, A = some ⟨b, off, none⟩ ∧ ∀ j, j < s.avail.length → wr.cell? ⟨b, off + j, none⟩ = some (.int .i64 (s.avail.getD j 0)) := by
              rcases hform with ⟨_, e⟩ | h
              · rw [hav] at e; cases e
              · exact h
            have HX := Lib.hid (show wr.cell? ⟨b, off, none⟩ = some (.int .i64 x) from by
              have := hcl 0 (by omega)
              rw [hav] at this
              exact this)
            obtain ⟨csb, hbb⟩ := S.out.av.blk _ _ _ rfl
            have HBB2 := Lib.hid hbb
            have HAV := Lib.hid (show IVB wr (.slice (some ⟨b, off, none⟩) (l.length + 1) c) (x :: l) from by have := S.out.av; rw [hav] at this; exact this)
            have HNI := Lib.hid S.out.st.not_int
            simp only [List.length_cons]
            clear hform hcl hbb hav hlen htw hdw
            go_upto_region 16 with (first
              | (go_at_call 30; refine (leaf_any [107] _).mono ?_; rintro e w4 ⟨r4, rfl, hp4, hb4⟩; have HP4 := Lib.hid hp4; have HB4 := Lib.hid hb4; clear hp4 hb4)
              | (go_at_call 29; refine (HADD.out r4 w4 HB4.out HP4.out).mono ?_; rintro e w5 ⟨rfl, hst5, hk5⟩; have HST5 := Lib.hid hst5; have HK5 := Lib.hid hk5; clear hst5 hk5; simp only [erO]))
            have HK45 := Lib.hid ((Chg.of_below (S := TwoM t d) HB4.out).trans HK5.out)
            have hx0 : w5.cell? ⟨b, off, none⟩ = some (.int .i64 x) := (HK45.out.cell HBB2.out.lt (HNI.out _ _ HBB2.out)).trans HX.out
            have hN5 := Lib.hid (show NuS w M t f m d fv mm (k + 1) (.slice (if c = 1 then some ⟨b, off, none⟩ else some ⟨b, off + 1, none⟩) l.length (c - 1)) { s with avail := l, d := Sp.putD s.d x (Sp.lfPg [107]) } w5 from
              ⟨HST5.out, HOK.out, S.out.hb.trans (HK45.out.below S.out.hb.size fun j hj e => by
                have := S.out.ht
                rcases e with rfl | rfl <;> omega), S.out.ht, (HAV.out.chg HK45.out HNI.out).tail, S.out.mo, by
                have := Sp.putD_len s.d x (Sp.lfPg [107])
                show (Sp.putD s.d x (Sp.lfPg [107])).length ≤ k + 1
                omega⟩)
            go_wp2_with fail
            go_roundw
            case rel => exact ⟨k + 1, { s with avail := l, d := Sp.putD s.d x (Sp.lfPg [107]) }, _, _, by omega, by go_num, rfl, rfl, hN5.out⟩
            case measure => simp [intOf]; omega
        · obtain ⟨_, hints⟩ := S.out.av.ints
          have HIN := Lib.hid hints
          clear hints
          go_wp2_with (first
            | (go_at_call 31; refine (stoLast_any M t f m d fv [] s _ S.out.st).mono ?_; rintro e w6 ⟨rfl, rfl⟩)
            | (go_at_call 32; refine (stoAvail_any M t f m d fv [] s _ S.out.st).mono ?_; rintro e w6 ⟨ru, rfl, ho6, hb6⟩; obtain ⟨Ao, co, rfl⟩ := own_slice ho6; have HO6 := Lib.hid (own_ivb ho6 (by have := S.out.ok.avail.len; omega)); have HB6 := Lib.hid hb6; clear ho6 hb6)
            | (go_at_call 21; refine (dSameInts s.avail s.avail Ao A co c w6 HO6.out.ints.2 (Ints.go HIN.out HB6.out)).mono ?_; rintro e w7 ⟨rfl, hb7⟩; have HB7 := Lib.hid hb7; clear hb7))
          go_ret
          have z1 := S.out.hb.size
          have z2 := HB6.out.size
          exact ⟨by simp, S.out.hb.trans ((HB6.out.mono z1).trans (HB7.out.mono (by omega)))⟩
end Go.Proofs.YtkcfmjlcijhieaaGreat
namespace Go.Proofs.YtkcfmjlcijhieaaGreat
open Go.RowKit
attribute [local go_sem low] mk_extract
attribute [local go_sem] After.cell After.frozen mk_extract_end ByteArray.mk_append_mk
structure MnS (w : World) (M : Nat → Prop) (t f m d : Nat) (fv : Value) (s : Sp.Sto) (W : World) : Prop where
  st : StAt W M t f m d fv [] s
  ok : s.Ok
  hb : Below w.heap.size w W
  ht : w.heap.size ≤ t ∧ w.heap.size ≤ d
theorem MnS.step {w W W' : World} {M : Nat → Prop} {t f m d : Nat} {fv : Value} {s s' : Sp.Sto} (h : MnS w M t f m d fv s W) (hs : StAt W' M t f m d fv [] s') (ho : s'.Ok) (hk : Chg (TwoM t d) W W') : MnS w M t f m d fv s' W' :=
  ⟨hs, ho, h.hb.trans (hk.below h.hb.size fun k hk' e => by
    have := h.ht
    rcases e with rfl | rfl <;> omega), h.ht⟩
theorem MnS.go {w W W' : World} {M : Nat → Prop} {t f m d : Nat} {fv : Value} {s : Sp.Sto} (h : MnS w M t f m d fv s W) (hb : Below W.heap.size W W') : MnS w M t f m d fv s W' :=
  ⟨h.st.go hb, h.ok, h.hb.trans (hb.mono h.hb.size), h.ht⟩
theorem MnS.low {w W : World} {M : Nat → Prop} {t f m d : Nat} {fv : Value} {s : Sp.Sto} (h : MnS w M t f m d fv s W) : ∀ k, TwoM t d k → LowB W k := fun k hk => by
  show k < W.heap.size
  rcases hk with rfl | rfl
  · exact h.st.lt _ h.st.hM.1
  · exact h.st.lt _ h.st.hM.2
theorem nil_iv (W : World) : IV W (.slice none 0 0) [] := ⟨⟨none, 0, rfl, .inl ⟨rfl, rfl⟩⟩, by simp⟩
theorem lit1 (W : World) (x : Int) : Ints (W.alloc (.cells #[.int .i64 x] IntT)) NoM (some ⟨W.heap.size, 0, none⟩) [x] := by
  have hb := Blk.new W IntT #[.int .i64 x]
  refine ⟨by simp, .inr ⟨W.heap.size, 0, rfl, hb.lt, fun h => h, fun j v hv => ?_⟩⟩
  rw [Nat.zero_add]
  refine (hb.cell j).trans ?_
  rcases j with _ | j
  · exact hv
  · simp at hv
set_option maxRecDepth 100000 in
set_option maxHeartbeats 1600000 in
theorem many_walk (which : Int) (h0 : 0 ≤ which) (h1 : which ≤ 255) (w : World) :
    Calls Tryz.prog 7 #[.int .u8 which] w fun e w' => e = .returned (.bool true) ∧ Below w.heap.size w w' := by
  have HKN := Lib.hid (known8_any w)
  go_enter Tryz.func7, Tryz.ntmps7
  go_upto_region 4 with (first
    | (go_at_call 27; refine HKN.out.mono ?_; rintro e w1 ⟨rfl, hb1⟩; have HB1 := Lib.hid hb1; clear hb1)
    | (go_at_call 20; refine (fileNew_nil _).mono ?_; rintro e w2 ⟨f, fv, m, rfl, hf, _, _, hb2⟩; have HF := Lib.hid hf; have HB2 := Lib.hid hb2; clear hf hb2)
    | (go_at_call 28; refine (stoNew_any f m fv [] 2 400 (.slice none 0 0) [] _ HF.out (nil_iv _)).mono ?_; rintro e w3 ⟨t, d, M, rfl, hst, hM, hb3, ht, hd⟩; have HST := Lib.hid hst; have HB3 := Lib.hid hb3; clear hst hM hb3))
  have z1 := HB1.out.size
  have z2 := HB2.out.size
  have HF0 := Lib.hid Sp.Full.zero
  have HS0 := Lib.hid (show MnS w M t f m d fv (Sp.Sto.new 2 400 []) w3 from ⟨HST.out, Sp.Sto.new_ok 2 400 [], (HB1.out.trans (HB2.out.mono z1)).trans (HB3.out.mono (by omega)), ⟨by omega, by omega⟩⟩)
  generalize Sp.Sto.new 2 400 [] = s0 at *
  clear HST HB1 HB2 HB3 HF z1 z2 ht hd
  go_wp2_with fail
  go_loopw [4] (fun i wr => ∃ (k : Nat) (s : Sp.Sto), k ≤ 120 ∧ i = .int .i64 k ∧ Sp.Full k s ∧ MnS w M t f m d fv s wr) (fun i _ => 120 - (intOf i).toNat)
  case atStart => exact ⟨0, s0, by omega, rfl, HF0.out, HS0.out⟩
  case round =>
    obtain ⟨k, s, hk, rfl, hfu, hs⟩ := hrel
    have S := Lib.hid hs
    have FU := Lib.hid hfu
    clear hs hfu HS0 HF0
    by_cases hk120 : k < 120
    · have HA := Lib.hid (FU.out.add hk120 Sp.lf_k)
      have HADD := Lib.hid (fun (r : Refs) (W : World) (hb : Below wr.heap.size wr W) (hp : PageRd W (LowB wr) (Sp.lfPg [107]) r) => stoAdd_any M t f m d fv [] s (Sp.lfPg [107]) r W (S.out.go hb).st S.out.ok hp S.out.low)
      rw [HA.out.1] at HADD
      go_wp2_with (first
        | (go_at_call 30; refine (leaf_any [107] _).mono ?_; rintro e w4 ⟨r4, rfl, hp4, hb4⟩; have HP4 := Lib.hid hp4; have HB4 := Lib.hid hb4; clear hp4 hb4)
        | (go_at_call 29; refine (HADD.out r4 w4 HB4.out HP4.out).mono ?_; rintro e w5 ⟨rfl, hst5, hk5⟩; have S5 := Lib.hid ((S.out.go HB4.out).step hst5 HA.out.2.ok hk5); clear hst5 hk5; simp only [erO]))
      go_roundw
      case rel => exact ⟨k + 1, _, by omega, by go_num, HA.out.2, S5.out⟩
      case measure => simp [intOf]; omega
    · obtain rfl : k = 120 := by omega
      obtain ⟨j, hj⟩ : ∃ j : Nat, which % 120 = j := ⟨(which % 120).toNat, by omega⟩
      have hj120 : j < 120 := by omega
      have HM := Lib.hid (FU.out.more Sp.lf_k)
      obtain ⟨q, hq, hdr, hdl⟩ := FU.out.drop hj120
      have HDR := Lib.hid hdr
      have HDL := Lib.hid hdl
      have HFR := Lib.hid FU.out.freed
      clear hq hdr hdl FU
      have HADD := Lib.hid (fun (r : Refs) (W : World) (hb : Below wr.heap.size wr W) (hp : PageRd W (LowB wr) (Sp.lfPg [107]) r) => stoAdd_any M t f m d fv [] s (Sp.lfPg [107]) r W (S.out.go hb).st S.out.ok hp S.out.low)
      rw [HM.out.1] at HADD
      go_upto_region 11 with (first
        | (go_at_call 30; refine (leaf_any [107] _).mono ?_; rintro e w4 ⟨r4, rfl, hp4, hb4⟩; have HP4 := Lib.hid hp4; have HB4 := Lib.hid hb4; clear hp4 hb4)
        | (go_at_call 29; refine (HADD.out r4 w4 HB4.out HP4.out).mono ?_; rintro e w5 ⟨rfl, hst5, hk5⟩; have S5 := Lib.hid ((S.out.go HB4.out).step hst5 S.out.ok hk5); clear hst5 hk5; simp only [erO]))
      clear HADD HP4 HB4 S
      have HRUN := Lib.hid (stoRun_any M t f m d fv [] s 1 w5 S5.out.st S5.out.ok)
      rw [HM.out.2] at HRUN
      go_upto_region 12 with (go_at_call 33; refine HRUN.out.mono ?_; rintro e w6 ⟨rfl, hst6, hk6⟩; have S6 := Lib.hid (S5.out.step hst6 S5.out.ok hk6); clear hst6 hk6; simp only [erO])
      clear HRUN HM S5
      go_upto_region 13 with fail
      have HDRP := Lib.hid (stoDrop_any M t f m d fv [] s (2 + (j : Int)) w6 S6.out.st S6.out.ok)
      have HOK7 := Lib.hid (S6.out.ok.drop (2 + (j : Int)))
      rw [HDR.out] at HDRP HOK7
      go_upto_region 14 with (go_at_call 34; rw [hj]; refine HDRP.out.mono ?_; rintro e w7 ⟨rfl, hst7, hk7⟩; have S7 := Lib.hid (S6.out.step hst7 HOK7.out hk7); clear hst7 hk7)
      clear HDRP HDR S6
      have HA9 := Lib.hid (Sp.Sto.add_avail (s := { s with d := Sp.delD s.d (2 + (j : Int)), avail := [2 + (j : Int)] }) (p := Sp.lfPg [107]) rfl Sp.lf_k (by have := HDL.out; show (Sp.delD s.d (2 + (j : Int))).length < 120; omega) HOK7.out.avail)
      have HFR7 := Lib.hid (show ({ s with d := Sp.delD s.d (2 + (j : Int)), avail := [2 + (j : Int)] } : Sp.Sto).freed = [] from HFR.out)
      have HAV7 := Lib.hid (show ({ s with d := Sp.delD s.d (2 + (j : Int)), avail := [2 + (j : Int)] } : Sp.Sto).avail = [2 + (j : Int)] from rfl)
      generalize ({ s with d := Sp.delD s.d (2 + (j : Int)), avail := [2 + (j : Int)] } : Sp.Sto) = s7 at *
      clear HDL HFR
      go_upto_region 15 with (go_at_call 32; refine (stoAvail_any M t f m d fv [] s7 _ S7.out.st).mono ?_; rintro e w8 ⟨ra, rfl, hoa, hba⟩; rw [HAV7.out] at hoa; obtain ⟨Aa, ca, rfl⟩ := own_slice hoa; have HOA := Lib.hid (own_ivb hoa (by simp)); have S8 := Lib.hid (S7.out.go hba); clear hoa hba)
      have HADD := Lib.hid (fun (r : Refs) (W : World) (hb : Below w8.heap.size w8 W) (hp : PageRd W (LowB w8) (Sp.lfPg [107]) r) => stoAdd_any M t f m d fv [] s7 (Sp.lfPg [107]) r W (S8.out.go hb).st S8.out.ok hp S8.out.low)
      have HOK9 := Lib.hid (S8.out.ok.add (Sp.lfPg [107]))
      rw [HA9.out] at HADD HOK9
      go_upto_region 16 with (first
        | (go_at_call 30; refine (leaf_any [107] _).mono ?_; rintro e w9 ⟨r9, rfl, hp9, hb9⟩; have HP9 := Lib.hid hp9; have HB9 := Lib.hid hb9; clear hp9 hb9)
        | (go_at_call 29; refine (HADD.out r9 w9 HB9.out HP9.out).mono ?_; rintro e wa ⟨rfl, hsta, hka⟩; have S9 := Lib.hid ((S8.out.go HB9.out).step hsta HOK9.out hka); have HOA2 := Lib.hid ((HOA.out.go HB9.out).chg hka (S8.out.go HB9.out).st.not_int); clear hsta hka; simp only [erO]))
      clear HADD HP9 HB9 HOA S8 HA9 HOK7 HOK9 HAV7
      have HFR9 := Lib.hid (show ({ s7 with avail := [], d := Sp.putD s7.d (2 + (j : Int)) (Sp.lfPg [107]) } : Sp.Sto).freed = [] from HFR7.out)
      generalize ({ s7 with avail := [], d := Sp.putD s7.d (2 + (j : Int)) (Sp.lfPg [107]) } : Sp.Sto) = s9 at *
      obtain ⟨_, hio⟩ := HOA2.out.ints
      have HIO := Lib.hid hio
      clear hio HOA2 HFR7
      go_wp2_with (first
        | (go_at_call 26; refine (errIs_same 17 _).mono ?_; rintro e wb ⟨rfl, rfl⟩)
        | (go_at_call 21; go_loud (refine (dSameInts [2 + (j : Int)] [2 + (j : Int)] Aa (some ⟨wb.heap.size, 0, none⟩) ca 1 _ (Ints.go HIO.out ((Below.refl _ _).alloc (Nat.le_refl _) _)) (lit1 wb _)).mono ?_; rintro e wi ⟨rfl, hbi⟩; have Sa := Lib.hid (S9.out.go (((Below.refl wb.heap.size wb).alloc (Nat.le_refl _) _).trans (hbi.mono (by simp)))); clear hbi))
        | (go_at_call 35; refine (stoFreed_any M t f m d fv [] s9 _ Sa.out.st).mono ?_; rintro e wj ⟨rf, rfl, hof, hbf⟩; rw [HFR9.out] at hof; obtain ⟨Af, cf, rfl⟩ := own_slice hof; have Sb := Lib.hid (Sa.out.go hbf); clear hof hbf))
      go_ret
      exact ⟨by simp, Sb.out.hb⟩
end Go.Proofs.YtkcfmjlcijhieaaGreat
namespace Go.Proofs.YtkcfmjlcijhieaaGreat.storeMany
open Go.ChangeShapes Go.WideShapes Go.ChangeAt Go.RowKit
set_option maxRecDepth 100000 in
theorem lifted (os : Os) (started : os.Started) (H : Type) (enc : TypeId × Value → H) :
    ReturnsInHanded {} Tryz.checked os 7 .any (Rows.storeManySpec.pre6 enc Tryz.prog Tryz.f7 Rows.storeManyRow.domain false) (Rows.storeManySpec.post enc Tryz.prog Tryz.f7 false true false false) := by
  refine returnsInHanded_of_change (C := Tryz.checked) ownKn started (by kernel_rfl) Tryz.func7
    (ChangeSpec.witness6 (enc := enc) (C := Tryz.checked) false ⟨#[], #[.int .u8 0], []⟩ 8 (by kernel_rfl) (by kernel_rfl) (by kernel_rfl) (by kernel_rfl)) ?_
  intro W base args ds gs before hval0 hW hcnd _
  have hval : ∀ (j : Nat) t v, Tryz.f7.params[j]? = some t → args[j]? = some v → Value.okWide Tryz.prog W .any base t v := hval0
  have hW' := hW
  obtain ⟨p, q, hA0, hV, rfl, hfz, hnd⟩ := hW
  have hA : DataW.TrodAll enc Tryz.prog W 0 (fun _ => true) true Tryz.f7.params.toList args.toList ds p := hA0
  rw [Tryz.params7] at hA hval
  obtain ⟨v0, vs0, d0, ds0, p0, q0, hargs, rfl, rfl, h0, rr0⟩ := trodAll_cons hA
  obtain ⟨rfl, rfl, rfl⟩ := trodAll_nil rr0
  obtain rfl : args = #[v0] := by cases args; simp_all
  obtain ⟨rfl, rfl⟩ := trodVars_none hV
  obtain ⟨a0, rfl, rfl, rfl, w0⟩ := open_int Tryz.underlying5 (hval 0 5 v0 rfl rfl) h0
  clear hA0 hval0
  simp only [List.append_nil] at hW'
  refine (many_walk a0 (bounds_u8 w0).1 (bounds_u8 w0).2 W).mono fun e W' ⟨he, hg⟩ => ?_
  subst he
  exact ⟨_, rfl, post_of_below (pa := []) (pv := []) hW' (fun _ _ _ => (trodAll_cons_mk (shut_bool Tryz.underlying4 _) trodAll_mk0)) (fun sp hsp => (trodAll_cons_mk (shut_int Tryz.underlying5 w0) trodAll_mk0)) (fun _ _ => rfl) (by simp)
    hg (ok_one (by kernel_rfl) rfl (okWide_bool_mk Tryz.underlying4 _))⟩
theorem over : Rows.storeManyRow.holds Tryz.pinned (OpenSpec.ofChange Rows.storeManySpec) :=
  OpenClaim.holds_of_wide 7 Tryz.f7 rfl rfl rfl rfl rfl rfl rfl ⟨rfl, rfl, rfl, rfl, rfl⟩ rfl rfl rfl rfl rfl (by kernel_rfl) Tryz.func7 (by kernel_rfl)
    (of_decide_eq_true (by kernel_rfl)) (by unfold Func.isWrapper; first | (rw [if_pos (by decide +kernel)]; kernel_rfl) | (rw [if_neg (by decide +kernel)]; exact ⟨rfl, rfl⟩))
    (fun os started H enc _ => lifted os started H enc)
theorem proved : Rows.StoreManySaid :=
  over
#print axioms proved
end Go.Proofs.YtkcfmjlcijhieaaGreat.storeMany
