/- New numbers: the law's walk. New numbers: the law's walk, whole. StoreNumbers: whatever the input: true; the input reads as it did. -/
import Derived.Test.YtkcfmjlcijhieaaGreatQB00
import Derived.Test.YtkcfmjlcijhieaaGreatQB16
import Derived.Test.YtkcfmjlcijhieaaGreatQB22
import Derived.Test.YtkcfmjlcijhieaaGreatQB24
import Derived.Test.YtkcfmjlcijhieaaGreatQB25
import Derived.SizedLaws
set_option linter.unusedSimpArgs false
set_option linter.unusedVariables false
namespace Go.Proofs.YtkcfmjlcijhieaaGreat
open Go.RowKit
attribute [local go_sem low] mk_extract
attribute [local go_sem] After.cell After.frozen mk_extract_end ByteArray.mk_append_mk
theorem and_u16 (n : Nat) : bits BinOp.and IntKind.u16 (n : Int) 1 = ((n % 2 : Nat) : Int) := by
  have h : (BitVec.ofInt 16 (n : Int) &&& BitVec.ofInt 16 1).toNat = (BitVec.ofInt 16 (n : Int)).toNat % 2 := by
    rw [BitVec.toNat_and]
    exact Nat.and_one_is_mod _
  have h2 : (BitVec.ofInt 16 (n : Int)).toNat = n % 65536 := by
    rw [BitVec.toNat_ofInt]
    omega
  show IntKind.u16.wrap (((BitVec.ofInt 16 (n : Int) &&& BitVec.ofInt 16 1).toNat : Nat) : Int) = _
  rw [h, h2]
  simp only [IntKind.wrap_u16]
  omega
theorem bit_u16 (F k : Nat) : (bits BinOp.and IntKind.u16 ((F : Int) / 2 ^ k) 1 == 1) = decide (F / 2 ^ k % 2 = 1) := by
  have e : ((F : Int) / 2 ^ k) = ((F / 2 ^ k : Nat) : Int) := by
    rw [Int.natCast_ediv, Int.natCast_pow]
    rfl
  rw [e, and_u16]
  by_cases h : F / 2 ^ k % 2 = 1
  · simp [h]
  · have h0 : F / 2 ^ k % 2 = 0 := by omega
    simp [h0]
/-- A slice of numbers in a block of numbers. -/
structure IVB (w : World) (u : Value) (L : List Int) : Prop where
  iv : IV w u L
  blk : ∀ A n c, u = .slice (some A) n c → ∃ cs, Blk w A.block IntT cs
  cap : ∀ A n c, u = .slice A n c → n ≤ c
theorem own_ivb {w : World} {base : Nat} {u : Value} {L : List Int} (h : w.ownsRow base IntT 1 u L.length (L.map iv)) (hn : L.length ≤ 100000) : IVB w u L := by
  refine ⟨own_iv h hn, fun A n c e => ?_, fun A n c e => ?_⟩
  · rcases h.2 with ⟨e2, _⟩ | ⟨g, cap, cur, e2, _, hh, _⟩
    · rw [e] at e2; cases e2
    · rw [e] at e2
      simp only [Value.slice.injEq, Option.some.injEq] at e2
      rw [e2.1]
      exact ⟨cur, hh⟩
  · rcases h.2 with ⟨e2, _⟩ | ⟨g, cap, cur, e2, _, hh, hnc, _⟩
    · rw [e] at e2
      simp only [Value.slice.injEq] at e2
      omega
    · rw [e] at e2
      simp only [Value.slice.injEq] at e2
      omega
theorem IVB.chg {S : Nat → Prop} {w w' : World} {u : Value} {L : List Int} (h : IVB w u L) (hk : Chg S w w') (hS : ∀ k cs, Blk w k IntT cs → ¬ S k) : IVB w' u L := by
  obtain ⟨A, c, rfl, h1⟩ := h.iv.form
  refine ⟨⟨⟨A, c, rfl, ?_⟩, h.iv.len⟩, fun A' n' c' e => ?_, h.cap⟩
  · rcases h1 with h1 | ⟨b, off, rfl, hc⟩
    · exact .inl h1
    · obtain ⟨cs, hb⟩ := h.blk _ _ _ rfl
      refine .inr ⟨b, off, rfl, fun j hj => ?_⟩
      exact (hk.cell hb.lt (hS _ _ hb)).trans (hc j hj)
  · obtain ⟨cs, hb⟩ := h.blk _ _ _ e
    exact ⟨cs, hb.chg hk (hS _ _ hb)⟩
theorem IVB.go {w w' : World} {u : Value} {L : List Int} (h : IVB w u L) (hb : Below w.heap.size w w') : IVB w' u L :=
  h.chg (S := NoM) (Chg.of_below hb) fun _ _ _ h => h
theorem IVB.tail {w : World} {b off : Nat} {x : Int} {L : List Int} {c : Nat} (h : IVB w (.slice (some ⟨b, off, none⟩) (L.length + 1) c) (x :: L)) : IVB w (.slice (if c = 1 then some ⟨b, off, none⟩ else some ⟨b, off + 1, none⟩) L.length (c - 1)) L := by
  have hcap := h.cap _ _ _ rfl
  obtain ⟨A, c', e, h1⟩ := h.iv.form
  simp only [Value.slice.injEq] at e
  obtain ⟨rfl, _, rfl⟩ := e
  have hl := h.iv.len
  rw [List.length_cons] at hl
  obtain ⟨cs, hb⟩ := h.blk _ _ _ rfl
  by_cases h1c : c = 1
  · rw [if_pos h1c]
    have h0 : L.length = 0 := by omega
    refine ⟨⟨⟨some ⟨b, off, none⟩, c - 1, rfl, .inr ⟨b, off, rfl, fun j hj => by omega⟩⟩, by omega⟩, fun A' n' c' e => ?_, fun A' n' c' e => ?_⟩
    · simp only [Value.slice.injEq, Option.some.injEq] at e
      rw [← e.1]
      exact ⟨cs, hb⟩
    · simp only [Value.slice.injEq] at e
      omega
  · rw [if_neg h1c]
    refine ⟨⟨⟨some ⟨b, off + 1, none⟩, c - 1, rfl, ?_⟩, by omega⟩, fun A' n' c' e => ?_, fun A' n' c' e => ?_⟩
    · rcases h1 with ⟨h1, _⟩ | ⟨b', off', e, hc⟩
      · cases h1
      · simp only [Option.some.injEq, Addr.mk.injEq] at e
        obtain ⟨rfl, rfl, _⟩ := e
        refine .inr ⟨b, off + 1, rfl, fun j hj => ?_⟩
        have hj1 := hc (j + 1) (by simpa using hj)
        rw [show off + 1 + j = off + (j + 1) by omega, hj1]
        rfl
    · simp only [Value.slice.injEq, Option.some.injEq] at e
      rw [← e.1]
      exact ⟨cs, hb⟩
    · simp only [Value.slice.injEq] at e
      omega
theorem IVB.ints {w : World} {A : Option Addr} {n c : Nat} {L : List Int} (h : IVB w (.slice A n c) L) : n = L.length ∧ Ints w NoM A L := by
  obtain ⟨A', c', e, h1⟩ := h.iv.form
  simp only [Value.slice.injEq] at e
  obtain ⟨rfl, e2, rfl⟩ := e
  refine ⟨e2, ?_⟩
  have hl := h.iv.len
  rcases h1 with ⟨_, rfl⟩ | ⟨b, off, rfl, hc⟩
  · exact Row.nil_
  · obtain ⟨cs, hb⟩ := h.blk _ _ _ rfl
    refine ⟨by rw [List.length_map]; omega, .inr ⟨b, off, rfl, hb.lt, fun h => h, fun j v hv => ?_⟩⟩
    rw [List.getElem?_map, Option.map_eq_some_iff] at hv
    obtain ⟨x, hx, rfl⟩ := hv
    have hj : j < L.length := (List.getElem?_eq_some_iff.1 hx).1
    have := hc j hj
    rw [List.getD_eq_getElem?_getD, hx] at this
    exact this
/-- In the second loop. -/
structure NuS (w : World) (M : Nat → Prop) (t f m d : Nat) (fv : Value) (mm : Int) (k : Nat) (v : Value) (s : Sp.Sto) (W : World) : Prop where
  st : StAt W M t f m d fv [] s
  ok : s.Ok
  hb : Below w.heap.size w W
  ht : w.heap.size ≤ t ∧ w.heap.size ≤ d
  av : IVB W v s.avail
  mo : s.most = mm
  cnt : s.d.length ≤ k
theorem StAt.not_int {w : World} {M : Nat → Prop} {t f m d : Nat} {fv : Value} {V : List Txt} {s : Sp.Sto} (h : StAt w M t f m d fv V s) : ∀ k cs, Blk w k IntT cs → ¬ TwoM t d k := fun k cs hb e => by
  rcases e with rfl | rfl
  · obtain ⟨uf, ua, h1, _, _⟩ := h.bt
    exact h1.not_ (by decide) _ hb
  · obtain ⟨D, hD, _⟩ := h.dm
    exact hD.not_blk hb
set_option maxRecDepth 100000 in
set_option maxHeartbeats 1600000 in
theorem numbers_walk0 (HK : ∀ W, Calls Tryz.prog 27 #[] W fun e w' => e = .returned (.bool true) ∧ Below W.heap.size W w') (free n most : Int) (hf : 0 ≤ free ∧ free < 65536) (hn : 0 ≤ n ∧ n < 256) (hm : 0 ≤ most ∧ most < 256) (w : World) :
    Calls Tryz.prog 6 #[.int .u16 free, .int .u8 n, .int .u8 most] w fun e w' => e = .returned (.bool true) ∧ Below w.heap.size w w' := by
  obtain ⟨i0, hi0, hz0, hz1, hz2⟩ := info_parts info_int
  obtain ⟨F, rfl⟩ : ∃ F : Nat, free = F := ⟨free.toNat, by omega⟩
  have HKN := Lib.hid (HK w)
  clear HK
  go_enter Tryz.func6, Tryz.ntmps6
  go_upto_region 4 with (go_at_call 27; refine HKN.out.mono ?_; rintro e w1 ⟨rfl, hb1⟩; have HB1 := Lib.hid hb1; clear hb1)
  go_wp2_with fail
  go_loopw [7, 8] (fun v i wr => ∃ k : Nat, k ≤ 16 ∧ i = .int .i64 k ∧ wr.ownsRow w.heap.size IntT 1 v (Sp.bitsTo F k).length ((Sp.bitsTo F k).map iv) ∧ Below w.heap.size w wr) (fun _ i _ => 16 - (intOf i).toNat)
  case atStart => exact ⟨0, by omega, rfl, World.ownsRow_nil _ _ _ _, HB1.out⟩
  case round =>
    obtain ⟨k, hk, rfl, ho, hb⟩ := hrel
    have HO := Lib.hid ho
    have HB := Lib.hid hb
    clear ho hb
    by_cases hk16 : k < 16
    · obtain ⟨A7, c7, rfl⟩ := own_slice HO.out
      have hln := (Sp.bitsTo_rng (free := F) (i := k)).2.2
      have hbt := bit_u16 F k
      by_cases hb1 : F / 2 ^ k % 2 = 1
      · have HE := Lib.hid (Sp.bitsTo_yes hb1)
        rw [decide_eq_true hb1] at hbt
        have hlt := HB.out.size
        clear hb1
        go_wp2_with (at_builtin; refine wpList_append_own _ rfl _ _ 26 rfl w.heap.size IntT i0 _ 1 8 Tryz.underlying26 hi0 hz0 hz1 hz2 rfl (by decide) (.slice A7 (Sp.bitsTo F k).length c7) (Sp.bitsTo F k).length ((Sp.bitsTo F k).map iv) rfl ?c0 ⟨wr.heap.size, 0, none⟩ 1 1 [iv (2 + (k : Int))] rfl rfl ?c1 ?c2 ?c3 ?c4 ?c5 ?_)
        case c0 => exact HO.out.alloc _
        case c1 => exact cell_one_new _ _ _
        case c2 => exact fun u hu => by rw [List.mem_singleton.1 hu]; rfl
        case c3 => simp only [maxLen]; omega
        case c4 => omega
        case c5 => simp; omega
        intro v' w' hown' hgr' _
        have hk2 : Below w.heap.size w (wr.alloc (.cells #[iv (2 + (k : Int))] IntT)) := HB.out.alloc HB.out.size _
        have HO2 := Lib.hid hown'
        have HB2 := Lib.hid (hk2.grown hgr' hk2.size (fun j hj => (HO.out.lt j hj).1))
        clear hown' hgr' hk2
        go_wp2_with fail
        go_roundw
        case rel => exact ⟨k + 1, by omega, by go_num, by rw [HE.out, List.length_append, List.map_append]; exact HO2.out, HB2.out⟩
        case measure => simp [intOf]; omega
      · have HE := Lib.hid (Sp.bitsTo_no hb1)
        rw [decide_eq_false hb1] at hbt
        clear hb1
        go_wp2_with fail
        go_roundw
        case rel => exact ⟨k + 1, by omega, by go_num, by rw [HE.out]; exact HO.out, HB.out⟩
        case measure => simp [intOf]; omega
    · obtain rfl : k = 16 := by omega
      obtain ⟨A7, c7, rfl⟩ := own_slice HO.out
      have hl16 := (Sp.bitsTo_rng (free := F) (i := 16)).2.2
      have HIV := Lib.hid (own_ivb HO.out (by omega))
      generalize hmm : 18 + most % 20 = mm at *
      have hmm2 : 18 ≤ mm ∧ mm < 38 := by omega
      have HS0 := Lib.hid (show (Sp.Sto.new 18 mm (Sp.bitsTo F 16)).avail = Sp.bitsTo F 16 from by
        obtain ⟨h1, h2, _⟩ := Sp.bitsTo_rng (free := F) (i := 16)
        have := Sp.foldl_new (b := min (min (max 18 2) 400) (min (max mm 2) 400)) (Sp.bitsTo F 16) [] h1 (fun x hx => by have := h2 x hx; omega)
        exact this)
      have HS1 := Lib.hid (show (Sp.Sto.new 18 mm (Sp.bitsTo F 16)).last = 18 from rfl)
      have HS2 := Lib.hid (show (Sp.Sto.new 18 mm (Sp.bitsTo F 16)).most = mm from by show min (max mm 2) 400 = mm; omega)
      have HS3 := Lib.hid (show (Sp.Sto.new 18 mm (Sp.bitsTo F 16)).d = [] from rfl)
      have HS4 := Lib.hid (Sp.Sto.new_ok 18 mm (Sp.bitsTo F 16))
      go_upto_region 11 with (first
        | (go_at_call 20; refine (fileNew_nil _).mono ?_; rintro e w2 ⟨f, fv, m, rfl, hf, _, _, hb2⟩; have HF := Lib.hid hf; have HB2 := Lib.hid hb2; clear hf hb2)
        | (go_at_call 28; refine (stoNew_any f m fv [] 18 mm (.slice A7 (Sp.bitsTo F 16).length c7) (Sp.bitsTo F 16) _ HF.out (HIV.out.go HB2.out).iv).mono ?_; rintro e w3 ⟨t, d, M, rfl, hst, hM, hb3, ht, hd⟩; have HST := Lib.hid hst; have HM := Lib.hid hM; have HB3 := Lib.hid hb3; clear hst hM hb3))
      have hzz : w.heap.size ≤ wr.heap.size := HB.out.size
      have hz2 := HB2.out.size
      have HBB := Lib.hid (HB.out.trans ((HB2.out.mono hzz).trans (HB3.out.mono (by omega))))
      have HN0 := Lib.hid (show NuS w M t f m d fv mm 0 (.slice A7 (Sp.bitsTo F 16).length c7) (Sp.Sto.new 18 mm (Sp.bitsTo F 16)) w3 from
        ⟨HST.out, HS4.out, HBB.out, ⟨by omega, by omega⟩, by rw [HS0.out]; exact (HIV.out.go HB2.out).go HB3.out, HS2.out, by rw [HS3.out]; exact Nat.le_refl _⟩)
      have HLN := Lib.hid (show (Sp.bitsTo F 16).length = (Sp.Sto.new 18 mm (Sp.bitsTo F 16)).avail.length from by rw [HS0.out])
      generalize (Sp.bitsTo F 16).length = len0 at *
      generalize Sp.Sto.new 18 mm (Sp.bitsTo F 16) = s0 at *
      clear HIV HST HBB HB HB2 HB3 HS0 HS2 HS3 HS4 HM HF hz2 hzz ht hd HO hl16
      go_wp2_with fail
      obtain ⟨N, hN⟩ : ∃ N : Nat, n % 40 = N := ⟨(n % 40).toNat, by omega⟩
      have hN40 : N < 40 := by omega
      go_loopw [7, 11, 12] (fun v l i wr => ∃ (k : Nat) (s : Sp.Sto) (A : Option Addr) (c : Nat), k ≤ N ∧ i = .int .i64 k ∧ v = .slice A s.avail.length c ∧ l = .int .i64 s.last ∧ NuS w M t f m d fv mm k v s wr) (fun _ _ i _ => N - (intOf i).toNat)
      case atStart => exact ⟨0, s0, A7, c7, Nat.zero_le _, rfl, by rw [HLN.out], by rw [HS1.out], HN0.out⟩
      case round =>
        obtain ⟨k, s, A, c, hk, rfl, rfl, rfl, hs⟩ := hrel
        have S := Lib.hid hs
        clear hs HN0 HLN HS1
        by_cases hkn : k < N
        · have htw := S.out.st.lt t S.out.st.hM.1
          have hdw := S.out.st.lt d S.out.st.hM.2
          have hcn := S.out.cnt
          have hc120 : s.d.length < 120 := by omega
          have HADD := Lib.hid (fun (r : Refs) (W : World) (hb : Below wr.heap.size wr W) (hp : PageRd W (LowB wr) (Sp.lfPg [107]) r) => stoAdd_any M t f m d fv [] s (Sp.lfPg [107]) r W (S.out.st.go hb) S.out.ok hp (fun k hk => by
            show k < wr.heap.size
            rcases hk with rfl | rfl <;> assumption))
          have HOK := Lib.hid (S.out.ok.add (Sp.lfPg [107]))
          obtain ⟨A', c', e, hform⟩ := S.out.av.iv.form
          simp only [Value.slice.injEq] at e
          obtain ⟨rfl, _, rfl⟩ := e
          rcases hav : s.avail with _ | ⟨x, l⟩
          · have hlen : s.avail.length = 0 := by rw [hav]; rfl
            simp only [List.length_nil]
            have hsl := S.out.ok.last
            have hsm : s.most = mm := S.out.mo
            have HLN := Lib.hid (show ∀ (A : Option Addr) (c : Nat), Value.slice A 0 c = Value.slice A s.avail.length c from fun A c => by rw [hlen])
            have HNI := Lib.hid S.out.st.not_int
            have HAV := Lib.hid S.out.av
            by_cases hlm : s.last < mm
            · have HA := Lib.hid (Sp.Sto.add_last (p := Sp.lfPg [107]) hav Sp.lf_k hc120 (by rw [hsm]; exact hlm))
              rw [HA.out] at HADD HOK
              clear hform htw hdw
              go_upto_region 16 with (first
                | (go_at_call 30; refine (leaf_any [107] _).mono ?_; rintro e w4 ⟨r4, rfl, hp4, hb4⟩; have HP4 := Lib.hid hp4; have HB4 := Lib.hid hb4; clear hp4 hb4)
                | (go_at_call 29; refine (HADD.out r4 w4 HB4.out HP4.out).mono ?_; rintro e w5 ⟨rfl, hst5, hk5⟩; have HST5 := Lib.hid hst5; have HK5 := Lib.hid hk5; clear hst5 hk5; simp only [erO]))
              have HK45 := Lib.hid ((Chg.of_below (S := TwoM t d) HB4.out).trans HK5.out)
              have hN5 := Lib.hid (show NuS w M t f m d fv mm (k + 1) (.slice A s.avail.length c) { s with last := s.last + 1, d := Sp.putD s.d s.last (Sp.lfPg [107]) } w5 from
                ⟨HST5.out, HOK.out, S.out.hb.trans (HK45.out.below S.out.hb.size fun j hj e => by
                  have := S.out.ht
                  rcases e with rfl | rfl <;> omega), S.out.ht, HAV.out.chg HK45.out HNI.out, S.out.mo, by
                  have := Sp.putD_len s.d s.last (Sp.lfPg [107])
                  show (Sp.putD s.d s.last (Sp.lfPg [107])).length ≤ k + 1
                  omega⟩)
              clear hav hlen hsm
              go_wp2_with fail
              go_roundw
              case rel => exact ⟨k + 1, { s with last := s.last + 1, d := Sp.putD s.d s.last (Sp.lfPg [107]) }, A, c, by omega, by go_num, HLN.out A c, rfl, by rw [HLN.out A c]; exact hN5.out⟩
              case measure => simp [intOf]; omega
            · have HA := Lib.hid (Sp.Sto.add_full (p := Sp.lfPg [107]) hav Sp.lf_k hc120 (by rw [hsm]; omega))
              rw [HA.out] at HADD HOK
              clear hform htw hdw
              go_upto_region 16 with (first
                | (go_at_call 30; refine (leaf_any [107] _).mono ?_; rintro e w4 ⟨r4, rfl, hp4, hb4⟩; have HP4 := Lib.hid hp4; have HB4 := Lib.hid hb4; clear hp4 hb4)
                | (go_at_call 29; refine (HADD.out r4 w4 HB4.out HP4.out).mono ?_; rintro e w5 ⟨rfl, hst5, hk5⟩; have HST5 := Lib.hid hst5; have HK5 := Lib.hid hk5; clear hst5 hk5; simp only [erO]))
              have HK45 := Lib.hid ((Chg.of_below (S := TwoM t d) HB4.out).trans HK5.out)
              have hN5 := Lib.hid (show NuS w M t f m d fv mm (k + 1) (.slice A s.avail.length c) s w5 from
                ⟨HST5.out, HOK.out, S.out.hb.trans (HK45.out.below S.out.hb.size fun j hj e => by
                  have := S.out.ht
                  rcases e with rfl | rfl <;> omega), S.out.ht, HAV.out.chg HK45.out HNI.out, S.out.mo, by
                  have := S.out.cnt
                  omega⟩)
              clear hav hlen hsm
              go_wp2_with (first
                | (go_at_call 26; refine (errIs_same 14 _).mono ?_; rintro e w6 ⟨rfl, rfl⟩)
                | (go_at_call 31; refine (stoLast_any M t f m d fv [] s _ hN5.out.st).mono ?_; rintro e w6 ⟨rfl, rfl⟩))
              go_roundw
              case rel => exact ⟨k + 1, s, A, c, by omega, by go_num, HLN.out A c, rfl, by rw [HLN.out A c]; exact hN5.out⟩
              case measure => simp [intOf]; omega
          · have hlen : s.avail.length = l.length + 1 := by rw [hav]; rfl
            have HA := Lib.hid (Sp.Sto.add_avail (p := Sp.lfPg [107]) hav Sp.lf_k hc120 S.out.ok.avail)
            rw [HA.out] at HADD HOK
            obtain ⟨b, off, rfl, hcl⟩ : ∃ b off, A = some ⟨b, off, none⟩ ∧ ∀ j, j < s.avail.length → wr.cell? ⟨b, off + j, none⟩ = some (.int .i64 (s.avail.getD j 0)) := by
              rcases hform with ⟨_, e⟩ | h
              · rw [hav] at e; cases e
              · exact h
            have HX := Lib.hid (show wr.cell? ⟨b, off, none⟩ = some (.int .i64 x) from by
              have := hcl 0 (by omega)
              rw [hav] at this
              exact this)
            obtain ⟨csb, hbb⟩ := S.out.av.blk _ _ _ rfl
            have HBB2 := Lib.hid hbb
            have HAV := Lib.hid (show IVB wr (.slice (some ⟨b, off, none⟩) (l.length + 1) c) (x :: l) from by have := S.out.av; rw [hav] at this; exact this)
            have HNI := Lib.hid S.out.st.not_int
            simp only [List.length_cons]
            clear hform hcl hbb hav hlen htw hdw
            go_upto_region 16 with (first
              | (go_at_call 30; refine (leaf_any [107] _).mono ?_; rintro e w4 ⟨r4, rfl, hp4, hb4⟩; have HP4 := Lib.hid hp4; have HB4 := Lib.hid hb4; clear hp4 hb4)
              | (go_at_call 29; refine (HADD.out r4 w4 HB4.out HP4.out).mono ?_; rintro e w5 ⟨rfl, hst5, hk5⟩; have HST5 := Lib.hid hst5; have HK5 := Lib.hid hk5; clear hst5 hk5; simp only [erO]))
            have HK45 := Lib.hid ((Chg.of_below (S := TwoM t d) HB4.out).trans HK5.out)
            have hx0 : w5.cell? ⟨b, off, none⟩ = some (.int .i64 x) := (HK45.out.cell HBB2.out.lt (HNI.out _ _ HBB2.out)).trans HX.out
            have hN5 := Lib.hid (show NuS w M t f m d fv mm (k + 1) (.slice (if c = 1 then some ⟨b, off, none⟩ else some ⟨b, off + 1, none⟩) l.length (c - 1)) { s with avail := l, d := Sp.putD s.d x (Sp.lfPg [107]) } w5 from
              ⟨HST5.out, HOK.out, S.out.hb.trans (HK45.out.below S.out.hb.size fun j hj e => by
                have := S.out.ht
                rcases e with rfl | rfl <;> omega), S.out.ht, (HAV.out.chg HK45.out HNI.out).tail, S.out.mo, by
                have := Sp.putD_len s.d x (Sp.lfPg [107])
                show (Sp.putD s.d x (Sp.lfPg [107])).length ≤ k + 1
                omega⟩)
            go_wp2_with fail
            go_roundw
            case rel => exact ⟨k + 1, { s with avail := l, d := Sp.putD s.d x (Sp.lfPg [107]) }, _, _, by omega, by go_num, rfl, rfl, hN5.out⟩
            case measure => simp [intOf]; omega
        · obtain ⟨_, hints⟩ := S.out.av.ints
          have HIN := Lib.hid hints
          clear hints
          go_wp2_with (first
            | (go_at_call 31; refine (stoLast_any M t f m d fv [] s _ S.out.st).mono ?_; rintro e w6 ⟨rfl, rfl⟩)
            | (go_at_call 32; refine (stoAvail_any M t f m d fv [] s _ S.out.st).mono ?_; rintro e w6 ⟨ru, rfl, ho6, hb6⟩; obtain ⟨Ao, co, rfl⟩ := own_slice ho6; have HO6 := Lib.hid (own_ivb ho6 (by have := S.out.ok.avail.len; omega)); have HB6 := Lib.hid hb6; clear ho6 hb6)
            | (go_at_call 21; refine (dSameInts s.avail s.avail Ao A co c w6 HO6.out.ints.2 (Ints.go HIN.out HB6.out)).mono ?_; rintro e w7 ⟨rfl, hb7⟩; have HB7 := Lib.hid hb7; clear hb7))
          go_ret
          have z1 := S.out.hb.size
          have z2 := HB6.out.size
          exact ⟨by simp, S.out.hb.trans ((HB6.out.mono z1).trans (HB7.out.mono (by omega)))⟩
end Go.Proofs.YtkcfmjlcijhieaaGreat
namespace Go.Proofs.YtkcfmjlcijhieaaGreat
open Go.RowKit
attribute [local go_sem low] mk_extract
attribute [local go_sem] After.cell After.frozen mk_extract_end ByteArray.mk_append_mk
theorem numbers_walk (free n most : Int) (hf : 0 ≤ free) (hf2 : free ≤ 65535) (hn : 0 ≤ n) (hn2 : n ≤ 255) (hm : 0 ≤ most) (hm2 : most ≤ 255) (w : World) :
    Calls Tryz.prog 6 #[.int .u16 free, .int .u8 n, .int .u8 most] w fun e w' => e = .returned (.bool true) ∧ Below w.heap.size w w' :=
  numbers_walk0 known8_any free n most ⟨hf, by omega⟩ ⟨hn, by omega⟩ ⟨hm, by omega⟩ w
end Go.Proofs.YtkcfmjlcijhieaaGreat
namespace Go.Proofs.YtkcfmjlcijhieaaGreat.storeNumbers
open Go.ChangeShapes Go.WideShapes Go.ChangeAt Go.RowKit
set_option maxRecDepth 100000 in
theorem lifted (os : Os) (started : os.Started) (H : Type) (enc : TypeId × Value → H) :
    ReturnsInHanded {} Tryz.checked os 6 .any (Rows.storeNumbersSpec.pre6 enc Tryz.prog Tryz.f6 Rows.storeNumbersRow.domain false) (Rows.storeNumbersSpec.post enc Tryz.prog Tryz.f6 false true false false) := by
  refine returnsInHanded_of_change (C := Tryz.checked) ownKn started (by kernel_rfl) Tryz.func6
    (ChangeSpec.witness6 (enc := enc) (C := Tryz.checked) false ⟨#[], #[.int .u16 0, .int .u8 0, .int .u8 0], []⟩ 8 (by kernel_rfl) (by kernel_rfl) (by kernel_rfl) (by kernel_rfl)) ?_
  intro W base args ds gs before hval0 hW hcnd _
  have hval : ∀ (j : Nat) t v, Tryz.f6.params[j]? = some t → args[j]? = some v → Value.okWide Tryz.prog W .any base t v := hval0
  have hW' := hW
  obtain ⟨p, q, hA0, hV, rfl, hfz, hnd⟩ := hW
  have hA : DataW.TrodAll enc Tryz.prog W 0 (fun _ => true) true Tryz.f6.params.toList args.toList ds p := hA0
  rw [Tryz.params6] at hA hval
  obtain ⟨v0, vs0, d0, ds0, p0, q0, hargs, rfl, rfl, h0, rr0⟩ := trodAll_cons hA
  obtain ⟨v1, vs1, d1, ds1, p1, q1, rfl, rfl, rfl, h1, rr1⟩ := trodAll_cons rr0
  obtain ⟨v2, vs2, d2, ds2, p2, q2, rfl, rfl, rfl, h2, rr2⟩ := trodAll_cons rr1
  obtain ⟨rfl, rfl, rfl⟩ := trodAll_nil rr2
  obtain rfl : args = #[v0, v1, v2] := by cases args; simp_all
  obtain ⟨rfl, rfl⟩ := trodVars_none hV
  obtain ⟨a0, rfl, rfl, rfl, w0⟩ := open_int Tryz.underlying57 (hval 0 57 v0 rfl rfl) h0
  obtain ⟨a1, rfl, rfl, rfl, w1⟩ := open_int Tryz.underlying5 (hval 1 5 v1 rfl rfl) h1
  obtain ⟨a2, rfl, rfl, rfl, w2⟩ := open_int Tryz.underlying5 (hval 2 5 v2 rfl rfl) h2
  clear hA0 hval0
  simp only [List.append_nil] at hW'
  refine (numbers_walk a0 a1 a2 (bounds_u16 w0).1 (bounds_u16 w0).2 (bounds_u8 w1).1 (bounds_u8 w1).2 (bounds_u8 w2).1 (bounds_u8 w2).2 W).mono fun e W' ⟨he, hg⟩ => ?_
  subst he
  exact ⟨_, rfl, post_of_below (pa := []) (pv := []) hW' (fun _ _ _ => (trodAll_cons_mk (shut_bool Tryz.underlying4 _) trodAll_mk0)) (fun sp hsp => (trodAll_cons_mk (shut_int Tryz.underlying57 w0) (trodAll_cons_mk (shut_int Tryz.underlying5 w1) (trodAll_cons_mk (shut_int Tryz.underlying5 w2) trodAll_mk0)))) (fun _ _ => rfl) (by simp)
    hg (ok_one (by kernel_rfl) rfl (okWide_bool_mk Tryz.underlying4 _))⟩
theorem over : Rows.storeNumbersRow.holds Tryz.pinned (OpenSpec.ofChange Rows.storeNumbersSpec) :=
  OpenClaim.holds_of_wide 6 Tryz.f6 rfl rfl rfl rfl rfl rfl rfl ⟨rfl, rfl, rfl, rfl, rfl⟩ rfl rfl rfl rfl rfl (by kernel_rfl) Tryz.func6 (by kernel_rfl)
    (of_decide_eq_true (by kernel_rfl)) (by unfold Func.isWrapper; first | (rw [if_pos (by decide +kernel)]; kernel_rfl) | (rw [if_neg (by decide +kernel)]; exact ⟨rfl, rfl⟩))
    (fun os started H enc _ => lifted os started H enc)
theorem proved : Rows.StoreNumbersSaid :=
  over
#print axioms proved
end Go.Proofs.YtkcfmjlcijhieaaGreat.storeNumbers
