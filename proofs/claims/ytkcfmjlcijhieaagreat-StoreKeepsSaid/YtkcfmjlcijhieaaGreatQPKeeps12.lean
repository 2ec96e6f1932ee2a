/- Whatever is done in a store, the file stays as it is: the law's walk, to its loop of steps. -/
import Derived.Test.YtkcfmjlcijhieaaGreatQB25
import Derived.Test.YtkcfmjlcijhieaaGreatQPKeeps00
import Derived.Test.YtkcfmjlcijhieaaGreatQPKeeps02
import Derived.Test.YtkcfmjlcijhieaaGreatQPKeeps10
import Derived.Test.YtkcfmjlcijhieaaGreatQPKeeps11
set_option linter.unusedSimpArgs false
set_option linter.unusedVariables false
namespace Go.Proofs.YtkcfmjlcijhieaaGreat
open Go.RowKit
attribute [local go_sem low] mk_extract
attribute [local go_sem] After.cell After.frozen mk_extract_end ByteArray.mk_append_mk
/-- Rows that lie below a block. -/
def HighM (n k : Nat) : Prop := n ≤ k
theorem Row.high {w : World} {A : Option Addr} {cs : List Value} {M : Nat → Prop} (h : Row w M A cs) : Row w (HighM w.heap.size) A cs := by
  refine ⟨h.1, ?_⟩
  rcases h.2 with h | ⟨b, off, e, hb, _, hc⟩
  · exact .inl h
  · exact .inr ⟨b, off, e, hb, fun h => by unfold HighM at h; omega, hc⟩
theorem Items.high {w : World} {A : Option Addr} {l : List Sp.Item} {M : Nat → Prop} (h : Items w M A l) : Items w (HighM w.heap.size) A l := by
  refine ⟨h.1, ?_⟩
  rcases h.2 with h | ⟨b, off, e, hb, _, hc⟩
  · exact .inl h
  · refine .inr ⟨b, off, e, hb, fun h => by unfold HighM at h; omega, fun k hk => ?_⟩
    obtain ⟨V, c, h1, h2⟩ := hc k hk
    exact ⟨V, c, h1, Row.high h2⟩
theorem Frees.high {w : World} {A : Option Addr} {l : List Sp.Free} {M : Nat → Prop} (h : Frees w M A l) : Frees w (HighM w.heap.size) A l := by
  refine ⟨h.1, ?_⟩
  rcases h.2 with h | ⟨b, off, e, hb, _, hc⟩
  · exact .inl h
  · refine .inr ⟨b, off, e, hb, fun h => by unfold HighM at h; omega, fun k hk => ?_⟩
    obtain ⟨V, c, h1, h2, h3⟩ := hc k hk
    exact ⟨V, c, h1, Row.high h2, h3⟩
theorem PageRd.high {w : World} {p : Sp.Page} {r : Refs} {M : Nat → Prop} (h : PageRd w M p r) : PageRd w (HighM w.heap.size) p r :=
  ⟨h.items.high, Row.high h.keys, Row.high h.kids, Row.high h.vals, h.free.high, h.txn⟩
/-- What the law holds. -/
structure KpS (w : World) (M : Nat → Prop) (t f m d : Nat) (fv : Value) (V : List Txt) (bv wv : Value) (was : List Int) (s : Sp.Sto) (W : World) : Prop where
  st : StAt W M t f m d fv V s
  em : W.heap[m]? = some (.map #[] 0)
  ow : W.ownsRow w.heap.size StrT 1 bv V.length (V.map tv)
  wa : W.ownsRow w.heap.size IntT 1 wv was.length (was.map iv)
  hb : Below w.heap.size w W
  ht : w.heap.size ≤ t ∧ w.heap.size ≤ d
section
variable {w W W' : World} {M : Nat → Prop} {t f m d : Nat} {fv : Value} {V : List Txt} {bv wv : Value} {was : List Int} {s s' : Sp.Sto}
theorem KpS.go (h : KpS w M t f m d fv V bv wv was s W) (hb : Below W.heap.size W W') : KpS w M t f m d fv V bv wv was s W' :=
  ⟨h.st.go hb, (hb.block m (by have := h.st.fa.map.lt; omega)).trans h.em, own_chg2 (S := NoM) h.ow (Chg.of_below hb) (fun _ _ h => h), own_chg2 (S := NoM) h.wa (Chg.of_below hb) (fun _ _ h => h), h.hb.trans (hb.mono h.hb.size), h.ht⟩
theorem KpS.step (h : KpS w M t f m d fv V bv wv was s W) (hs : StAt W' M t f m d fv V s') (hk : Chg (TwoM t d) W W') : KpS w M t f m d fv V bv wv was s' W' := by
  obtain ⟨uf, ua, h1, _, _⟩ := h.st.bt
  obtain ⟨D, hD, _⟩ := h.st.dm
  have hrow : ∀ {e : TypeId} {v : Value} {n : Nat} {xs : List Value}, StoT ≠ e → W.ownsRow w.heap.size e 1 v n xs → W'.ownsRow w.heap.size e 1 v n xs := fun {e v n xs} he ho => own_chg2 ho hk fun k hk' hh => by
    obtain ⟨cs, hc⟩ := own_ty ho hk'
    rcases hh with rfl | rfl
    · exact h1.not_ he _ hc
    · exact hD.not_blk hc
  refine ⟨hs, (hk.block m h.st.fa.map.lt ?_).trans h.em, hrow (by decide) h.ow, hrow (by decide) h.wa, h.hb.trans (hk.below h.hb.size fun k hk' e => ?_), h.ht⟩
  · rintro (rfl | rfl)
    · exact h.st.fa.map.not_blk h1
    · exact h.st.hm rfl
  · have := h.ht
    rcases e with rfl | rfl <;> omega
end
/-- A page at its place in a row. -/
theorem pg_cells {w W : World} {b o : Nat} {cs : List Value} (hl : b < w.heap.size) (hb : Below w.heap.size w W) (hc : ∀ j u, cs[j]? = some u → w.cell? ⟨b, o + j, none⟩ = some u) : ∀ j v, cs.toArray[j]? = some v → W.cell? ⟨b, o + j, none⟩ = some v := fun j v hv =>
  (hb.cell (p := ⟨b, o + j, none⟩) hl).trans (hc j v (by simpa using hv))
def keepV (P : List Sp.Page) (n : Nat) : List Txt := [[], []] ++ (P.take n).map Sp.bytes
theorem keepV_len (P : List Sp.Page) {n : Nat} (h : n ≤ P.length) : (keepV P n).length = n + 2 := by
  unfold keepV
  rw [List.length_append, List.length_map, List.length_take, Nat.min_eq_left h]
  simp
  omega
theorem keepV_succ (P : List Sp.Page) {n : Nat} (h : n < P.length) : keepV P (n + 1) = keepV P n ++ [Sp.bytes (P.getD n Sp.pg0)] := by
  unfold keepV
  rw [List.take_succ_eq_append_getElem h, List.map_append, ← List.append_assoc]
  simp [List.getD, h]
theorem bytes_le4 (p : Sp.Page) : (Sp.bytes p).length ≤ 2000000 := by
  cases h : Sp.isPage p with
  | false => simp [Sp.bytes, h]
  | true =>
    have := Sp.partsB_le h
    rw [Sp.bytes_of h]
    simp only [Sp.body, List.length_append, Sp.le8_length]
    omega
theorem keepV_sz (P : List Sp.Page) (n : Nat) : ∀ s ∈ keepV P n, s.length ≤ 4611686018427387904 := by
  intro s hs
  rcases List.mem_append.1 hs with hs | hs
  · have : s = [] := by simpa using hs
    rw [this]; simp
  · obtain ⟨p, _, rfl⟩ := List.mem_map.1 hs
    have := bytes_le4 p
    omega
abbrev StepT : TypeId := 77
/-- The law's loops behind its store. -/
def KeepsTail (P : List Sp.Page) (avail : List Int) (l : List Sp.Stp8) : Prop := True
set_option maxRecDepth 100000 in
set_option maxHeartbeats 3200000 in
theorem keeps_walk (P : List Sp.Page) (av : List Int) (l : List Sp.Stp8) (A B C : Option Addr) (cA cB cC : Nat) (w : World) (hP : Pgs w A P) (hav : Ints w NoM B av) (hl : Stps8 w C l) :
    Calls Tryz.prog 9 #[.slice A P.length cA, .slice B av.length cB, .slice C l.length cC] w fun e w' => e = .returned (.bool true) ∧ Below w.heap.size w w' := by
  have HKN := Lib.hid (known8_any w)
  have hP0 := hP.1
  have hl0 := hl.1
  have hav0 := hav.len
  by_cases hb1 : 20 < P.length
  · clear hP hl hav
    go_enter Tryz.func9, Tryz.ntmps9
    go_wp2_with (go_at_call 27; refine HKN.out.mono ?_; rintro e w1 ⟨rfl, hb1⟩; have HB1 := Lib.hid hb1; clear hb1)
    go_ret
    exact ⟨by simp, HB1.out⟩
  by_cases hb2 : 40 < av.length
  · clear hP hl hav
    go_enter Tryz.func9, Tryz.ntmps9
    go_wp2_with (go_at_call 27; refine HKN.out.mono ?_; rintro e w1 ⟨rfl, hb1⟩; have HB1 := Lib.hid hb1; clear hb1)
    go_ret
    exact ⟨by simp, HB1.out⟩
  by_cases hb3 : 60 < l.length
  · clear hP hl hav
    go_enter Tryz.func9, Tryz.ntmps9
    go_wp2_with (go_at_call 27; refine HKN.out.mono ?_; rintro e w1 ⟨rfl, hb1⟩; have HB1 := Lib.hid hb1; clear hb1)
    go_ret
    exact ⟨by simp, HB1.out⟩
  obtain ⟨i0, hi0, hz0, hz1, hz2⟩ := info_parts info_str
  have HP := Lib.hid hP
  have HAV := Lib.hid hav
  have HL := Lib.hid hl
  clear hP hav hl hP0 hl0 hav0
  go_enter Tryz.func9, Tryz.ntmps9
  go_upto_region 6 with (go_at_call 27; refine HKN.out.mono ?_; rintro e w1 ⟨rfl, hb1⟩; have HB1 := Lib.hid hb1; clear hb1)
  have hO0 := World.ownsRow_lit (base := w.heap.size) (e := StrT) (size := 1) w1 #[.string ⟨#[]⟩, .string ⟨#[]⟩] 2 HB1.out.size (by decide) rfl
  have HO0 := Lib.hid hO0
  have HB2 := Lib.hid (HB1.out.alloc HB1.out.size (.cells #[.string ⟨#[]⟩, .string ⟨#[]⟩] StrT))
  clear hO0 HKN HB1
  go_wp2_with fail
  go_loopw [7, 8] (fun u i wr => ∃ n : Nat, n ≤ P.length ∧ i = .int .i64 n ∧ wr.ownsRow w.heap.size StrT 1 u (n + 2) ((keepV P n).map tv) ∧ Below w.heap.size w wr) (fun _ i _ => P.length - (intOf i).toNat)
  case atStart => exact ⟨0, Nat.zero_le _, rfl, HO0.out, HB2.out⟩
  case round =>
    obtain ⟨n, hn, rfl, ho, hb⟩ := hrel
    have HO := Lib.hid ho
    have HB := Lib.hid hb
    clear ho hb HO0 HB2
    by_cases hnp : n < P.length
    · obtain ⟨pb, po, rfl, hpl, hpc⟩ := (show P = [] ∨ _ from HP.out.2).resolve_left (fun e => by rw [e] at hnp; simp at hnp)
      obtain ⟨r, hr, hrc⟩ := hpc n hnp
      have HRC := Lib.hid (pg_cells hpl HB.out hrc)
      have HR := Lib.hid (hr.go HB.out)
      have hpw : pb < wr.heap.size := Nat.lt_of_lt_of_le hpl HB.out.size
      have c4 : wr.cell? ⟨pb, po + n * 14 + 4, none⟩ = some (.string ⟨(P.getD n Sp.pg0).text.toArray⟩) := HRC.out 4 _ rfl
      have HSC := Lib.hid (keepV_succ P hnp)
      clear hpc hr hrc
      generalize P.getD n Sp.pg0 = p at *
      by_cases h500 : 500 < p.text.length
      · go_wp2_with fail
        go_ret
        exact ⟨by simp, HB.out⟩
      · go_upto_region 11 with fail
        have HDB := Lib.hid (dBytes_any p r wr HR.out)
        go_wp2_with (first
          | (refine wpList_at PageT _ rfl pb (po + n * 14) rfl rfl (pageV p r).toArray _ HRC.out Tryz.underlying39 rfl (by kernel_rfl) ?_)
          | (go_at_call 18; refine HDB.out.mono ?_; rintro e w5 ⟨rfl, hb5⟩; have HB5 := Lib.hid hb5; clear hb5; have HOW := Lib.hid (own_chg2 (S := NoM) HO.out (Chg.of_below (HB5.out.trans ((Below.refl w5.heap.size w5).alloc (Nat.le_refl _) (.cells #[.string ⟨(Sp.bytes p).toArray⟩] StrT) |>.mono HB5.out.size))) (fun _ _ h => h)))
          | (at_builtin; refine wpList_append_own _ rfl _ _ 32 rfl w.heap.size StrT i0 _ 1 16 Tryz.underlying32 hi0 hz0 hz1 hz2 rfl (by decide) _ (n + 2) _ rfl HOW.out ⟨w5.heap.size, 0, none⟩ 1 1 [tv (Sp.bytes p)] rfl rfl (cell_one_new _ _ _) (fun u hu => by rw [List.mem_singleton.1 hu]; rfl) ?c3 ?c4 ?c5 ?_))
        case c3 => simp only [maxLen]; omega
        case c4 => omega
        case c5 => rw [World.size_alloc]; have := HB.out.size; have := HB5.out.size; omega
        intro v6 w6 ho6 hgr6 _
        have hz4 : w.heap.size ≤ wr.heap.size := HB.out.size
        have hb6 : Below w.heap.size w w6 := (HB.out.trans (HB5.out.mono hz4)).trans (((Below.refl w5.heap.size w5).alloc (Nat.le_refl _) _).mono (Nat.le_trans hz4 HB5.out.size)) |>.trans (grown_own0 HOW.out (by rw [World.size_alloc]; have := HB5.out.size; omega) hgr6)
        have HB6 := Lib.hid hb6
        have HO6 := Lib.hid (show w6.ownsRow w.heap.size StrT 1 v6 (n + 1 + 2) ((keepV P (n + 1)).map tv) from by rw [HSC.out, List.map_append]; exact ho6)
        clear ho6 hgr6 hb6 HOW HB5
        go_wp2_with fail
        go_roundw
        case rel => exact ⟨n + 1, by omega, by go_num, HO6.out, HB6.out⟩
        case measure => simp [intOf]; omega
    · have hnl : n = P.length := by omega
      subst hnl
      have hlen := keepV_len P (Nat.le_refl P.length)
      have hvsz := keepV_sz P P.length
      obtain ⟨Au, cu, hu⟩ := own_slice HO.out
      subst hu
      rcases own_none HO.out with ⟨_, h0, _⟩ | ⟨g, cur, hA, _, hbg, hcg⟩
      · omega
      subst hA
      have htx : Txts wr NoM (some ⟨g, 0, none⟩) (keepV P P.length) := ⟨by rw [List.length_map, hlen]; omega, .inr ⟨g, 0, rfl, hbg.lt, fun h => h, hcg⟩⟩
      have hcap : P.length + 2 ≤ cu := by
        rcases HO.out.2 with ⟨h0, _⟩ | ⟨g', cap, cur, hv, _, _, h1, _⟩
        · cases h0
        · injection hv with _ _ hc
          omega
      have hn2 : 2 ≤ P.length + 2 := by omega
      have hn22 : P.length + 2 ≤ 22 := by omega
      generalize keepV P P.length = V at *
      generalize P.length + 2 = n at *
      subst hlen
      have HFN := Lib.hid (fileNew_em V g 0 cu wr htx (by omega) hcap hvsz)
      have hV4 : V.length ≤ 400 := by omega
      clear htx hcg hbg hvsz HP
      have HNW := Lib.hid (fun f m fv W h1 h2 => stoNew_row f m fv V (V.length : Int) 400 B cB av W h1 h2 (by omega))
      have HK0 := Lib.hid (Sp.Kp.new (n := (V.length : Int)) (by omega) (by omega) av)
      generalize hs0 : Sp.Sto.new (V.length : Int) 400 av = s0 at *
      go_upto_region 15 with (first
        | (go_at_call 20; refine HFN.out.mono ?_; rintro e w2 ⟨f, fv, m, rfl, hf, _, _, _, hb2⟩; have HF := Lib.hid hf; have HB2 := Lib.hid hb2; clear hf hb2)
        | (go_at_call 28; refine (HNW.out f m fv w2 HF.out.at_ ((Ints.go HAV.out HB.out).go HB2.out)).mono ?_; rintro e w3 ⟨t, d, M, rfl, hst, hM, hb3, ht, hd⟩; have HST := Lib.hid hst; have HB3 := Lib.hid hb3; clear hst hM hb3)
        | (go_at_call 32; refine (stoAvail_any M t f m d fv V s0 _ HST.out).mono ?_; rintro e w4 ⟨ru, rfl, ho4, hb4⟩; obtain ⟨Aw, cw, rfl⟩ := own_slice ho4; have HO4 := Lib.hid ho4; have HB4 := Lib.hid hb4; clear ho4 hb4))
      have hz1 := HB.out.size
      have hz2 := HB2.out.size
      have hz3 := HB3.out.size
      have S0 := Lib.hid (show KpS w M t f m d fv V (.slice (some ⟨g, 0, none⟩) V.length cu) (.slice Aw s0.avail.length cw) s0.avail s0 w4 from
        ⟨HST.out.go HB4.out, (HB4.out.block m (by have := HF.out.at_.map.lt; omega)).trans ((HB3.out.block m HF.out.at_.map.lt).trans HF.out.em),
          own_chg2 (S := NoM) HO.out (Chg.of_below ((HB2.out.trans (HB3.out.mono hz2)).trans (HB4.out.mono (by omega)))) (fun _ _ h => h),
          own_less HO4.out (by omega), (HB.out.trans (HB2.out.mono hz1)).trans ((HB3.out.mono (by omega)).trans (HB4.out.mono (by omega))), ⟨by omega, by omega⟩⟩)
      have HLEN := Lib.hid (show s0.avail.length ≤ 1000 from by have := HK0.out.ok.avail.len; omega)
      clear HST HB HB2 HB3 HB4 HF HO HO4 hz1 hz2 hz3 ht hd HFN HNW HAV hs0
      generalize s0.avail = was at *
      go_wp2_with fail
      go_loopw [12] (fun i wr => ∃ (j : Nat) (s : Sp.Sto), j ≤ l.length ∧ i = .int .i64 j ∧ Sp.Kp (V.length : Int) was s ∧ KpS w M t f m d fv V (.slice (some ⟨g, 0, none⟩) V.length cu) (.slice Aw was.length cw) was s wr) (fun i _ => l.length - (intOf i).toNat)
      case atStart => exact ⟨0, s0, Nat.zero_le _, rfl, HK0.out, S0.out⟩
      case round =>
        obtain ⟨j, s, hj, rfl, hkp, hs⟩ := hrel
        have K := Lib.hid hkp
        have S := Lib.hid hs
        clear hkp hs S0 HK0
        by_cases hjl : j < l.length
        · as_aux_lemma =>
            obtain ⟨cb, co, rfl, hcl, hcc⟩ := (show l = [] ∨ _ from HL.out.2).resolve_left (fun e => by rw [e] at hjl; simp at hjl)
            obtain ⟨r, hr, hrc⟩ := hcc j hjl
            have HRC := Lib.hid (pg_cells hcl S.out.hb hrc)
            have HR := Lib.hid (hr.high.go S.out.hb)
            clear hcc hr hrc
            generalize l.getD j Sp.stp80 = x at *
            obtain ⟨what, id, p⟩ := x
            dsimp only at HRC HR
            go_upto_region 19 with (first
              | (refine wpList_at StepT _ rfl cb (co + j * 16) rfl rfl (.int .i64 what :: .int .i64 id :: pageV p r).toArray _ HRC.out Tryz.underlying77 rfl (by kernel_rfl) ?_)
              | (refine wpList_new StepT _ _ rfl rfl rfl rfl rfl rfl _ rfl (of_decide_eq_true (by kernel_rfl)) (by kernel_rfl) (by kernel_rfl) (by kernel_rfl) ?_))
            simp only [Act.put, List.setIfInBounds_toArray, List.set_cons_succ, List.set_cons_zero]
            have hal := (Below.refl wr.heap.size wr).alloc (Nat.le_refl _) (.cells (.int .i64 what :: .int .i64 id :: pageV p r).toArray StepT)
            refine wp_gen (fun W => (KpS w M t f m d fv V (.slice (some ⟨g, 0, none⟩) V.length cu) (.slice Aw was.length cw) was s W ∧ PageRd W (HighM w.heap.size) p r) ∧ Blk W wr.heap.size StepT (.int .i64 what :: .int .i64 id :: pageV p r).toArray) ⟨⟨S.out.go hal, HR.out.go hal⟩, Blk.new _ _ _⟩ ?_
            clear hal S HR HRC
            generalize wr.heap.size = b13 at *
            rintro w5 ⟨⟨hs5, hr5⟩, hb5⟩
            have S5 := Lib.hid hs5
            have R5 := Lib.hid hr5
            have c0 : w5.cell? ⟨b13, 0, none⟩ = some (.int .i64 what) := hb5.cell 0
            have c1 : w5.cell? ⟨b13, 1, none⟩ = some (.int .i64 id) := hb5.cell 1
            have CP := Lib.hid (show ∀ j v, (pageV p r).toArray[j]? = some v → w5.cell? ⟨b13, 2 + j, none⟩ = some v from fun j v hv => by
              rw [hb5.cell (2 + j), Nat.add_comm]
              simpa using hv)
            have HM := Lib.hid (show ∀ k, TwoM t d k → HighM w.heap.size k from fun k hk => by
              have := hs5.ht
              unfold HighM
              rcases hk with rfl | rfl <;> omega)
            have hnx : Sp.Kp (V.length : Int) was (s.does V what id p) := K.out.does V what id p
            have KN := Lib.hid hnx
            clear hs5 hr5 hb5 hnx
            by_cases h0 : what = 0
            · as_aux_lemma =>
              subst h0
              have HAD := Lib.hid (stoAdd_any M t f m d fv V s p r w5 S5.out.st K.out.ok R5.out HM.out)
              rw [show s.does V 0 id p = (s.add p).2 from rfl] at KN
              go_wp2_with (first
                | (refine wpList_at PageT _ rfl b13 2 rfl rfl (pageV p r).toArray _ CP.out Tryz.underlying39 rfl (by kernel_rfl) ?_)
                | (go_at_call 29; refine HAD.out.mono ?_; rintro e w6 ⟨rfl, hst6, hk6⟩; have S6 := Lib.hid (S5.out.step hst6 hk6); clear hst6 hk6))
              go_roundw
              case rel => exact ⟨j + 1, _, by omega, by go_num, KN.out, S6.out⟩
              case measure => simp [intOf]; omega
            by_cases h1 : what = 1
            · as_aux_lemma =>
              subst h1
              have HAD := Lib.hid (stoAdd_any M t f m d fv V s p r w5 S5.out.st K.out.ok R5.out HM.out)
              rw [show s.does V 1 id p = (s.add p).2 from rfl] at KN
              go_wp2_with (first
                | (refine wpList_at PageT _ rfl b13 2 rfl rfl (pageV p r).toArray _ CP.out Tryz.underlying39 rfl (by kernel_rfl) ?_)
                | (go_at_call 29; refine HAD.out.mono ?_; rintro e w6 ⟨rfl, hst6, hk6⟩; have S6 := Lib.hid (S5.out.step hst6 hk6); clear hst6 hk6))
              go_roundw
              case rel => exact ⟨j + 1, _, by omega, by go_num, KN.out, S6.out⟩
              case measure => simp [intOf]; omega
            by_cases h2 : what = 2
            · as_aux_lemma =>
              subst h2
              have HAD := Lib.hid (stoSet_any M t f m d fv V s id p r w5 S5.out.st R5.out HM.out)
              rw [show s.does V 2 id p = (s.set_ id p).2 from rfl] at KN
              go_wp2_with (first
                | (refine wpList_at PageT _ rfl b13 2 rfl rfl (pageV p r).toArray _ CP.out Tryz.underlying39 rfl (by kernel_rfl) ?_)
                | (go_at_call 38; refine HAD.out.mono ?_; rintro e w6 ⟨rfl, hst6, hk6⟩; have S6 := Lib.hid (S5.out.step hst6 hk6); clear hst6 hk6))
              go_roundw
              case rel => exact ⟨j + 1, _, by omega, by go_num, KN.out, S6.out⟩
              case measure => simp [intOf]; omega
            by_cases h3 : what = 3
            · as_aux_lemma =>
              subst h3
              have HAD := Lib.hid (stoTouch_any M t f m d fv V s id w5 S5.out.st K.out.ok hV4)
              rw [show s.does V 3 id p = (s.touch V id).2 from rfl] at KN
              go_wp2_with (go_at_call 39; refine HAD.out.mono ?_; rintro e w6 ⟨rfl, hst6, hk6⟩; have S6 := Lib.hid (S5.out.step hst6 hk6); clear hst6 hk6)
              go_roundw
              case rel => exact ⟨j + 1, _, by omega, by go_num, KN.out, S6.out⟩
              case measure => simp [intOf]; omega
            by_cases h4 : what = 4
            · as_aux_lemma =>
              subst h4
              have HAD := Lib.hid (stoDrop_any M t f m d fv V s id w5 S5.out.st K.out.ok)
              rw [show s.does V 4 id p = s.drop id from rfl] at KN
              go_wp2_with (go_at_call 34; refine HAD.out.mono ?_; rintro e w6 ⟨rfl, hst6, hk6⟩; have S6 := Lib.hid (S5.out.step hst6 hk6); clear hst6 hk6)
              go_roundw
              case rel => exact ⟨j + 1, _, by omega, by go_num, KN.out, S6.out⟩
              case measure => simp [intOf]; omega
            by_cases h5 : what = 5
            · as_aux_lemma =>
              subst h5
              have HAD := Lib.hid (stoRun_any M t f m d fv V s id w5 S5.out.st K.out.ok)
              rw [show s.does V 5 id p = (s.run id).2 from rfl] at KN
              go_wp2_with (go_at_call 33; refine HAD.out.mono ?_; rintro e w6 ⟨rfl, hst6, hk6⟩; have S6 := Lib.hid (S5.out.step hst6 hk6); clear hst6 hk6)
              go_roundw
              case rel => exact ⟨j + 1, _, by omega, by go_num, KN.out, S6.out⟩
              case measure => simp [intOf]; omega
            rw [show s.does V what id p = s from by unfold Sp.Sto.does; rw [if_neg (by omega), if_neg h2, if_neg h3, if_neg h4, if_neg h5]] at KN
            have e0 : (what == 0) = false := beq_eq_false_iff_ne.2 h0
            have e1 : (what == 1) = false := beq_eq_false_iff_ne.2 h1
            have e2 : (what == 2) = false := beq_eq_false_iff_ne.2 h2
            have e3 : (what == 3) = false := beq_eq_false_iff_ne.2 h3
            have e4 : (what == 4) = false := beq_eq_false_iff_ne.2 h4
            have e5 : (what == 5) = false := beq_eq_false_iff_ne.2 h5
            go_wp2_with fail
            go_roundw
            case rel => exact ⟨j + 1, _, by omega, by go_num, KN.out, S5.out⟩
            case measure => simp [intOf]; omega
        · have hje : j = l.length := by omega
          subst hje
          clear HL
          have hdl : s.dirty.length ≤ 1000 := by rw [s.dirty_len]; have := K.out.ok.cnt; omega
          have hfl : s.freed.length ≤ 1000 := by have := K.out.ok.freed.len; omega
          have hvl : s.avail.length ≤ 1000 := by have := K.out.ok.avail.len; omega
          have HFN := Lib.hid (show ∀ i, i < s.dirty.length → (s.dirty.getD i 0 < (V.length : Int) → was.contains (s.dirty.getD i 0) = true) ∧ s.freed.contains (s.dirty.getD i 0) = false ∧ s.avail.contains (s.dirty.getD i 0) = false from fun i hi => by
            have hm : s.dirty.getD i 0 ∈ s.d.map (·.1) := by
              rw [List.getD_eq_getElem?_getD, List.getElem?_eq_getElem hi]
              exact List.mem_mergeSort.1 (List.getElem_mem hi)
            obtain ⟨h1, h2, h3⟩ := K.out.fine hm
            exact ⟨fun h => List.contains_iff_mem.2 (h1 h), by rw [Bool.eq_false_iff, ne_eq, List.contains_iff_mem]; exact h2, by rw [Bool.eq_false_iff, ne_eq, List.contains_iff_mem]; exact h3⟩)
          go_upto_region 32 with (first
            | (go_at_call 36; refine (stoDirty_any M t f m d fv V s _ S.out.st K.out.ok).mono ?_; rintro e w7 ⟨ru, rfl, ho7, hb7⟩; obtain ⟨Ad, cd, rfl⟩ := own_slice ho7; have HD7 := Lib.hid (own_ivb8 ho7 hdl); have HB7 := Lib.hid hb7; clear ho7 hb7)
            | (go_at_call 35; refine (stoFreed_any M t f m d fv V s _ (S.out.go HB7.out).st).mono ?_; rintro e w8 ⟨rg, rfl, ho8, hb8⟩; obtain ⟨Ag, cg, rfl⟩ := own_slice ho8; have HG8 := Lib.hid (own_ivb8 ho8 hfl); have HB8 := Lib.hid hb8; clear ho8 hb8))
          have S8 := Lib.hid ((S.out.go HB7.out).go HB8.out)
          have HD8 := Lib.hid (Ints.go HD7.out HB8.out)
          have HW8 := Lib.hid (own_ivb8 S8.out.wa HLEN.out)
          clear S HB7 HB8 HD7
          go_wp2_with fail
          go_loopw [16] (fun i wr => ∃ q : Nat, q ≤ s.dirty.length ∧ i = .int .i64 q ∧ Below w8.heap.size w8 wr) (fun i _ => s.dirty.length - (intOf i).toNat)
          case atStart => exact ⟨0, Nat.zero_le _, rfl, Below.refl _ _⟩
          case round =>
            obtain ⟨q, hq, rfl, hbq⟩ := hrel
            have HBQ := Lib.hid hbq
            clear hbq
            by_cases hqd : q < s.dirty.length
            · as_aux_lemma =>
              obtain ⟨f1, f2, f3⟩ := HFN.out q hqd
              obtain ⟨db, dof, rfl, hdb, hdc⟩ := HD8.out.at_ hqd
              have cD := (HBQ.out.cell (p := ⟨db, dof + q, none⟩) hdb).trans (hdc q hqd)
              have hdw : db < wr.heap.size := Nat.lt_of_lt_of_le hdb HBQ.out.size
              have F1 := Lib.hid f1
              have F2 := Lib.hid f2
              have F3 := Lib.hid f3
              have cD8 := hdc q hqd
              clear hdc f1 f2 f3
              generalize s.dirty.getD q 0 = x at *
              have HWA := Lib.hid (fun W (hb : Below w8.heap.size w8 W) => dHas_any was Aw cw x W (Ints.go HW8.out hb))
              have HGA := Lib.hid (fun W (hb : Below w8.heap.size w8 W) => dHas_any s.freed Ag cg x W (Ints.go HG8.out hb))
              rw [F2.out] at HGA
              have HB0 := Lib.hid (show Below w8.heap.size w8 wr.drew from below_drewN HBQ.out 1)
              go_upto_region 35 with fail
              by_cases hxn : x < (V.length : Int)
              · as_aux_lemma =>
                go_region_held3 (fun W' => W'.cell? ⟨db, dof + q, none⟩ = some (.int .i64 x)) (first | exact cDd | exact cDc | exact cDb | exact cDa | exact cD) (first
                  | (go_at_call_of 40 (Value.slice Aw was.length cw); refine (HWA.out _ HB0.out).mono ?_; rintro e wa ⟨rfl, hba⟩; rw [F1.out hxn]; have HBA := Lib.hid (HB0.out.trans (hba.mono HB0.out.size)); have cDa : wa.cell? ⟨db, dof + q, none⟩ = some (.int .i64 x) := (hba.cell (p := ⟨db, dof + q, none⟩) hdw).trans cD; have hdwa : db < wa.heap.size := Nat.lt_of_lt_of_le hdw hba.size; clear hba)
                  | (go_at_call_of 40 (Value.slice Ag s.freed.length cg); refine (HGA.out _ HBA.out).mono ?_; rintro e wb ⟨rfl, hbb⟩; have HBB := Lib.hid (HBA.out.trans (hbb.mono HBA.out.size)); have cDb : wb.cell? ⟨db, dof + q, none⟩ = some (.int .i64 x) := (hbb.cell (p := ⟨db, dof + q, none⟩) hdwa).trans cDa; have hdwb : db < wb.heap.size := Nat.lt_of_lt_of_le hdwa hbb.size; clear hbb)
                  | (go_at_call 32; refine (stoAvail_any M t f m d fv V s _ (S8.out.go HBB.out).st).mono ?_; rintro e wc ⟨rv, rfl, hoc, hbc⟩; obtain ⟨Av, cv, rfl⟩ := own_slice hoc; have HAV := Lib.hid (dHas_any s.avail Av cv x wc (own_ivb8 hoc hvl)); rw [F3.out] at HAV; have HBC := Lib.hid (HBB.out.trans (hbc.mono HBB.out.size)); have cDc : wc.cell? ⟨db, dof + q, none⟩ = some (.int .i64 x) := (hbc.cell (p := ⟨db, dof + q, none⟩) hdwb).trans cDb; clear hoc hbc)
                  | (go_at_call_of 40 (Value.slice Av s.avail.length cv); refine HAV.out.mono ?_; rintro e wd ⟨rfl, hbd⟩; have HBD := Lib.hid (HBC.out.trans (hbd.mono HBC.out.size)); have hdwc : db < wc.heap.size := block_lt_of_cell cDc; have cDd : wd.cell? ⟨db, dof + q, none⟩ = some (.int .i64 x) := (hbd.cell (p := ⟨db, dof + q, none⟩) hdwc).trans cDc; clear hbd))
                all_goals
                  go_wp2_with fail
                  go_roundw
                  case rel => exact ⟨q + 1, by omega, by go_num, HBD.out⟩
                  case measure => simp [intOf]; omega
              · as_aux_lemma =>
                have hxd : decide (x < (V.length : Int)) = false := decide_eq_false hxn
                refine wp_region_in 33 32 (fun W => Below w8.heap.size w8 W) (by kernel_rfl) rfl ?_
                refine wpIn_takeV 0 [2, 3, 6, 7, 15, 16, 17, 22, 23, 24, 25, 26, 31, 32] (.slice (some ⟨db, dof, none⟩) s.dirty.length cd) rfl (by kernel_rfl) (by kernel_rfl) (by kernel_rfl) (by kernel_rfl) (by kernel_rfl) (by kernel_rfl) (by kernel_rfl) (by rfl) (fun _ _ _ h => h) HB0.out (fun W hW => by go_simp; all_goals first | with_reducible rfl | rfl | omega) ?_
                try simp only [List.getElem_toArray, List.getElem_cons_zero, List.getElem_cons_succ, Act.put, List.setIfInBounds_toArray, List.set_cons_succ, List.set_cons_zero]
                refine wpIn_takeV 1 [2, 3, 6, 7, 15, 16, 17, 22, 23, 24, 25, 26, 31, 32] (.int .i64 (q : Int)) rfl (by kernel_rfl) (by kernel_rfl) (by kernel_rfl) (by kernel_rfl) (by kernel_rfl) (by kernel_rfl) (by kernel_rfl) (by rfl) (fun _ _ _ h => h) HB0.out (fun W hW => by go_simp; all_goals first | with_reducible rfl | rfl | omega) ?_
                try simp only [List.getElem_toArray, List.getElem_cons_zero, List.getElem_cons_succ, Act.put, List.setIfInBounds_toArray, List.set_cons_succ, List.set_cons_zero]
                refine wpIn_takeV 2 [3, 6, 7, 15, 16, 17, 22, 23, 24, 25, 26, 31, 32] (.pointer (some ⟨db, dof + q, none⟩)) rfl (by kernel_rfl) (by kernel_rfl) (by kernel_rfl) (by kernel_rfl) (by kernel_rfl) (by kernel_rfl) (by kernel_rfl) (by rfl) (fun _ _ _ h => h) HB0.out (fun W hW => by go_simp; all_goals first | with_reducible rfl | rfl | omega) ?_
                try simp only [List.getElem_toArray, List.getElem_cons_zero, List.getElem_cons_succ, Act.put, List.setIfInBounds_toArray, List.set_cons_succ, List.set_cons_zero]
                refine wpIn_takeV 3 [6, 7, 15, 16, 17, 22, 23, 24, 25, 26, 31, 32] (.int .i64 x) rfl (by kernel_rfl) (by kernel_rfl) (by kernel_rfl) (by kernel_rfl) (by kernel_rfl) (by kernel_rfl) (by kernel_rfl) (by rfl) (fun _ _ _ h => h) HB0.out (fun W hW => by have hc := (hW.cell (p := ⟨db, dof + q, none⟩) hdb).trans cD8; go_simp; all_goals first | with_reducible rfl | rfl | omega) ?_
                try simp only [List.getElem_toArray, List.getElem_cons_zero, List.getElem_cons_succ, Act.put, List.setIfInBounds_toArray, List.set_cons_succ, List.set_cons_zero]
                refine wpIn_takeV 4 [5, 6, 7, 15, 16, 17, 22, 23, 24, 25, 26, 31, 32] (.slice (some ⟨g, 0, none⟩) V.length cu) rfl (by kernel_rfl) (by kernel_rfl) (by kernel_rfl) (by kernel_rfl) (by kernel_rfl) (by kernel_rfl) (by kernel_rfl) (by rfl) (fun _ _ _ h => h) HB0.out (fun W hW => by go_simp; all_goals first | with_reducible rfl | rfl | omega) ?_
                try simp only [List.getElem_toArray, List.getElem_cons_zero, List.getElem_cons_succ, Act.put, List.setIfInBounds_toArray, List.set_cons_succ, List.set_cons_zero]
                refine wpIn_takeV 5 [6, 7, 15, 16, 17, 22, 23, 24, 25, 26, 31, 32] (.int .i64 (V.length : Int)) rfl (by kernel_rfl) (by kernel_rfl) (by kernel_rfl) (by kernel_rfl) (by kernel_rfl) (by kernel_rfl) (by kernel_rfl) (by rfl) (fun _ _ _ h => h) HB0.out (fun W hW => by go_simp; all_goals first | with_reducible rfl | rfl | omega) ?_
                try simp only [List.getElem_toArray, List.getElem_cons_zero, List.getElem_cons_succ, Act.put, List.setIfInBounds_toArray, List.set_cons_succ, List.set_cons_zero]
                refine wpIn_takeV 6 [7, 15, 16, 17, 22, 23, 24, 25, 26, 31, 32] (.bool false) rfl (by kernel_rfl) (by kernel_rfl) (by kernel_rfl) (by kernel_rfl) (by kernel_rfl) (by kernel_rfl) (by kernel_rfl) (by rfl) (fun _ _ _ h => h) HB0.out (fun W hW => by go_simp; all_goals first | with_reducible rfl | rfl | omega) ?_
                try simp only [List.getElem_toArray, List.getElem_cons_zero, List.getElem_cons_succ, Act.put, List.setIfInBounds_toArray, List.set_cons_succ, List.set_cons_zero]
                refine wpIn_takeV 7 [15, 16, 17, 22, 23, 24, 25, 26, 31, 32] (.bool false) rfl (by kernel_rfl) (by kernel_rfl) (by kernel_rfl) (by kernel_rfl) (by kernel_rfl) (by kernel_rfl) (by kernel_rfl) (by rfl) (fun _ _ _ h => h) HB0.out (fun W hW => by go_simp; all_goals first | with_reducible rfl | rfl | omega) ?_
                try simp only [List.getElem_toArray, List.getElem_cons_zero, List.getElem_cons_succ, Act.put, List.setIfInBounds_toArray, List.set_cons_succ, List.set_cons_zero]
                refine wpIn_skipV 8 [13, 14, 15, 16, 17, 22, 23, 24, 25, 26, 31, 32] rfl (by kernel_rfl) (by kernel_rfl) (by kernel_rfl) (by kernel_rfl) (by kernel_rfl) (by kernel_rfl) (by kernel_rfl) (by rfl) (fun _ _ _ h => h) HB0.out ?_
                try simp only [List.getElem_toArray, List.getElem_cons_zero, List.getElem_cons_succ, Act.put, List.setIfInBounds_toArray, List.set_cons_succ, List.set_cons_zero]
                refine wpIn_skipV 9 [11, 12, 13, 14, 15, 16, 17, 22, 23, 24, 25, 26, 31, 32] rfl (by kernel_rfl) (by kernel_rfl) (by kernel_rfl) (by kernel_rfl) (by kernel_rfl) (by kernel_rfl) (by kernel_rfl) (by rfl) (fun _ _ _ h => h) HB0.out ?_
                try simp only [List.getElem_toArray, List.getElem_cons_zero, List.getElem_cons_succ, Act.put, List.setIfInBounds_toArray, List.set_cons_succ, List.set_cons_zero]
                refine wpIn_skipV 10 [11, 12, 13, 14, 15, 16, 17, 22, 23, 24, 25, 26, 31, 32] rfl (by kernel_rfl) (by kernel_rfl) (by kernel_rfl) (by kernel_rfl) (by kernel_rfl) (by kernel_rfl) (by kernel_rfl) (by rfl) (fun _ _ _ h => h) HB0.out ?_
                try simp only [List.getElem_toArray, List.getElem_cons_zero, List.getElem_cons_succ, Act.put, List.setIfInBounds_toArray, List.set_cons_succ, List.set_cons_zero]
                refine wpIn_skipV 11 [12, 13, 14, 15, 16, 17, 22, 23, 24, 25, 26, 31, 32] rfl (by kernel_rfl) (by kernel_rfl) (by kernel_rfl) (by kernel_rfl) (by kernel_rfl) (by kernel_rfl) (by kernel_rfl) (by rfl) (fun _ _ _ h => h) HB0.out ?_
                try simp only [List.getElem_toArray, List.getElem_cons_zero, List.getElem_cons_succ, Act.put, List.setIfInBounds_toArray, List.set_cons_succ, List.set_cons_zero]
                refine wpIn_skipV 12 [13, 14, 15, 16, 17, 22, 23, 24, 25, 26, 31, 32] rfl (by kernel_rfl) (by kernel_rfl) (by kernel_rfl) (by kernel_rfl) (by kernel_rfl) (by kernel_rfl) (by kernel_rfl) (by rfl) (fun _ _ _ h => h) HB0.out ?_
                try simp only [List.getElem_toArray, List.getElem_cons_zero, List.getElem_cons_succ, Act.put, List.setIfInBounds_toArray, List.set_cons_succ, List.set_cons_zero]
                refine wpIn_skipV 13 [14, 15, 16, 17, 22, 23, 24, 25, 26, 31, 32] rfl (by kernel_rfl) (by kernel_rfl) (by kernel_rfl) (by kernel_rfl) (by kernel_rfl) (by kernel_rfl) (by kernel_rfl) (by rfl) (fun _ _ _ h => h) HB0.out ?_
                try simp only [List.getElem_toArray, List.getElem_cons_zero, List.getElem_cons_succ, Act.put, List.setIfInBounds_toArray, List.set_cons_succ, List.set_cons_zero]
                refine wpIn_skipV 14 [15, 16, 17, 22, 23, 24, 25, 26, 31, 32] rfl (by kernel_rfl) (by kernel_rfl) (by kernel_rfl) (by kernel_rfl) (by kernel_rfl) (by kernel_rfl) (by kernel_rfl) (by rfl) (fun _ _ _ h => h) HB0.out ?_
                try simp only [List.getElem_toArray, List.getElem_cons_zero, List.getElem_cons_succ, Act.put, List.setIfInBounds_toArray, List.set_cons_succ, List.set_cons_zero]
                refine wpIn_takeV 15 [16, 17, 22, 23, 24, 25, 26, 31, 32] (.bool false) rfl (by kernel_rfl) (by kernel_rfl) (by kernel_rfl) (by kernel_rfl) (by kernel_rfl) (by kernel_rfl) (by kernel_rfl) (by rfl) (fun _ _ _ h => h) HB0.out (fun W hW => by go_simp; all_goals first | with_reducible rfl | rfl | omega) ?_
                try simp only [List.getElem_toArray, List.getElem_cons_zero, List.getElem_cons_succ, Act.put, List.setIfInBounds_toArray, List.set_cons_succ, List.set_cons_zero]
                refine wpIn_takeV 16 [17, 22, 23, 24, 25, 26, 31, 32] (.bool false) rfl (by kernel_rfl) (by kernel_rfl) (by kernel_rfl) (by kernel_rfl) (by kernel_rfl) (by kernel_rfl) (by kernel_rfl) (by rfl) (fun _ _ _ h => h) HB0.out (fun W hW => by go_simp; all_goals first | with_reducible rfl | rfl | omega) ?_
                try simp only [List.getElem_toArray, List.getElem_cons_zero, List.getElem_cons_succ, Act.put, List.setIfInBounds_toArray, List.set_cons_succ, List.set_cons_zero]
                refine wpIn_takeV 17 [22, 23, 24, 25, 26, 31, 32] (.slice Ag s.freed.length cg) rfl (by kernel_rfl) (by kernel_rfl) (by kernel_rfl) (by kernel_rfl) (by kernel_rfl) (by kernel_rfl) (by kernel_rfl) (by rfl) (fun _ _ _ h => h) HB0.out (fun W hW => by go_simp; all_goals first | with_reducible rfl | rfl | omega) ?_
                try simp only [List.getElem_toArray, List.getElem_cons_zero, List.getElem_cons_succ, Act.put, List.setIfInBounds_toArray, List.set_cons_succ, List.set_cons_zero]
                refine wpIn_takeV 18 [20, 21, 22, 23, 24, 25, 26, 31, 32] (.slice (some ⟨db, dof, none⟩) s.dirty.length cd) rfl (by kernel_rfl) (by kernel_rfl) (by kernel_rfl) (by kernel_rfl) (by kernel_rfl) (by kernel_rfl) (by kernel_rfl) (by rfl) (fun _ _ _ h => h) HB0.out (fun W hW => by go_simp; all_goals first | with_reducible rfl | rfl | omega) ?_
                try simp only [List.getElem_toArray, List.getElem_cons_zero, List.getElem_cons_succ, Act.put, List.setIfInBounds_toArray, List.set_cons_succ, List.set_cons_zero]
                refine wpIn_takeV 19 [20, 21, 22, 23, 24, 25, 26, 31, 32] (.int .i64 (q : Int)) rfl (by kernel_rfl) (by kernel_rfl) (by kernel_rfl) (by kernel_rfl) (by kernel_rfl) (by kernel_rfl) (by kernel_rfl) (by rfl) (fun _ _ _ h => h) HB0.out (fun W hW => by go_simp; all_goals first | with_reducible rfl | rfl | omega) ?_
                try simp only [List.getElem_toArray, List.getElem_cons_zero, List.getElem_cons_succ, Act.put, List.setIfInBounds_toArray, List.set_cons_succ, List.set_cons_zero]
                refine wpIn_takeV 20 [21, 22, 23, 24, 25, 26, 31, 32] (.pointer (some ⟨db, dof + q, none⟩)) rfl (by kernel_rfl) (by kernel_rfl) (by kernel_rfl) (by kernel_rfl) (by kernel_rfl) (by kernel_rfl) (by kernel_rfl) (by rfl) (fun _ _ _ h => h) HB0.out (fun W hW => by go_simp; all_goals first | with_reducible rfl | rfl | omega) ?_
                try simp only [List.getElem_toArray, List.getElem_cons_zero, List.getElem_cons_succ, Act.put, List.setIfInBounds_toArray, List.set_cons_succ, List.set_cons_zero]
                refine wpIn_takeV 21 [22, 23, 24, 25, 26, 31, 32] (.int .i64 x) rfl (by kernel_rfl) (by kernel_rfl) (by kernel_rfl) (by kernel_rfl) (by kernel_rfl) (by kernel_rfl) (by kernel_rfl) (by rfl) (fun _ _ _ h => h) HB0.out (fun W hW => by have hc := (hW.cell (p := ⟨db, dof + q, none⟩) hdb).trans cD8; go_simp; all_goals first | with_reducible rfl | rfl | omega) ?_
                try simp only [List.getElem_toArray, List.getElem_cons_zero, List.getElem_cons_succ, Act.put, List.setIfInBounds_toArray, List.set_cons_succ, List.set_cons_zero]
                refine wpIn_one 22 rfl (by kernel_rfl) (fun _ => HB0.out) (by rfl) ?_
                go_simp
                refine (HGA.out _ HB0.out).mono ?_
                rintro e wb ⟨rfl, hbb⟩
                have HBB := Lib.hid (HB0.out.trans (hbb.mono HB0.out.size))
                clear hbb
                try simp only [List.getElem_toArray, List.getElem_cons_zero, List.getElem_cons_succ, Act.put, List.setIfInBounds_toArray, List.set_cons_succ, List.set_cons_zero]
                refine wpIn_takeV 23 [24, 25, 26, 31, 32] (.bool false) rfl (by kernel_rfl) (by kernel_rfl) (by kernel_rfl) (by kernel_rfl) (by kernel_rfl) (by kernel_rfl) (by kernel_rfl) (by rfl) (fun _ _ _ h => h) HBB.out (fun W hW => by go_simp; all_goals first | with_reducible rfl | rfl | omega) ?_
                try simp only [List.getElem_toArray, List.getElem_cons_zero, List.getElem_cons_succ, Act.put, List.setIfInBounds_toArray, List.set_cons_succ, List.set_cons_zero]
                refine wpIn_takeV 24 [25, 26, 31, 32] (.bool false) rfl (by kernel_rfl) (by kernel_rfl) (by kernel_rfl) (by kernel_rfl) (by kernel_rfl) (by kernel_rfl) (by kernel_rfl) (by rfl) (fun _ _ _ h => h) HBB.out (fun W hW => by go_simp; all_goals first | with_reducible rfl | rfl | omega) ?_
                try simp only [List.getElem_toArray, List.getElem_cons_zero, List.getElem_cons_succ, Act.put, List.setIfInBounds_toArray, List.set_cons_succ, List.set_cons_zero]
                refine wpIn_takeV 25 [26, 31, 32] (.pointer (some ⟨t, 0, none⟩)) rfl (by kernel_rfl) (by kernel_rfl) (by kernel_rfl) (by kernel_rfl) (by kernel_rfl) (by kernel_rfl) (by kernel_rfl) (by rfl) (fun _ _ _ h => h) HBB.out (fun W hW => by go_simp; all_goals first | with_reducible rfl | rfl | omega) ?_
                try simp only [List.getElem_toArray, List.getElem_cons_zero, List.getElem_cons_succ, Act.put, List.setIfInBounds_toArray, List.set_cons_succ, List.set_cons_zero]
                refine wpIn_takeV 27 [29, 30, 31, 32] (.slice (some ⟨db, dof, none⟩) s.dirty.length cd) rfl (by kernel_rfl) (by kernel_rfl) (by kernel_rfl) (by kernel_rfl) (by kernel_rfl) (by kernel_rfl) (by kernel_rfl) (by rfl) (fun _ _ _ h => h) HBB.out (fun W hW => by go_simp; all_goals first | with_reducible rfl | rfl | omega) ?_
                try simp only [List.getElem_toArray, List.getElem_cons_zero, List.getElem_cons_succ, Act.put, List.setIfInBounds_toArray, List.set_cons_succ, List.set_cons_zero]
                refine wpIn_takeV 28 [29, 30, 31, 32] (.int .i64 (q : Int)) rfl (by kernel_rfl) (by kernel_rfl) (by kernel_rfl) (by kernel_rfl) (by kernel_rfl) (by kernel_rfl) (by kernel_rfl) (by rfl) (fun _ _ _ h => h) HBB.out (fun W hW => by go_simp; all_goals first | with_reducible rfl | rfl | omega) ?_
                try simp only [List.getElem_toArray, List.getElem_cons_zero, List.getElem_cons_succ, Act.put, List.setIfInBounds_toArray, List.set_cons_succ, List.set_cons_zero]
                refine wpIn_takeV 29 [30, 31, 32] (.pointer (some ⟨db, dof + q, none⟩)) rfl (by kernel_rfl) (by kernel_rfl) (by kernel_rfl) (by kernel_rfl) (by kernel_rfl) (by kernel_rfl) (by kernel_rfl) (by rfl) (fun _ _ _ h => h) HBB.out (fun W hW => by go_simp; all_goals first | with_reducible rfl | rfl | omega) ?_
                try simp only [List.getElem_toArray, List.getElem_cons_zero, List.getElem_cons_succ, Act.put, List.setIfInBounds_toArray, List.set_cons_succ, List.set_cons_zero]
                refine wpIn_takeV 30 [31, 32] (.int .i64 x) rfl (by kernel_rfl) (by kernel_rfl) (by kernel_rfl) (by kernel_rfl) (by kernel_rfl) (by kernel_rfl) (by kernel_rfl) (by rfl) (fun _ _ _ h => h) HBB.out (fun W hW => by have hc := (hW.cell (p := ⟨db, dof + q, none⟩) hdb).trans cD8; go_simp; all_goals first | with_reducible rfl | rfl | omega) ?_
                try simp only [List.getElem_toArray, List.getElem_cons_zero, List.getElem_cons_succ, Act.put, List.setIfInBounds_toArray, List.set_cons_succ, List.set_cons_zero]
                refine wpIn_one 26 rfl (by kernel_rfl) (fun _ => HBB.out) (by rfl) ?_
                go_simp
                refine (stoAvail_any M t f m d fv V s _ (S8.out.go HBB.out).st).mono ?_
                rintro e wc ⟨rv, rfl, hoc, hbc⟩
                obtain ⟨Av, cv, rfl⟩ := own_slice hoc
                have HAV := Lib.hid (dHas_any s.avail Av cv x wc (own_ivb8 hoc hvl))
                rw [F3.out] at HAV
                have HBC := Lib.hid (HBB.out.trans (hbc.mono HBB.out.size))
                clear hoc hbc
                try simp only [List.getElem_toArray, List.getElem_cons_zero, List.getElem_cons_succ, Act.put, List.setIfInBounds_toArray, List.set_cons_succ, List.set_cons_zero]
                refine wpIn_one 31 rfl (by kernel_rfl) (fun _ => HBC.out) (by rfl) ?_
                go_simp
                refine HAV.out.mono ?_
                rintro e wd ⟨rfl, hbd⟩
                have HBD := Lib.hid (HBC.out.trans (hbd.mono HBC.out.size))
                clear hbd
                try simp only [List.getElem_toArray, List.getElem_cons_zero, List.getElem_cons_succ, Act.put, List.setIfInBounds_toArray, List.set_cons_succ, List.set_cons_zero]
                refine wpIn_one 32 rfl (by kernel_rfl) (fun _ => HBD.out) (by rfl) ?_
                go_simp
                try simp only [List.getElem_toArray, List.getElem_cons_zero, List.getElem_cons_succ, Act.put, List.setIfInBounds_toArray, List.set_cons_succ, List.set_cons_zero]
                refine wpIn_done (by kernel_rfl) (by kernel_rfl) ?_ _
                simp only [Exit.then]
                go_wp2_with fail
                go_roundw
                case rel => exact ⟨q + 1, by omega, by go_num, HBD.out⟩
                case measure => simp [intOf]; omega
            · have hqe : q = s.dirty.length := by omega
              subst hqe
              have hfa := fun W (hb : Below w8.heap.size w8 W) => (S8.out.go hb).st.fa
              have HFA := Lib.hid hfa
              have HEM := Lib.hid (fun W (hb : Below w8.heap.size w8 W) => (S8.out.go hb).em)
              have HOW := Lib.hid (fun W (hb : Below w8.heap.size w8 W) => (S8.out.go hb).ow)
              have HB9 := Lib.hid S8.out.hb
              clear hfa HD8 HG8 HW8 HFN K S8
              go_wp2_with fail
              obtain ⟨w9, rfl⟩ : ∃ W, W = wr := ⟨_, rfl⟩
              go_loopw [17] (fun i wr => ∃ q : Nat, q ≤ V.length ∧ i = .int .i64 q ∧ Below w8.heap.size w8 wr) (fun i _ => V.length - (intOf i).toNat)
              case atStart => exact ⟨0, Nat.zero_le _, rfl, HBQ.out⟩
              case round =>
                obtain ⟨q, hq, rfl, hbq⟩ := hrel
                have HB3 := Lib.hid hbq
                clear hbq HBQ
                by_cases hqv : q < V.length
                · as_aux_lemma =>
                  have cB : wr.cell? ⟨g, q, none⟩ = some (.string ⟨(V.getD q []).toArray⟩) := by
                    obtain ⟨b2, o2, e2, _, hc2⟩ := (Txts.of_own (HOW.out wr HB3.out) (by omega)).at_ hqv
                    injection e2 with e2
                    injection e2 with e2 e3 _
                    have := hc2 q hqv
                    rw [← e2, ← e3, Nat.zero_add] at this
                    exact this
                  have hgl : g < wr.heap.size := block_lt_of_cell cB
                  have hav : Sp.atV V (q : Int) = V.getD q [] := by
                    unfold Sp.atV
                    rw [if_neg (by omega)]
                    rfl
                  have HFR := Lib.hid (fun W (hb : Below w8.heap.size w8 W) => fileRead_any f m fv V (q : Int) W (HFA.out W hb) (by omega))
                  rw [hav] at HFR
                  have HB0 := Lib.hid (show Below w8.heap.size w8 wr.drew from below_drewN HB3.out 1)
                  clear hav
                  generalize V.getD q [] = y at *
                  go_upto_region 40 with fail
                  go_region_held3 (fun W' => W'.cell? ⟨g, q, none⟩ = some (.string ⟨y.toArray⟩)) (first | exact cB) (first
                    | (go_at_call 41; refine (HFR.out _ HB0.out).mono ?_; rintro e wa ⟨rfl, rfl⟩))
                  all_goals
                    go_wp2_with fail
                    go_roundw
                    case rel => exact ⟨q + 1, by omega, by go_num, HB0.out⟩
                    case measure => simp [intOf]; omega
                · have hqe : q = V.length := by omega
                  subst hqe
                  obtain ⟨sv, hbf⟩ := (HFA.out wr HB3.out).bf
                  have HLO := Lib.hid (fileLoose_any f fv sv m V wr hbf (HFA.out wr HB3.out).own (HEM.out wr HB3.out) hV4)
                  have HLN := Lib.hid (fun W (hb : Below wr.heap.size wr W) => fileLen_any f fv sv m V W (hbf.below hb hbf.lt) (own_chg2 (S := NoM) (HFA.out wr HB3.out).own (Chg.of_below hb) (fun _ _ h => h)))
                  clear hbf
                  go_wp2_with (first
                    | (go_at_call 42; refine HLO.out.mono ?_; rintro e wa ⟨rfl, hba⟩; have HBA := Lib.hid hba; clear hba)
                    | (go_at_call 43; refine (HLN.out _ HBA.out).mono ?_; rintro e wb ⟨rfl, rfl⟩))
                  go_ret
                  exact ⟨by simp, HB9.out.trans ((HB3.out.trans (HBA.out.mono HB3.out.size)).mono HB9.out.size)⟩
end Go.Proofs.YtkcfmjlcijhieaaGreat
