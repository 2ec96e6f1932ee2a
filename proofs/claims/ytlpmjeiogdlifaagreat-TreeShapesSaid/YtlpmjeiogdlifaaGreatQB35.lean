/- The document's file: all pages made sure. The document's file: a page is written. The key of a number. The document's stores: a new one with no free pages; what is kept while another block is written. -/
import Derived.Test.YtlpmjeiogdlifaaGreatQB11
import Derived.Test.YtlpmjeiogdlifaaGreatQB16
import Derived.Test.YtlpmjeiogdlifaaGreatQB23
import Derived.Test.YtlpmjeiogdlifaaGreatQB34
set_option linter.unusedSimpArgs false
set_option linter.unusedVariables false
namespace Go.Proofs.YtlpmjeiogdlifaaGreat
open Go.RowKit
attribute [local go_sem low] mk_extract
attribute [local go_sem] After.cell After.frozen mk_extract_end ByteArray.mk_append_mk
theorem DfAt.go {w w' : World} {f : Nat} {V : List Txt} (h : DfAt w f V) (hb : Below w.heap.size w w') : DfAt w' f V := by
  obtain ⟨v, dA, dn, dc, u, h1, h2, L, h3, h4⟩ := h.bf
  exact ⟨v, dA, dn, dc, u, h1.below hb h1.lt, own_chg2 (S := NoM) h2 (Chg.of_below hb) (fun _ _ h => h), L, h3, own_chg2 (S := NoM) h4 (Chg.of_below hb) (fun _ _ h => h)⟩
set_option maxRecDepth 100000 in
set_option maxHeartbeats 1600000 in
theorem dSync_any (f : Nat) (V : List Txt) (w : World) (h : DfAt w f V) (h0 : 0 < V.length) (hn : V.length ≤ 400) :
    Calls Tryz.prog 44 #[.pointer (some ⟨f, 0, none⟩)] w fun e w' => e = .returned (.tuple #[]) ∧ DfAt w' f V ∧ Chg (OneM f) w w' := by
  obtain ⟨i0, hii0, hz0, hz1, hz2⟩ := info_parts info_str
  obtain ⟨v, dA, dn, dc, u, h1, h2, L, h3, h4⟩ := h.bf
  obtain ⟨g, cap, rfl, hg, hcg⟩ := own_some h2 h0
  have HB := Lib.hid h1
  have HO := Lib.hid h2
  have hfw := h1.lt
  have c0 : w.cell? ⟨f, 0, none⟩ = some (.slice (some ⟨g, 0, none⟩) V.length cap) := h1.cell 0
  have f1 := h1.frozen 1
  have f2 := h1.frozen 2
  have e1 : w.cell? ⟨f, 1, none⟩ = some (.slice dA dn dc) := h1.cell 1
  have e2 : w.cell? ⟨f, 2, none⟩ = some u := h1.cell 2
  have HLO := Lib.hid (show ∀ u ∈ V.map tv, u.oneCell' = true from fun u hu => by obtain ⟨s, _, rfl⟩ := List.mem_map.1 hu; rfl)
  have HCG := Lib.hid (fun (j : Nat) (u : Value) (hu : (V.map tv)[j]? = some u) => show w.cell? ((⟨g, 0, none⟩ : Addr).add j) = some u by rw [Go.WideShapes.add_plain, Nat.zero_add]; exact hcg j u hu)
  have hl1 : (V.map tv).length = V.length * 1 := by simp
  clear h h1 h2 h3 h4 hcg
  go_enter Tryz.func44, Tryz.ntmps44
  go_wp2_with (at_builtin; refine wpList_append_own _ rfl (.const (.slice none 0 0)) (.tmp 7) 31 rfl w.heap.size StrT i0 _ 1 16 Tryz.underlying31 hii0 hz0 hz1 hz2 rfl (by decide) (.slice none 0 0) 0 [] rfl (own_nil _ _ _ _) ⟨g, 0, none⟩ V.length cap (V.map tv) rfl hl1 HCG.out HLO.out (by simp only [maxLen]; omega) (by omega) (Nat.le_refl _) ?_; (intro v2 w2 hown2 hgr2 hnil2; rw [Nat.zero_add, List.nil_append] at hown2; obtain ⟨X2, c2, rfl⟩ := own_form hown2; have hb2 := grown_below hgr2; have g1 := (hb2.cell (p := ⟨f, 1, none⟩) hfw).trans e1; have g2 := (hb2.cell (p := ⟨f, 2, none⟩) hfw).trans e2; have k1 := (hb2.frozen (p := ⟨f, 1, none⟩) hfw).trans f1; have k2 := (hb2.frozen (p := ⟨f, 2, none⟩) hfw).trans f2; have HB2 := Lib.hid hb2; clear hb2 hgr2 hnil2 hown2))
  go_end0
  have hBf := (HB.out.below HB2.out hfw)
  have hk1 := Chg.set1 w2 f 1 (.slice X2 V.length c2)
  have hk2 := Chg.set1 (w2.setCell ⟨f, 1, none⟩ (.slice X2 V.length c2)) f 2 (.slice none 0 0)
  have hk := hk1.trans hk2
  have hO2 := own_chg2 (S := NoM) HO.out (Chg.of_below HB2.out) (fun _ _ h => h)
  refine ⟨rfl, ⟨_, _, _, _, .slice none 0 0, (hBf.set_ 1 _).set_ 2 _, own_chg2 hO2 hk (fun k hk' h' => own_not hO2 (t := DFileT) (by decide) k hk' _ ((show k = f from h').symm ▸ hBf)), [], ⟨List.Pairwise.nil, fun x hx => by cases hx⟩, own_nil _ _ _ _⟩, (Chg.of_below HB2.out).trans hk⟩
end Go.Proofs.YtlpmjeiogdlifaaGreat
namespace Go.Proofs.YtlpmjeiogdlifaaGreat
open Go.RowKit
attribute [local go_sem low] mk_extract
attribute [local go_sem] After.cell After.frozen mk_extract_end ByteArray.mk_append_mk
namespace Sp
theorem withI_mem {n x : Int} : ∀ {l : List Int}, x ∈ withI n l → x = n ∨ x ∈ l
  | [], h => by
    unfold withI at h
    exact .inl (by simpa using h)
  | a :: l, h => by
    unfold withI at h
    split at h
    · exact .inr h
    · split at h
      · rcases List.mem_cons.1 h with h | h
        · exact .inl h
        · exact .inr h
      · rcases List.mem_cons.1 h with h | h
        · exact .inr (by simp [h])
        · rcases withI_mem h with h | h
          · exact .inl h
          · exact .inr (by simp [h])
theorem withI_rise {n : Int} : ∀ {l : List Int}, l.Pairwise (· < ·) → (withI n l).Pairwise (· < ·)
  | [], _ => by simp [withI]
  | a :: l, h => by
    obtain ⟨h1, h2⟩ := List.pairwise_cons.1 h
    unfold withI
    split
    · exact h
    · split
      · refine List.pairwise_cons.2 ⟨fun x hx => ?_, h⟩
        rcases List.mem_cons.1 hx with rfl | hx
        · assumption
        · have := h1 x hx; omega
      · refine List.pairwise_cons.2 ⟨fun x hx => ?_, withI_rise h2⟩
        rcases withI_mem hx with rfl | hx
        · omega
        · exact h1 x hx
theorem RowOk.with_ {n : Int} {l : List Int} (h : RowOk l) (h0 : 0 ≤ n) (h4 : n < 400) : RowOk (withI n l) :=
  ⟨withI_rise h.1, fun x hx => by
    rcases withI_mem hx with rfl | hx
    · exact ⟨h0, h4⟩
    · exact h.2 x hx⟩
def writeV (V : List Txt) (i : Nat) (s : Txt) : List Txt := (V ++ List.replicate (i + 1 - V.length) []).set i s
theorem writeV_end {V : List Txt} {s : Txt} : writeV V V.length s = V ++ [s] := by
  unfold writeV
  rw [show V.length + 1 - V.length = 1 by omega]
  simp
end Sp
theorem own_ints {w : World} {base n c : Nat} {A : Option Addr} {e : TypeId} {xs : List Value} (h : w.ownsRow base e 1 (.slice A n c) n xs) (hn : n ≤ 1000000) : Row w NoM A xs ∧ n ≤ c ∧ (A = none → c = 0) := by
  rcases h.2 with ⟨hv, hx⟩ | ⟨g, cap, cur, hv, _⟩
  · simp only [Value.slice.injEq] at hv
    obtain ⟨rfl, rfl, rfl⟩ := hv
    have hl : xs = [] := List.length_eq_zero_iff.1 (by have := h.1; omega)
    exact ⟨by rw [hl]; exact Row.nil_, Nat.le_refl _, fun _ => rfl⟩
  · simp only [Value.slice.injEq] at hv
    obtain ⟨rfl, _, rfl⟩ := hv
    exact ⟨own_to_rowM h (fun _ _ h => h) hn, (own_cap h).1, fun e => by cases e⟩
theorem dWithO_any (L : List Int) (u : Value) (n : Int) (w : World) (h : w.ownsRow 0 IntT 1 u L.length (L.map iv)) (hn : L.length ≤ 100000) :
    Calls Tryz.prog 88 #[u, .int .i64 n] w fun e w' => ∃ u', e = .returned u' ∧ w'.ownsRow 0 IntT 1 u' (Sp.withI n L).length ((Sp.withI n L).map iv) ∧ Below w.heap.size w w' := by
  obtain ⟨A, c, rfl⟩ := own_form h
  obtain ⟨h1, h2, h3⟩ := own_ints h (by omega)
  refine (dWith_any (M := NoM) L A c n w h1 hn h2 h3).mono ?_
  rintro e w' ⟨A', c', rfl, _, _, _, h4, hb⟩
  refine ⟨_, rfl, ?_, hb⟩
  rcases h4 with h4 | ⟨h4, rfl, rfl⟩
  · exact own_less h4 (Nat.zero_le _)
  · rw [h4]
    exact own_chg2 (S := NoM) h (Chg.of_below hb) (fun _ _ h => h)
theorem DfAt.blk {W : World} {f : Nat} {V : List Txt} (h : DfAt W f V) : ∃ cs, Blk W f DFileT cs := by
  obtain ⟨v, dA, dn, dc, u, h1, _⟩ := h.bf
  exact ⟨_, h1⟩
def lenOf (v : Value) : Nat := match v with | .slice _ n _ => n | _ => 0
structure WrS (w W : World) (f : Nat) (U : List Txt) (X : Option Addr) (n c : Nat) (u : Value) (L : List Int) : Prop where
  bf : ∃ v dA dn dc, Blk W f DFileT #[v, .slice dA dn dc, u]
  lo : W.ownsRow 0 IntT 1 u L.length (L.map iv)
  ok : Sp.RowOk L
  own : W.ownsRow w.heap.size StrT 1 (.slice X n c) n (U.map tv)
  ck : Chg (OneM f) w W
  hf : f < w.heap.size
  hn : U.length = n
theorem WrS.go {w W W' : World} {f n c : Nat} {U : List Txt} {X : Option Addr} {u : Value} {L : List Int} (S : WrS w W f U X n c u L) (hb : Below W.heap.size W W') : WrS w W' f U X n c u L := by
  obtain ⟨v, dA, dn, dc, h1⟩ := S.bf
  exact ⟨⟨v, dA, dn, dc, h1.below hb h1.lt⟩, own_chg2 (S := NoM) S.lo (Chg.of_below hb) (fun _ _ h => h), S.ok, own_chg2 (S := NoM) S.own (Chg.of_below hb) (fun _ _ h => h), S.ck.trans (Chg.of_below hb), S.hf, S.hn⟩
theorem WrS.loose {w W : World} {f n c : Nat} {U : List Txt} {X : Option Addr} {u u' : Value} {L L' : List Int} (S : WrS w W f U X n c u L) (hL : Sp.RowOk L') (hr : W.ownsRow 0 IntT 1 u' L'.length (L'.map iv)) :
    WrS w (W.setCell ⟨f, 2, none⟩ u') f U X n c u' L' := by
  obtain ⟨v, dA, dn, dc, h1⟩ := S.bf
  have hk := Chg.set1 W f 2 u'
  exact ⟨⟨v, dA, dn, dc, h1.set_ 2 _⟩, own_chg2 hr hk (fun k hk' h' => own_not hr (t := DFileT) (by decide) k hk' _ ((show k = f from h').symm ▸ h1)), hL, own_chg2 S.own hk (fun k hk' h' => own_not S.own (t := DFileT) (by decide) k hk' _ ((show k = f from h').symm ▸ h1)), S.ck.trans hk, S.hf, S.hn⟩
theorem WrS.push {w W W' : World} {f n c : Nat} {U : List Txt} {X X' : Option Addr} {c' : Nat} {s : Txt} {u : Value} {L : List Int} (S : WrS w W f U X n c u L) (ho : W'.ownsRow w.heap.size StrT 1 (.slice X' (n + 1) c') (n + 1) (U.map tv ++ [tv s])) (hg : W.grownBy W' (Value.slice X n c).ownBlock) :
    WrS w W' f (U ++ [s]) X' (n + 1) c' u L := by
  obtain ⟨v, dA, dn, dc, h1⟩ := S.bf
  have hk : Chg (fun k => (Value.slice X n c).ownBlock = some k) W W' := Chg.of_grown hg (fun k hk => .inl hk)
  have hk2 : Chg (OneM f) w W' := by
    refine ⟨hk.os.trans S.ck.os, hk.tape.trans S.ck.tape, hk.output.trans S.ck.output, Nat.le_trans S.ck.size hk.size, fun i hi hs => (hk.block i (Nat.lt_of_lt_of_le hi S.ck.size) fun e => ?_).trans (S.ck.block i hi hs)⟩
    obtain ⟨g, cp, rfl, hg'⟩ : ∃ g cp, X = some ⟨g, 0, none⟩ ∧ cp = c := by
      rcases S.own.2 with ⟨h, _⟩ | ⟨g, cap, cur, h, _⟩
      · simp only [Value.slice.injEq] at h
        obtain ⟨rfl, _, _⟩ := h
        simp [Value.ownBlock] at e
      · simp only [Value.slice.injEq] at h
        exact ⟨g, c, h.1, rfl⟩
    have := own_ge S.own
    simp only [Value.ownBlock, Option.some.injEq] at e
    omega
  refine ⟨⟨v, dA, dn, dc, h1.chg hk fun e => own_not S.own (t := DFileT) (by decide) f e _ h1⟩, own_chg2 S.lo hk (fun k hk' e => ?_), S.ok, by rw [List.map_append]; exact ho, hk2, S.hf, by rw [List.length_append, S.hn]; rfl⟩
  obtain ⟨g, cur, hb⟩ : ∃ (g : Nat) (cur : Array Value), k = g ∧ Blk W g StrT cur := by
    rcases S.own.2 with ⟨h, _⟩ | ⟨g, cap, cur, h, _, hh, _⟩
    · rw [h] at e; simp [Value.ownBlock] at e
    · rw [h] at e
      exact ⟨g, cur, by simpa [Value.ownBlock] using e.symm, hh⟩
  obtain ⟨rfl, hb⟩ := hb
  exact own_not S.lo (t := StrT) (by decide) k hk' _ hb
theorem WrS.set {w W : World} {f n c : Nat} {U : List Txt} {g : Nat} {u : Value} {L : List Int} (S : WrS w W f U (some ⟨g, 0, none⟩) n c u L) (i : Nat) (s : Txt) : WrS w (W.setCell ⟨g, i, none⟩ (.string ⟨s.toArray⟩)) f (U.set i s) (some ⟨g, 0, none⟩) n c u L := by
  obtain ⟨v, dA, dn, dc, h1⟩ := S.bf
  have hgf : f ≠ g := fun e => own_not S.own (t := DFileT) (by decide) g rfl _ (e ▸ h1)
  have hge := own_ge S.own
  have hk := Chg.set1 W g i (.string ⟨s.toArray⟩)
  obtain ⟨cur, hcur, _⟩ := own_blk S.own
  have ho := own_set S.own (j := i) (.string ⟨s.toArray⟩)
  rw [show (U.map tv).set i (.string ⟨s.toArray⟩) = (U.set i s).map tv by rw [List.map_set]; rfl] at ho
  refine ⟨⟨v, dA, dn, dc, h1.chg hk hgf⟩, own_chg2 S.lo hk (fun k hk' e => own_not S.lo (t := StrT) (by decide) k hk' _ ((show k = g from e).symm ▸ hcur)), S.ok, ho, ?_, S.hf, by rw [List.length_set]; exact S.hn⟩
  exact ⟨hk.os.trans S.ck.os, hk.tape.trans S.ck.tape, hk.output.trans S.ck.output, Nat.le_trans S.ck.size hk.size, fun j hj hs => (hk.block j (Nat.lt_of_lt_of_le hj S.ck.size) fun e => by have : j = g := e; omega).trans (S.ck.block j hj hs)⟩
theorem WrS.done {w W : World} {f n c : Nat} {U : List Txt} {X : Option Addr} {u u' : Value} {L L' : List Int} (S : WrS w W f U X n c u L) (hL : Sp.RowOk L') (hr : W.ownsRow 0 IntT 1 u' L'.length (L'.map iv)) :
    DfB ((W.setCell ⟨f, 0, none⟩ (.slice X n c)).setCell ⟨f, 2, none⟩ u') w.heap.size f U ∧ Chg (OneM f) w ((W.setCell ⟨f, 0, none⟩ (.slice X n c)).setCell ⟨f, 2, none⟩ u') := by
  obtain ⟨v, dA, dn, dc, h1⟩ := S.bf
  have hk := (Chg.set1 W f 0 (.slice X n c)).trans (Chg.set1 (W.setCell ⟨f, 0, none⟩ (.slice X n c)) f 2 u')
  have hn := S.hn
  subst hn
  exact ⟨⟨_, dA, dn, dc, _, (h1.set_ 0 _).set_ 2 _, own_chg2 S.own hk (fun k hk' h' => own_not S.own (t := DFileT) (by decide) k hk' _ ((show k = f from h').symm ▸ h1)), L', hL, own_chg2 hr hk (fun k hk' h' => own_not hr (t := DFileT) (by decide) k hk' _ ((show k = f from h').symm ▸ h1))⟩, S.ck.trans hk⟩
set_option maxRecDepth 100000 in
set_option maxHeartbeats 1600000 in
theorem dWriteB_any (f : Nat) (V : List Txt) (i : Nat) (s : Txt) (w : World) (h : DfAt w f V) (h0 : 0 < V.length) (hn : V.length ≤ 400) (hi : i < 400) :
    Calls Tryz.prog 43 #[.pointer (some ⟨f, 0, none⟩), .int .i64 (i : Int), .string ⟨s.toArray⟩] w fun e w' => e = .returned (.int .i64 0) ∧ DfB w' w.heap.size f (Sp.writeV V i s) ∧ Chg (OneM f) w w' := by
  obtain ⟨i0, hii0, hz0, hz1, hz2⟩ := info_parts info_str
  obtain ⟨v, dA, dn, dc, u, h1, h2, L, h3, h4⟩ := h.bf
  obtain ⟨g, cap, rfl, hg, hcg⟩ := own_some h2 h0
  have HD := Lib.hid (show ∀ W X c, Below w.heap.size w W → W.ownsRow w.heap.size StrT 1 (.slice X V.length c) V.length (V.map tv) → WrS w W f V X V.length c u L from fun W X c hb ho => ⟨⟨_, _, _, _, h1.below hb h1.lt⟩, own_chg2 (S := NoM) h4 (Chg.of_below hb) (fun _ _ h => h), h3, ho, Chg.of_below hb, h1.lt, rfl⟩)
  have c0 : w.cell? ⟨f, 0, none⟩ = some (.slice (some ⟨g, 0, none⟩) V.length cap) := h1.cell 0
  have HLO := Lib.hid (show ∀ u ∈ V.map tv, u.oneCell' = true from fun u hu => by obtain ⟨s, _, rfl⟩ := List.mem_map.1 hu; rfl)
  have HCG := Lib.hid (fun (j : Nat) (u : Value) (hu : (V.map tv)[j]? = some u) => show w.cell? ((⟨g, 0, none⟩ : Addr).add j) = some u by rw [Go.WideShapes.add_plain, Nat.zero_add]; exact hcg j u hu)
  have HI1 := Lib.hid (show ∀ u ∈ [tv []], u.oneCell' = true from fun u hu => by rw [List.mem_singleton.1 hu]; rfl)
  have hl1 : (V.map tv).length = V.length * 1 := by simp
  have hi0 : ¬ ((i : Int) < 0) := by omega
  have hi4 : ¬ ((400 : Int) ≤ (i : Int)) := by omega
  clear h h1 h2 h3 h4 hcg
  go_enter Tryz.func43, Tryz.ntmps43
  go_upto_region 4 with (at_builtin; refine wpList_append_own _ rfl (.const (.slice none 0 0)) (.tmp 17) 31 rfl w.heap.size StrT i0 _ 1 16 Tryz.underlying31 hii0 hz0 hz1 hz2 rfl (by decide) (.slice none 0 0) 0 [] rfl (own_nil _ _ _ _) ⟨g, 0, none⟩ V.length cap (V.map tv) rfl hl1 HCG.out HLO.out (by simp only [maxLen]; omega) (by omega) (Nat.le_refl _) ?_; (intro v2 w2 hown2 hgr2 hnil2; rw [Nat.zero_add, List.nil_append] at hown2; obtain ⟨X2, c2, rfl⟩ := own_form hown2; have HW := Lib.hid (HD.out _ _ _ (grown_below hgr2) hown2); clear hgr2 hnil2 hown2))
  clear HD HCG HLO c0
  go_wp2_with fail
  go_loopw [7] (fun vv wr => ∃ (j : Nat) (X : Option Addr) (c : Nat) (u' : Value) (L' : List Int), j ≤ i + 1 - V.length ∧ vv = .slice X (V.length + j) c ∧ Hid (WrS w wr f (V ++ List.replicate j []) X (V.length + j) c u' L')) (fun vv _ => i + 1 - lenOf vv)
  case atStart => exact ⟨0, X2, c2, u, L, Nat.zero_le _, rfl, by simpa using HW⟩
  case round =>
    obtain ⟨j, X, c3, u', L', hj, rfl, S⟩ := hrel
    clear HW
    obtain ⟨n, hnj⟩ : ∃ n, n = V.length + j := ⟨_, rfl⟩
    rw [← hnj] at S ⊢
    have HNJ := Lib.hid hnj
    have hn8 : n ≤ 801 := by omega
    clear hnj
    obtain ⟨v', _, _, _, hb⟩ := S.out.bf
    have c2 : wr.cell? ⟨f, 2, none⟩ = some u' := hb.cell 2
    clear hb
    by_cases hlt : n ≤ i
    · have hlt' : (n : Int) ≤ (i : Int) := by omega
      go_upto_region 6 with (go_at_call 88; refine (dWithO_any L' u' (n : Int) _ S.out.lo (by have := S.out.ok.len; omega)).mono ?_; rintro e w2 ⟨u2, rfl, ho, hb2⟩; obtain ⟨A2, cc2, rfl⟩ := own_form ho; have S2 := Lib.hid (S.out.go hb2); have HO := Lib.hid ho; clear ho hb2; obtain ⟨v2, _, _, _, hbf⟩ := S2.out.bf; have e2 : w2.cell? ⟨f, 2, none⟩ = some u' := hbf.cell 2; have k2 := hbf.frozen 2; clear hbf)
      refine wp_gen (fun W => WrS w W f (V ++ List.replicate j []) X n c3 (.slice A2 (Sp.withI (n : Int) L').length cc2) (Sp.withI (n : Int) L')) (S2.out.loose (S2.out.ok.with_ (by omega) (by omega)) HO.out) ?_
      clear S2 HO e2 k2 S c2
      generalize Sp.withI (n : Int) L' = L2 at *
      intro w3 hS
      have S3 := Lib.hid hS
      have hz3 := hS.ck.size
      clear hS
      go_wp2_with (at_builtin; refine wpList_append_own _ rfl (.tmp 33) (.tmp 34) 31 rfl w.heap.size StrT i0 _ 1 16 Tryz.underlying31 hii0 hz0 hz1 hz2 rfl (by decide) (.slice X n c3) n ((V ++ List.replicate j []).map tv) rfl (own_chg2 (S := NoM) S3.out.own ((Chg.refl _ _).alloc _) (fun _ _ h => h)) ⟨w3.heap.size, 0, none⟩ 1 1 [tv []] rfl rfl (cells_new w3 StrT [tv []]) HI1.out (by simp only [maxLen]; omega) (by omega) (by rw [World.size_alloc]; omega) ?_; (intro v4 w4 hown4 hgr4 hnil4; obtain ⟨X4, c4, rfl⟩ := own_form hown4; have S4 := Lib.hid ((S3.out.go ((Below.refl _ _).alloc (Nat.le_refl _) _)).push hown4 hgr4); clear hown4 hgr4 hnil4))
      refine ⟨⟨j + 1, X4, c4, .slice A2 L2.length cc2, L2, by have := HNJ.out; omega, by rw [HNJ.out]; rfl, ?_⟩, by have := HNJ.out; simp [lenOf]; omega⟩
      rw [show V ++ List.replicate (j + 1) [] = (V ++ List.replicate j []) ++ [[]] by rw [List.replicate_succ', List.append_assoc], show V.length + (j + 1) = n + 1 by rw [HNJ.out]; omega]
      exact S4
    · have hlt' : ¬ ((n : Int) ≤ (i : Int)) := by omega
      have hjj : j = i + 1 - V.length := by have := HNJ.out; omega
      subst hjj
      have hni : i < n := by omega
      have hnI : (i : Int) < (n : Int) := by omega
      obtain ⟨gX, capX, hX, _, _⟩ := own_some S.out.own (by omega)
      simp only [Value.slice.injEq] at hX
      obtain ⟨rfl, _, rfl⟩ := hX
      obtain ⟨hcj, hfj⟩ := own_at S.out.own hni
      generalize ((V ++ List.replicate (i + 1 - V.length) []).map tv).getD i undef = ui at *
      go_upto_region 8 with fail
      have S2 := Lib.hid (show WrS w _ f (Sp.writeV V i s) (some ⟨gX, 0, none⟩) n c3 u' L' from S.out.set i s)
      refine wp_gen (fun W => WrS w W f (Sp.writeV V i s) (some ⟨gX, 0, none⟩) n c3 u' L') S2.out ?_
      clear S2 S c2 hcj hfj
      intro w3 hS
      have S3 := Lib.hid hS
      obtain ⟨v3, _, _, _, hbf⟩ := hS.bf
      have c2 : w3.cell? ⟨f, 2, none⟩ = some u' := hbf.cell 2
      have hfw3 := hbf.lt
      clear hS hbf
      go_wp2_with (go_at_call 88; refine (dWithO_any L' u' (i : Int) _ S3.out.lo (by have := S3.out.ok.len; omega)).mono ?_; rintro e w4 ⟨u2, rfl, ho, hb2⟩; obtain ⟨A2, cc2, rfl⟩ := own_form ho; have S4 := Lib.hid (S3.out.go hb2); have HO := Lib.hid ho; clear ho hb2; obtain ⟨v2, _, _, _, hbf⟩ := S4.out.bf; have e0 : w4.cell? ⟨f, 0, none⟩ = some v2 := hbf.cell 0; have k0 := hbf.frozen 0; have e2 : w4.cell? ⟨f, 2, none⟩ = some u' := hbf.cell 2; have k2 := hbf.frozen 2; clear hbf)
      go_ret
      obtain ⟨q1, q2⟩ := S4.out.done (S4.out.ok.with_ (by omega) (by omega)) HO.out
      exact ⟨rfl, q1, q2⟩
theorem dWrite_any (f : Nat) (V : List Txt) (i : Nat) (s : Txt) (w : World) (h : DfAt w f V) (h0 : 0 < V.length) (hn : V.length ≤ 400) (hi : i < 400) :
    Calls Tryz.prog 43 #[.pointer (some ⟨f, 0, none⟩), .int .i64 (i : Int), .string ⟨s.toArray⟩] w fun e w' => e = .returned (.int .i64 0) ∧ DfAt w' f (Sp.writeV V i s) ∧ Chg (OneM f) w w' :=
  (dWriteB_any f V i s w h h0 hn hi).mono fun _ _ ⟨h1, h2, h3⟩ => ⟨h1, h2.at_, h3⟩
end Go.Proofs.YtlpmjeiogdlifaaGreat
namespace Go.Proofs.YtlpmjeiogdlifaaGreat
open Go.RowKit
attribute [local go_sem low] mk_extract
attribute [local go_sem] After.cell After.frozen mk_extract_end ByteArray.mk_append_mk
set_option maxRecDepth 100000 in
set_option maxHeartbeats 1600000 in
theorem key_any (n : Nat) (hn : n < 256) (w : World) : Calls Tryz.prog 21 #[.int .i64 (n : Int)] w fun e w' => e = .returned (.string ⟨(Sp.keyN n).toArray⟩) ∧ Below w.heap.size w w' := by
  have hm1 : min (n : Int) 675 = (n : Int) := by omega
  have hm2 : max 0 (n : Int) = (n : Int) := by omega
  have hcv := conv2
  go_enter Tryz.func21, Tryz.ntmps21
  go_wp2
  go_ret
  exact ⟨rfl, (Below.refl _ _).alloc (Nat.le_refl _) _⟩
end Go.Proofs.YtlpmjeiogdlifaaGreat
namespace Go.Proofs.YtlpmjeiogdlifaaGreat
open Go.RowKit
attribute [local go_sem low] mk_extract
attribute [local go_sem] After.cell After.frozen mk_extract_end ByteArray.mk_append_mk
theorem Row.off {w : World} {M : Nat → Prop} {A : Option Addr} {cs : List Value} {f : Nat} {T : TypeId} {es : Array Value} (h : Row w M A cs) (hf : Blk w f T es) (hs : ∀ u ∈ es, ∃ X n c, u = .slice X n c) (hc : ∀ u ∈ cs, ∀ X n c, u ≠ .slice X n c) : Row w (fun k => M k ∨ k = f) A cs := by
  refine ⟨h.1, ?_⟩
  cases cs with
  | nil => exact .inl rfl
  | cons u t =>
    rcases h.2 with h' | ⟨b, off, e, hb, hm, hcell⟩
    · cases h'
    · refine .inr ⟨b, off, e, hb, fun hk => ?_, hcell⟩
      rcases hk with hk | rfl
      · exact hm hk
      · have h0 := hcell 0 u rfl
        rw [hf.cell] at h0
        obtain ⟨X, n, c, e⟩ := hs u (Array.mem_of_getElem? h0)
        exact hc u (by simp) X n c e
theorem Txts.off {w : World} {M : Nat → Prop} {A : Option Addr} {l : List Txt} {f : Nat} {T : TypeId} {es : Array Value} (h : Txts w M A l) (hf : Blk w f T es) (hs : ∀ u ∈ es, ∃ X n c, u = .slice X n c) : Txts w (fun k => M k ∨ k = f) A l :=
  Row.off h hf hs fun u hu X n c e => by
    obtain ⟨s, _, rfl⟩ := List.mem_map.1 hu
    cases e
theorem Ints.off {w : World} {M : Nat → Prop} {A : Option Addr} {l : List Int} {f : Nat} {T : TypeId} {es : Array Value} (h : Ints w M A l) (hf : Blk w f T es) (hs : ∀ u ∈ es, ∃ X n c, u = .slice X n c) : Ints w (fun k => M k ∨ k = f) A l :=
  Row.off h hf hs fun u hu X n c e => by
    obtain ⟨s, _, rfl⟩ := List.mem_map.1 hu
    cases e
theorem Items.off {w : World} {M : Nat → Prop} {A : Option Addr} {l : List Sp.Item} {f : Nat} {T : TypeId} {es : Array Value} (h : Items w M A l) (hf : Blk w f T es) (hs : ∀ u ∈ es, ∃ X n c, u = .slice X n c) : Items w (fun k => M k ∨ k = f) A l := by
  refine ⟨h.1, ?_⟩
  rcases Nat.eq_zero_or_pos l.length with h0 | h0
  · exact .inl (List.length_eq_zero_iff.1 h0)
  rcases h.2 with h' | ⟨b, off, e, hb, hm, hc⟩
  · exact .inl h'
  · refine .inr ⟨b, off, e, hb, fun hk => ?_, fun k hk => ?_⟩
    · rcases hk with hk | rfl
      · exact hm hk
      · obtain ⟨V, c, h1, _⟩ := hc 0 h0
        have h2 := h1.c0
        rw [hf.cell] at h2
        obtain ⟨X, n, c', e⟩ := hs _ (Array.mem_of_getElem? h2)
        cases e
    · obtain ⟨V, c, h1, h2⟩ := hc k hk
      exact ⟨V, c, h1, h2.off hf hs⟩
theorem Frees.off {w : World} {M : Nat → Prop} {A : Option Addr} {l : List Sp.Free} {f : Nat} {T : TypeId} {es : Array Value} (h : Frees w M A l) (hf : Blk w f T es) (hs : ∀ u ∈ es, ∃ X n c, u = .slice X n c) : Frees w (fun k => M k ∨ k = f) A l := by
  refine ⟨h.1, ?_⟩
  rcases Nat.eq_zero_or_pos l.length with h0 | h0
  · exact .inl (List.length_eq_zero_iff.1 h0)
  rcases h.2 with h' | ⟨b, off, e, hb, hm, hc⟩
  · exact .inl h'
  · refine .inr ⟨b, off, e, hb, fun hk => ?_, fun k hk => ?_⟩
    · rcases hk with hk | rfl
      · exact hm hk
      · obtain ⟨V, c, ⟨h2, _⟩, _⟩ := hc 0 h0
        rw [hf.cell] at h2
        obtain ⟨X, n, c', e⟩ := hs _ (Array.mem_of_getElem? h2)
        cases e
    · obtain ⟨V, c, h1, h2, h3⟩ := hc k hk
      exact ⟨V, c, h1, h2.off hf hs, h3⟩
theorem PageRd.off {w : World} {M : Nat → Prop} {p : Sp.Page} {r : Refs} {f : Nat} {T : TypeId} {es : Array Value} (h : PageRd w M p r) (hf : Blk w f T es) (hs : ∀ u ∈ es, ∃ X n c, u = .slice X n c) : PageRd w (fun k => M k ∨ k = f) p r :=
  ⟨h.items.off hf hs, h.keys.off hf hs, h.kids.off hf hs, h.vals.off hf hs, h.free.off hf hs, h.txn⟩
theorem PgCells.off {w : World} {M : Nat → Prop} {f : Nat} {T : TypeId} {es : Array Value} (hf : Blk w f T es) (hs : ∀ u ∈ es, ∃ X n c, u = .slice X n c) : ∀ {P : List Sp.Page} {xs : List Value}, PgCells w M P xs → PgCells w (fun k => M k ∨ k = f) P xs
  | [], _, h => h
  | _ :: _, _, ⟨r, ys, e, hr, h⟩ => ⟨r, ys, e, hr.off hf hs, PgCells.off hf hs h⟩
theorem PgCells.anti {w : World} {M M' : Nat → Prop} (hm : ∀ k, M' k → M k) : ∀ {P : List Sp.Page} {xs : List Value}, PgCells w M P xs → PgCells w M' P xs
  | [], _, h => h
  | _ :: _, _, ⟨r, ys, e, hr, h⟩ => ⟨r, ys, e, hr.anti hm, PgCells.anti hm h⟩
theorem DfAt.sl {w : World} {f : Nat} {V : List Txt} (h : DfAt w f V) : ∃ es, Blk w f DFileT es ∧ ∀ u ∈ es, ∃ X n c, u = .slice X n c := by
  obtain ⟨v, dA, dn, dc, u, h1, h2, L, _, h4⟩ := h.bf
  obtain ⟨A1, c1, rfl⟩ := own_form h2
  obtain ⟨A2, c2, rfl⟩ := own_form h4
  refine ⟨_, h1, fun x hx => ?_⟩
  simp only [List.mem_toArray, List.mem_cons, List.not_mem_nil, or_false] at hx
  rcases hx with rfl | rfl | rfl <;> exact ⟨_, _, _, rfl⟩
theorem StF.off {w w' : World} {s f : Nat} {fp : Value} {P : List Sp.Page} {V : List Txt} (h : StF w s fp P) (hd : DfAt w f V) (hk : Chg (OneM f) w w') : StF w' s fp P := by
  obtain ⟨vi, vp, hs, he⟩ := h
  obtain ⟨es, hb, hsl⟩ := hd.sl
  obtain ⟨xs, h1, h2⟩ := hs.op
  have hne : s ≠ f := fun e => Blk.not_ (t := StoreT) hs.bs (by decide) _ (e ▸ hb)
  refine ⟨vi, vp, ⟨hs.bs.chg hk hne, own_chg2 hs.oi hk (fun k hk' e => own_not hs.oi (t := DFileT) (by decide) k hk' _ ((show k = f from e).symm ▸ hb)), xs, own_chg2 h1 hk (fun k hk' e => own_not h1 (t := DFileT) (by decide) k hk' _ ((show k = f from e).symm ▸ hb)), ?_⟩, he⟩
  exact PgCells.anti (fun k h => .inl h) ((PgCells.off hb hsl h2).chg (hk.mono fun k _ e => .inr e))
theorem DfAt.off {w w' : World} {s f : Nat} {fp : Value} {P : List Sp.Page} {V : List Txt} (hd : DfAt w f V) (h : StF w s fp P) (hk : Chg (OneM s) w w') : DfAt w' f V := by
  obtain ⟨vi, vp, hs, he⟩ := h
  obtain ⟨v, dA, dn, dc, u, h1, h2, L, h3, h4⟩ := hd.bf
  have hne : f ≠ s := fun e => Blk.not_ (t := StoreT) hs.bs (by decide) _ (e ▸ h1)
  exact ⟨v, dA, dn, dc, u, h1.chg hk hne, own_chg2 h2 hk (fun k hk' e => own_not h2 (t := StoreT) (by decide) k hk' _ ((show k = s from e).symm ▸ hs.bs)), L, h3, own_chg2 h4 hk (fun k hk' e => own_not h4 (t := StoreT) (by decide) k hk' _ ((show k = s from e).symm ▸ hs.bs))⟩
set_option maxRecDepth 100000 in
set_option maxHeartbeats 1600000 in
theorem dStoreNew_any (fp : Option Addr) (w : World) :
    Calls Tryz.prog 41 #[.pointer fp, .int .i64 2, .int .i64 400, .slice none 0 0] w fun e w' => ∃ s, e = .returned (.pointer (some ⟨s, 0, none⟩)) ∧ w.heap.size ≤ s ∧ StF w' s (.pointer fp) [] ∧ Below w.heap.size w w' := by
  go_enter Tryz.func41, Tryz.ntmps41
  go_wp2_with fail
  go_loopw [10] (fun i wr => i = .int .i64 0 ∧ wr = w.alloc (.cells #[.pointer fp, .int .i64 2, .int .i64 400, .slice none 0 0, .slice none 0 0, .slice none 0 0, .slice none 0 0] StoreT)) (fun _ _ => 0)
  case atStart => exact ⟨rfl, rfl⟩
  case round =>
    obtain ⟨rfl, rfl⟩ := hrel
    go_wp2_with fail
    go_ret
    exact ⟨_, rfl, Nat.le_refl _, ⟨_, _, ⟨Blk.new _ _ _, own_nil _ _ _ _, [], own_nil _ _ _ _, rfl⟩, fun _ => ⟨rfl, rfl⟩⟩, (Below.refl _ _).alloc (Nat.le_refl _) _⟩
end Go.Proofs.YtlpmjeiogdlifaaGreat
