/- The document's file: a page is written. The key of a number. The document's stores: a new one with no free pages; what is kept while another block is written. copyholdhelp.Tree: the document's trees of numbers, on a file. A tree in which a key is sought: in two leaves at most. -/
import Derived.Test.YtmcpkhknjdiocaaGreatQB20
set_option linter.unusedSimpArgs false
set_option linter.unusedVariables false
namespace Go.Proofs.YtmcpkhknjdiocaaGreat
open Go.RowKit
attribute [local go_sem low] mk_extract
attribute [local go_sem] After.cell After.frozen mk_extract_end ByteArray.mk_append_mk
namespace Sp
theorem withI_mem {n x : Int} : ∀ {l : List Int}, x ∈ withI n l → x = n ∨ x ∈ l
  | [], h => by
    unfold withI at h
    exact .inl (by simpa using h)
  | a :: l, h => by
    unfold withI at h
    split at h
    · exact .inr h
    · split at h
      · rcases List.mem_cons.1 h with h | h
        · exact .inl h
        · exact .inr h
      · rcases List.mem_cons.1 h with h | h
        · exact .inr (by simp [h])
        · rcases withI_mem h with h | h
          · exact .inl h
          · exact .inr (by simp [h])
theorem withI_rise {n : Int} : ∀ {l : List Int}, l.Pairwise (· < ·) → (withI n l).Pairwise (· < ·)
  | [], _ => by simp [withI]
  | a :: l, h => by
    obtain ⟨h1, h2⟩ := List.pairwise_cons.1 h
    unfold withI
    split
    · exact h
    · split
      · refine List.pairwise_cons.2 ⟨fun x hx => ?_, h⟩
        rcases List.mem_cons.1 hx with rfl | hx
        · assumption
        · have := h1 x hx; omega
      · refine List.pairwise_cons.2 ⟨fun x hx => ?_, withI_rise h2⟩
        rcases withI_mem hx with rfl | hx
        · omega
        · exact h1 x hx
theorem RowOk.with_ {n : Int} {l : List Int} (h : RowOk l) (h0 : 0 ≤ n) (h4 : n < 400) : RowOk (withI n l) :=
  ⟨withI_rise h.1, fun x hx => by
    rcases withI_mem hx with rfl | hx
    · exact ⟨h0, h4⟩
    · exact h.2 x hx⟩
/-- A row of pages with one set at a place; what lies between is empty. -/
def writeV (V : List Txt) (i : Nat) (s : Txt) : List Txt := (V ++ List.replicate (i + 1 - V.length) []).set i s
theorem writeV_len {V : List Txt} {i : Nat} {s : Txt} : (writeV V i s).length = max V.length (i + 1) := by
  unfold writeV
  rw [List.length_set, List.length_append, List.length_replicate]
  omega
theorem writeV_end {V : List Txt} {s : Txt} : writeV V V.length s = V ++ [s] := by
  unfold writeV
  rw [show V.length + 1 - V.length = 1 by omega]
  simp
end Sp
theorem own_ints {w : World} {base n c : Nat} {A : Option Addr} {e : TypeId} {xs : List Value} (h : w.ownsRow base e 1 (.slice A n c) n xs) (hn : n ≤ 1000000) : Row w NoM A xs ∧ n ≤ c ∧ (A = none → c = 0) := by
  rcases h.2 with ⟨hv, hx⟩ | ⟨g, cap, cur, hv, _⟩
  · simp only [Value.slice.injEq] at hv
    obtain ⟨rfl, rfl, rfl⟩ := hv
    have hl : xs = [] := List.length_eq_zero_iff.1 (by have := h.1; omega)
    exact ⟨by rw [hl]; exact Row.nil_, Nat.le_refl _, fun _ => rfl⟩
  · simp only [Value.slice.injEq] at hv
    obtain ⟨rfl, _, rfl⟩ := hv
    exact ⟨own_to_rowM h (fun _ _ h => h) hn, (own_cap h).1, fun e => by cases e⟩
/-- With, over a row of its own block. -/
theorem dWithO_any (L : List Int) (u : Value) (n : Int) (w : World) (h : w.ownsRow 0 IntT 1 u L.length (L.map iv)) (hn : L.length ≤ 100000) :
    Calls Tryz.prog 60 #[u, .int .i64 n] w fun e w' => ∃ u', e = .returned u' ∧ w'.ownsRow 0 IntT 1 u' (Sp.withI n L).length ((Sp.withI n L).map iv) ∧ Below w.heap.size w w' := by
  obtain ⟨A, c, rfl⟩ := own_form h
  obtain ⟨h1, h2, h3⟩ := own_ints h (by omega)
  refine (dWith_any (M := NoM) L A c n w h1 hn h2 h3).mono ?_
  rintro e w' ⟨A', c', rfl, _, _, _, h4, hb⟩
  refine ⟨_, rfl, ?_, hb⟩
  rcases h4 with h4 | ⟨h4, rfl, rfl⟩
  · exact own_less h4 (Nat.zero_le _)
  · rw [h4]
    exact own_chg2 (S := NoM) h (Chg.of_below hb) (fun _ _ h => h)
theorem DfAt.blk {W : World} {f : Nat} {V : List Txt} (h : DfAt W f V) : ∃ cs, Blk W f DFileT cs := by
  obtain ⟨v, dA, dn, dc, u, h1, _⟩ := h.bf
  exact ⟨_, h1⟩
/-- How many a slice has. -/
def lenOf (v : Value) : Nat := match v with | .slice _ n _ => n | _ => 0
/-- What Write holds between its rounds: the file's block; its own row; the loose pages. -/
structure WrS (w W : World) (f : Nat) (U : List Txt) (X : Option Addr) (n c : Nat) (u : Value) (L : List Int) : Prop where
  bf : ∃ v dA dn dc, Blk W f DFileT #[v, .slice dA dn dc, u]
  lo : W.ownsRow 0 IntT 1 u L.length (L.map iv)
  ok : Sp.RowOk L
  own : W.ownsRow w.heap.size StrT 1 (.slice X n c) n (U.map tv)
  ck : Chg (OneM f) w W
  hf : f < w.heap.size
  hn : U.length = n
theorem WrS.go {w W W' : World} {f n c : Nat} {U : List Txt} {X : Option Addr} {u : Value} {L : List Int} (S : WrS w W f U X n c u L) (hb : Below W.heap.size W W') : WrS w W' f U X n c u L := by
  obtain ⟨v, dA, dn, dc, h1⟩ := S.bf
  exact ⟨⟨v, dA, dn, dc, h1.below hb h1.lt⟩, own_chg2 (S := NoM) S.lo (Chg.of_below hb) (fun _ _ h => h), S.ok, own_chg2 (S := NoM) S.own (Chg.of_below hb) (fun _ _ h => h), S.ck.trans (Chg.of_below hb), S.hf, S.hn⟩
/-- The loose pages' row is another one. -/
theorem WrS.loose {w W : World} {f n c : Nat} {U : List Txt} {X : Option Addr} {u u' : Value} {L L' : List Int} (S : WrS w W f U X n c u L) (hL : Sp.RowOk L') (hr : W.ownsRow 0 IntT 1 u' L'.length (L'.map iv)) :
    WrS w (W.setCell ⟨f, 2, none⟩ u') f U X n c u' L' := by
  obtain ⟨v, dA, dn, dc, h1⟩ := S.bf
  have hk := Chg.set1 W f 2 u'
  exact ⟨⟨v, dA, dn, dc, h1.set_ 2 _⟩, own_chg2 hr hk (fun k hk' h' => own_not hr (t := DFileT) (by decide) k hk' _ ((show k = f from h').symm ▸ h1)), hL, own_chg2 S.own hk (fun k hk' h' => own_not S.own (t := DFileT) (by decide) k hk' _ ((show k = f from h').symm ▸ h1)), S.ck.trans hk, S.hf, S.hn⟩
/-- One more page in the row. -/
theorem WrS.push {w W W' : World} {f n c : Nat} {U : List Txt} {X X' : Option Addr} {c' : Nat} {s : Txt} {u : Value} {L : List Int} (S : WrS w W f U X n c u L) (ho : W'.ownsRow w.heap.size StrT 1 (.slice X' (n + 1) c') (n + 1) (U.map tv ++ [tv s])) (hg : W.grownBy W' (Value.slice X n c).ownBlock) :
    WrS w W' f (U ++ [s]) X' (n + 1) c' u L := by
  obtain ⟨v, dA, dn, dc, h1⟩ := S.bf
  have hk : Chg (fun k => (Value.slice X n c).ownBlock = some k) W W' := Chg.of_grown hg (fun k hk => .inl hk)
  have hk2 : Chg (OneM f) w W' := by
    refine ⟨hk.os.trans S.ck.os, hk.tape.trans S.ck.tape, hk.output.trans S.ck.output, Nat.le_trans S.ck.size hk.size, fun i hi hs => (hk.block i (Nat.lt_of_lt_of_le hi S.ck.size) fun e => ?_).trans (S.ck.block i hi hs)⟩
    obtain ⟨g, cp, rfl, hg'⟩ : ∃ g cp, X = some ⟨g, 0, none⟩ ∧ cp = c := by
      rcases S.own.2 with ⟨h, _⟩ | ⟨g, cap, cur, h, _⟩
      · simp only [Value.slice.injEq] at h
        obtain ⟨rfl, _, _⟩ := h
        simp [Value.ownBlock] at e
      · simp only [Value.slice.injEq] at h
        exact ⟨g, c, h.1, rfl⟩
    have := own_ge S.own
    simp only [Value.ownBlock, Option.some.injEq] at e
    omega
  refine ⟨⟨v, dA, dn, dc, h1.chg hk fun e => own_not S.own (t := DFileT) (by decide) f e _ h1⟩, own_chg2 S.lo hk (fun k hk' e => ?_), S.ok, by rw [List.map_append]; exact ho, hk2, S.hf, by rw [List.length_append, S.hn]; rfl⟩
  obtain ⟨g, cur, hb⟩ : ∃ (g : Nat) (cur : Array Value), k = g ∧ Blk W g StrT cur := by
    rcases S.own.2 with ⟨h, _⟩ | ⟨g, cap, cur, h, _, hh, _⟩
    · rw [h] at e; simp [Value.ownBlock] at e
    · rw [h] at e
      exact ⟨g, cur, by simpa [Value.ownBlock] using e.symm, hh⟩
  obtain ⟨rfl, hb⟩ := hb
  exact own_not S.lo (t := StrT) (by decide) k hk' _ hb
theorem WrS.set {w W : World} {f n c : Nat} {U : List Txt} {g : Nat} {u : Value} {L : List Int} (S : WrS w W f U (some ⟨g, 0, none⟩) n c u L) (i : Nat) (s : Txt) : WrS w (W.setCell ⟨g, i, none⟩ (.string ⟨s.toArray⟩)) f (U.set i s) (some ⟨g, 0, none⟩) n c u L := by
  obtain ⟨v, dA, dn, dc, h1⟩ := S.bf
  have hgf : f ≠ g := fun e => own_not S.own (t := DFileT) (by decide) g rfl _ (e ▸ h1)
  have hge := own_ge S.own
  have hk := Chg.set1 W g i (.string ⟨s.toArray⟩)
  obtain ⟨cur, hcur, _⟩ := own_blk S.own
  have ho := own_set S.own (j := i) (.string ⟨s.toArray⟩)
  rw [show (U.map tv).set i (.string ⟨s.toArray⟩) = (U.set i s).map tv by rw [List.map_set]; rfl] at ho
  refine ⟨⟨v, dA, dn, dc, h1.chg hk hgf⟩, own_chg2 S.lo hk (fun k hk' e => own_not S.lo (t := StrT) (by decide) k hk' _ ((show k = g from e).symm ▸ hcur)), S.ok, ho, ?_, S.hf, by rw [List.length_set]; exact S.hn⟩
  exact ⟨hk.os.trans S.ck.os, hk.tape.trans S.ck.tape, hk.output.trans S.ck.output, Nat.le_trans S.ck.size hk.size, fun j hj hs => (hk.block j (Nat.lt_of_lt_of_le hj S.ck.size) fun e => by have : j = g := e; omega).trans (S.ck.block j hj hs)⟩
theorem WrS.done {w W : World} {f n c : Nat} {U : List Txt} {X : Option Addr} {u u' : Value} {L L' : List Int} (S : WrS w W f U X n c u L) (hL : Sp.RowOk L') (hr : W.ownsRow 0 IntT 1 u' L'.length (L'.map iv)) :
    DfAt ((W.setCell ⟨f, 0, none⟩ (.slice X n c)).setCell ⟨f, 2, none⟩ u') f U ∧ Chg (OneM f) w ((W.setCell ⟨f, 0, none⟩ (.slice X n c)).setCell ⟨f, 2, none⟩ u') := by
  obtain ⟨v, dA, dn, dc, h1⟩ := S.bf
  have hk := (Chg.set1 W f 0 (.slice X n c)).trans (Chg.set1 (W.setCell ⟨f, 0, none⟩ (.slice X n c)) f 2 u')
  have hn := S.hn
  subst hn
  exact ⟨⟨_, dA, dn, dc, _, (h1.set_ 0 _).set_ 2 _, own_less (own_chg2 S.own hk (fun k hk' h' => own_not S.own (t := DFileT) (by decide) k hk' _ ((show k = f from h').symm ▸ h1))) (Nat.zero_le _), L', hL, own_chg2 hr hk (fun k hk' h' => own_not hr (t := DFileT) (by decide) k hk' _ ((show k = f from h').symm ▸ h1))⟩, S.ck.trans hk⟩
set_option maxRecDepth 100000 in
set_option maxHeartbeats 1600000 in
theorem dWrite_any (f : Nat) (V : List Txt) (i : Nat) (s : Txt) (w : World) (h : DfAt w f V) (h0 : 0 < V.length) (hn : V.length ≤ 400) (hi : i < 400) :
    Calls Tryz.prog 49 #[.pointer (some ⟨f, 0, none⟩), .int .i64 (i : Int), .string ⟨s.toArray⟩] w fun e w' => e = .returned (.int .i64 0) ∧ DfAt w' f (Sp.writeV V i s) ∧ Chg (OneM f) w w' := by
  obtain ⟨i0, hii0, hz0, hz1, hz2⟩ := info_parts info_str
  obtain ⟨v, dA, dn, dc, u, h1, h2, L, h3, h4⟩ := h.bf
  obtain ⟨g, cap, rfl, hg, hcg⟩ := own_some h2 h0
  have HD := Lib.hid (show ∀ W X c, Below w.heap.size w W → W.ownsRow w.heap.size StrT 1 (.slice X V.length c) V.length (V.map tv) → WrS w W f V X V.length c u L from fun W X c hb ho => ⟨⟨_, _, _, _, h1.below hb h1.lt⟩, own_chg2 (S := NoM) h4 (Chg.of_below hb) (fun _ _ h => h), h3, ho, Chg.of_below hb, h1.lt, rfl⟩)
  have c0 : w.cell? ⟨f, 0, none⟩ = some (.slice (some ⟨g, 0, none⟩) V.length cap) := h1.cell 0
  have HLO := Lib.hid (show ∀ u ∈ V.map tv, u.oneCell' = true from fun u hu => by obtain ⟨s, _, rfl⟩ := List.mem_map.1 hu; rfl)
  have HCG := Lib.hid (fun (j : Nat) (u : Value) (hu : (V.map tv)[j]? = some u) => show w.cell? ((⟨g, 0, none⟩ : Addr).add j) = some u by rw [Go.WideShapes.add_plain, Nat.zero_add]; exact hcg j u hu)
  have HI1 := Lib.hid (show ∀ u ∈ [tv []], u.oneCell' = true from fun u hu => by rw [List.mem_singleton.1 hu]; rfl)
  have hl1 : (V.map tv).length = V.length * 1 := by simp
  have hi0 : ¬ ((i : Int) < 0) := by omega
  have hi4 : ¬ ((400 : Int) ≤ (i : Int)) := by omega
  clear h h1 h2 h3 h4 hcg
  go_enter Tryz.func49, Tryz.ntmps49
  go_upto_region 4 with (at_builtin; refine wpList_append_own _ rfl (.const (.slice none 0 0)) (.tmp 17) 26 rfl w.heap.size StrT i0 _ 1 16 Tryz.underlying26 hii0 hz0 hz1 hz2 rfl (by decide) (.slice none 0 0) 0 [] rfl (own_nil _ _ _ _) ⟨g, 0, none⟩ V.length cap (V.map tv) rfl hl1 HCG.out HLO.out (by simp only [maxLen]; omega) (by omega) (Nat.le_refl _) ?_; (intro v2 w2 hown2 hgr2 hnil2; rw [Nat.zero_add, List.nil_append] at hown2; obtain ⟨X2, c2, rfl⟩ := own_form hown2; have HW := Lib.hid (HD.out _ _ _ (grown_below hgr2) hown2); clear hgr2 hnil2 hown2))
  clear HD HCG HLO c0
  go_wp2_with fail
  go_loopw [7] (fun vv wr => ∃ (j : Nat) (X : Option Addr) (c : Nat) (u' : Value) (L' : List Int), j ≤ i + 1 - V.length ∧ vv = .slice X (V.length + j) c ∧ Hid (WrS w wr f (V ++ List.replicate j []) X (V.length + j) c u' L')) (fun vv _ => i + 1 - lenOf vv)
  case atStart => exact ⟨0, X2, c2, u, L, Nat.zero_le _, rfl, by simpa using HW⟩
  case round =>
    obtain ⟨j, X, c3, u', L', hj, rfl, S⟩ := hrel
    clear HW
    obtain ⟨n, hnj⟩ : ∃ n, n = V.length + j := ⟨_, rfl⟩
    rw [← hnj] at S ⊢
    have HNJ := Lib.hid hnj
    have hn8 : n ≤ 801 := by omega
    clear hnj
    obtain ⟨v', _, _, _, hb⟩ := S.out.bf
    have c2 : wr.cell? ⟨f, 2, none⟩ = some u' := hb.cell 2
    clear hb
    by_cases hlt : n ≤ i
    · have hlt' : (n : Int) ≤ (i : Int) := by omega
      go_upto_region 6 with (go_at_call 60; refine (dWithO_any L' u' (n : Int) _ S.out.lo (by have := S.out.ok.len; omega)).mono ?_; rintro e w2 ⟨u2, rfl, ho, hb2⟩; obtain ⟨A2, cc2, rfl⟩ := own_form ho; have S2 := Lib.hid (S.out.go hb2); have HO := Lib.hid ho; clear ho hb2; obtain ⟨v2, _, _, _, hbf⟩ := S2.out.bf; have e2 : w2.cell? ⟨f, 2, none⟩ = some u' := hbf.cell 2; have k2 := hbf.frozen 2; clear hbf)
      refine wp_gen (fun W => WrS w W f (V ++ List.replicate j []) X n c3 (.slice A2 (Sp.withI (n : Int) L').length cc2) (Sp.withI (n : Int) L')) (S2.out.loose (S2.out.ok.with_ (by omega) (by omega)) HO.out) ?_
      clear S2 HO e2 k2 S c2
      generalize Sp.withI (n : Int) L' = L2 at *
      intro w3 hS
      have S3 := Lib.hid hS
      have hz3 := hS.ck.size
      clear hS
      go_wp2_with (at_builtin; refine wpList_append_own _ rfl (.tmp 33) (.tmp 34) 26 rfl w.heap.size StrT i0 _ 1 16 Tryz.underlying26 hii0 hz0 hz1 hz2 rfl (by decide) (.slice X n c3) n ((V ++ List.replicate j []).map tv) rfl (own_chg2 (S := NoM) S3.out.own ((Chg.refl _ _).alloc _) (fun _ _ h => h)) ⟨w3.heap.size, 0, none⟩ 1 1 [tv []] rfl rfl (cells_new w3 StrT [tv []]) HI1.out (by simp only [maxLen]; omega) (by omega) (by rw [World.size_alloc]; omega) ?_; (intro v4 w4 hown4 hgr4 hnil4; obtain ⟨X4, c4, rfl⟩ := own_form hown4; have S4 := Lib.hid ((S3.out.go ((Below.refl _ _).alloc (Nat.le_refl _) _)).push hown4 hgr4); clear hown4 hgr4 hnil4))
      refine ⟨⟨j + 1, X4, c4, .slice A2 L2.length cc2, L2, by have := HNJ.out; omega, by rw [HNJ.out]; rfl, ?_⟩, by have := HNJ.out; simp [lenOf]; omega⟩
      rw [show V ++ List.replicate (j + 1) [] = (V ++ List.replicate j []) ++ [[]] by rw [List.replicate_succ', List.append_assoc], show V.length + (j + 1) = n + 1 by rw [HNJ.out]; omega]
      exact S4
    · have hlt' : ¬ ((n : Int) ≤ (i : Int)) := by omega
      have hjj : j = i + 1 - V.length := by have := HNJ.out; omega
      subst hjj
      have hni : i < n := by omega
      have hnI : (i : Int) < (n : Int) := by omega
      obtain ⟨gX, capX, hX, _, _⟩ := own_some S.out.own (by omega)
      simp only [Value.slice.injEq] at hX
      obtain ⟨rfl, _, rfl⟩ := hX
      obtain ⟨hcj, hfj⟩ := own_at S.out.own hni
      generalize ((V ++ List.replicate (i + 1 - V.length) []).map tv).getD i undef = ui at *
      go_upto_region 8 with fail
      have S2 := Lib.hid (show WrS w _ f (Sp.writeV V i s) (some ⟨gX, 0, none⟩) n c3 u' L' from S.out.set i s)
      refine wp_gen (fun W => WrS w W f (Sp.writeV V i s) (some ⟨gX, 0, none⟩) n c3 u' L') S2.out ?_
      clear S2 S c2 hcj hfj
      intro w3 hS
      have S3 := Lib.hid hS
      obtain ⟨v3, _, _, _, hbf⟩ := hS.bf
      have c2 : w3.cell? ⟨f, 2, none⟩ = some u' := hbf.cell 2
      have hfw3 := hbf.lt
      clear hS hbf
      go_wp2_with (go_at_call 60; refine (dWithO_any L' u' (i : Int) _ S3.out.lo (by have := S3.out.ok.len; omega)).mono ?_; rintro e w4 ⟨u2, rfl, ho, hb2⟩; obtain ⟨A2, cc2, rfl⟩ := own_form ho; have S4 := Lib.hid (S3.out.go hb2); have HO := Lib.hid ho; clear ho hb2; obtain ⟨v2, _, _, _, hbf⟩ := S4.out.bf; have e0 : w4.cell? ⟨f, 0, none⟩ = some v2 := hbf.cell 0; have k0 := hbf.frozen 0; have e2 : w4.cell? ⟨f, 2, none⟩ = some u' := hbf.cell 2; have k2 := hbf.frozen 2; clear hbf)
      go_ret
      obtain ⟨q1, q2⟩ := S4.out.done (S4.out.ok.with_ (by omega) (by omega)) HO.out
      exact ⟨rfl, q1, q2⟩
end Go.Proofs.YtmcpkhknjdiocaaGreat
namespace Go.Proofs.YtmcpkhknjdiocaaGreat
open Go.RowKit
attribute [local go_sem low] mk_extract
attribute [local go_sem] After.cell After.frozen mk_extract_end ByteArray.mk_append_mk
set_option maxRecDepth 100000 in
set_option maxHeartbeats 1600000 in
theorem key_any (n : Nat) (hn : n < 256) (w : World) : Calls Tryz.prog 30 #[.int .i64 (n : Int)] w fun e w' => e = .returned (.string ⟨(Sp.keyN n).toArray⟩) ∧ Below w.heap.size w w' := by
  have hm1 : min (n : Int) 675 = (n : Int) := by omega
  have hm2 : max 0 (n : Int) = (n : Int) := by omega
  have hcv := conv2
  go_enter Tryz.func30, Tryz.ntmps30
  go_wp2
  go_ret
  exact ⟨rfl, (Below.refl _ _).alloc (Nat.le_refl _) _⟩
end Go.Proofs.YtmcpkhknjdiocaaGreat
namespace Go.Proofs.YtmcpkhknjdiocaaGreat
open Go.RowKit
attribute [local go_sem low] mk_extract
attribute [local go_sem] After.cell After.frozen mk_extract_end ByteArray.mk_append_mk
theorem Row.off {w : World} {M : Nat → Prop} {A : Option Addr} {cs : List Value} {f : Nat} {T : TypeId} {es : Array Value} (h : Row w M A cs) (hf : Blk w f T es) (hs : ∀ u ∈ es, ∃ X n c, u = .slice X n c) (hc : ∀ u ∈ cs, ∀ X n c, u ≠ .slice X n c) : Row w (fun k => M k ∨ k = f) A cs := by
  refine ⟨h.1, ?_⟩
  cases cs with
  | nil => exact .inl rfl
  | cons u t =>
    rcases h.2 with h' | ⟨b, off, e, hb, hm, hcell⟩
    · cases h'
    · refine .inr ⟨b, off, e, hb, fun hk => ?_, hcell⟩
      rcases hk with hk | rfl
      · exact hm hk
      · have h0 := hcell 0 u rfl
        rw [hf.cell] at h0
        obtain ⟨X, n, c, e⟩ := hs u (Array.mem_of_getElem? h0)
        exact hc u (by simp) X n c e
theorem Txts.off {w : World} {M : Nat → Prop} {A : Option Addr} {l : List Txt} {f : Nat} {T : TypeId} {es : Array Value} (h : Txts w M A l) (hf : Blk w f T es) (hs : ∀ u ∈ es, ∃ X n c, u = .slice X n c) : Txts w (fun k => M k ∨ k = f) A l :=
  Row.off h hf hs fun u hu X n c e => by
    obtain ⟨s, _, rfl⟩ := List.mem_map.1 hu
    cases e
theorem Ints.off {w : World} {M : Nat → Prop} {A : Option Addr} {l : List Int} {f : Nat} {T : TypeId} {es : Array Value} (h : Ints w M A l) (hf : Blk w f T es) (hs : ∀ u ∈ es, ∃ X n c, u = .slice X n c) : Ints w (fun k => M k ∨ k = f) A l :=
  Row.off h hf hs fun u hu X n c e => by
    obtain ⟨s, _, rfl⟩ := List.mem_map.1 hu
    cases e
theorem Items.off {w : World} {M : Nat → Prop} {A : Option Addr} {l : List Sp.Item} {f : Nat} {T : TypeId} {es : Array Value} (h : Items w M A l) (hf : Blk w f T es) (hs : ∀ u ∈ es, ∃ X n c, u = .slice X n c) : Items w (fun k => M k ∨ k = f) A l := by
  refine ⟨h.1, ?_⟩
  rcases Nat.eq_zero_or_pos l.length with h0 | h0
  · exact .inl (List.length_eq_zero_iff.1 h0)
  rcases h.2 with h' | ⟨b, off, e, hb, hm, hc⟩
  · exact .inl h'
  · refine .inr ⟨b, off, e, hb, fun hk => ?_, fun k hk => ?_⟩
    · rcases hk with hk | rfl
      · exact hm hk
      · obtain ⟨V, c, h1, _⟩ := hc 0 h0
        have h2 := h1.c0
        rw [hf.cell] at h2
        obtain ⟨X, n, c', e⟩ := hs _ (Array.mem_of_getElem? h2)
        cases e
    · obtain ⟨V, c, h1, h2⟩ := hc k hk
      exact ⟨V, c, h1, h2.off hf hs⟩
theorem Frees.off {w : World} {M : Nat → Prop} {A : Option Addr} {l : List Sp.Free} {f : Nat} {T : TypeId} {es : Array Value} (h : Frees w M A l) (hf : Blk w f T es) (hs : ∀ u ∈ es, ∃ X n c, u = .slice X n c) : Frees w (fun k => M k ∨ k = f) A l := by
  refine ⟨h.1, ?_⟩
  rcases Nat.eq_zero_or_pos l.length with h0 | h0
  · exact .inl (List.length_eq_zero_iff.1 h0)
  rcases h.2 with h' | ⟨b, off, e, hb, hm, hc⟩
  · exact .inl h'
  · refine .inr ⟨b, off, e, hb, fun hk => ?_, fun k hk => ?_⟩
    · rcases hk with hk | rfl
      · exact hm hk
      · obtain ⟨V, c, ⟨h2, _⟩, _⟩ := hc 0 h0
        rw [hf.cell] at h2
        obtain ⟨X, n, c', e⟩ := hs _ (Array.mem_of_getElem? h2)
        cases e
    · obtain ⟨V, c, h1, h2, h3⟩ := hc k hk
      exact ⟨V, c, h1, h2.off hf hs, h3⟩
theorem PageRd.off {w : World} {M : Nat → Prop} {p : Sp.Page} {r : Refs} {f : Nat} {T : TypeId} {es : Array Value} (h : PageRd w M p r) (hf : Blk w f T es) (hs : ∀ u ∈ es, ∃ X n c, u = .slice X n c) : PageRd w (fun k => M k ∨ k = f) p r :=
  ⟨h.items.off hf hs, h.keys.off hf hs, h.kids.off hf hs, h.vals.off hf hs, h.free.off hf hs, h.txn⟩
theorem PgCells.off {w : World} {M : Nat → Prop} {f : Nat} {T : TypeId} {es : Array Value} (hf : Blk w f T es) (hs : ∀ u ∈ es, ∃ X n c, u = .slice X n c) : ∀ {P : List Sp.Page} {xs : List Value}, PgCells w M P xs → PgCells w (fun k => M k ∨ k = f) P xs
  | [], _, h => h
  | _ :: _, _, ⟨r, ys, e, hr, h⟩ => ⟨r, ys, e, hr.off hf hs, PgCells.off hf hs h⟩
theorem PgCells.anti {w : World} {M M' : Nat → Prop} (hm : ∀ k, M' k → M k) : ∀ {P : List Sp.Page} {xs : List Value}, PgCells w M P xs → PgCells w M' P xs
  | [], _, h => h
  | _ :: _, _, ⟨r, ys, e, hr, h⟩ => ⟨r, ys, e, hr.anti hm, PgCells.anti hm h⟩
theorem DfAt.sl {w : World} {f : Nat} {V : List Txt} (h : DfAt w f V) : ∃ es, Blk w f DFileT es ∧ ∀ u ∈ es, ∃ X n c, u = .slice X n c := by
  obtain ⟨v, dA, dn, dc, u, h1, h2, L, _, h4⟩ := h.bf
  obtain ⟨A1, c1, rfl⟩ := own_form h2
  obtain ⟨A2, c2, rfl⟩ := own_form h4
  refine ⟨_, h1, fun x hx => ?_⟩
  simp only [List.mem_toArray, List.mem_cons, List.not_mem_nil, or_false] at hx
  rcases hx with rfl | rfl | rfl <;> exact ⟨_, _, _, rfl⟩
/-- A store stays while the file is written. -/
theorem StF.off {w w' : World} {s f : Nat} {fp : Value} {P : List Sp.Page} {V : List Txt} (h : StF w s fp P) (hd : DfAt w f V) (hk : Chg (OneM f) w w') : StF w' s fp P := by
  obtain ⟨vi, vp, hs, he⟩ := h
  obtain ⟨es, hb, hsl⟩ := hd.sl
  obtain ⟨xs, h1, h2⟩ := hs.op
  have hne : s ≠ f := fun e => Blk.not_ (t := StoreT) hs.bs (by decide) _ (e ▸ hb)
  refine ⟨vi, vp, ⟨hs.bs.chg hk hne, own_chg2 hs.oi hk (fun k hk' e => own_not hs.oi (t := DFileT) (by decide) k hk' _ ((show k = f from e).symm ▸ hb)), xs, own_chg2 h1 hk (fun k hk' e => own_not h1 (t := DFileT) (by decide) k hk' _ ((show k = f from e).symm ▸ hb)), ?_⟩, he⟩
  exact PgCells.anti (fun k h => .inl h) ((PgCells.off hb hsl h2).chg (hk.mono fun k _ e => .inr e))
/-- The file stays while a store is changed. -/
theorem DfAt.off {w w' : World} {s f : Nat} {fp : Value} {P : List Sp.Page} {V : List Txt} (hd : DfAt w f V) (h : StF w s fp P) (hk : Chg (OneM s) w w') : DfAt w' f V := by
  obtain ⟨vi, vp, hs, he⟩ := h
  obtain ⟨v, dA, dn, dc, u, h1, h2, L, h3, h4⟩ := hd.bf
  have hne : f ≠ s := fun e => Blk.not_ (t := StoreT) hs.bs (by decide) _ (e ▸ h1)
  exact ⟨v, dA, dn, dc, u, h1.chg hk hne, own_chg2 h2 hk (fun k hk' e => own_not h2 (t := StoreT) (by decide) k hk' _ ((show k = s from e).symm ▸ hs.bs)), L, h3, own_chg2 h4 hk (fun k hk' e => own_not h4 (t := StoreT) (by decide) k hk' _ ((show k = s from e).symm ▸ hs.bs))⟩
set_option maxRecDepth 100000 in
set_option maxHeartbeats 1600000 in
theorem dStoreNew_any (fp : Option Addr) (w : World) :
    Calls Tryz.prog 36 #[.pointer fp, .int .i64 2, .int .i64 400, .slice none 0 0] w fun e w' => ∃ s, e = .returned (.pointer (some ⟨s, 0, none⟩)) ∧ w.heap.size ≤ s ∧ StF w' s (.pointer fp) [] ∧ Below w.heap.size w w' := by
  go_enter Tryz.func36, Tryz.ntmps36
  go_wp2_with fail
  go_loopw [10] (fun i wr => i = .int .i64 0 ∧ wr = w.alloc (.cells #[.pointer fp, .int .i64 2, .int .i64 400, .slice none 0 0, .slice none 0 0, .slice none 0 0, .slice none 0 0] StoreT)) (fun _ _ => 0)
  case atStart => exact ⟨rfl, rfl⟩
  case round =>
    obtain ⟨rfl, rfl⟩ := hrel
    go_wp2_with fail
    go_ret
    exact ⟨_, rfl, Nat.le_refl _, ⟨_, _, ⟨Blk.new _ _ _, own_nil _ _ _ _, [], own_nil _ _ _ _, rfl⟩, fun _ => ⟨rfl, rfl⟩⟩, (Below.refl _ _).alloc (Nat.le_refl _) _⟩
end Go.Proofs.YtmcpkhknjdiocaaGreat
namespace Go.Proofs.YtmcpkhknjdiocaaGreat
open Go.RowKit
attribute [local go_sem low] mk_extract
attribute [local go_sem] After.cell After.frozen mk_extract_end ByteArray.mk_append_mk
/-- What Tree holds between its rounds. -/
structure TgS (w W : World) (f s : Nat) (P : List Sp.Page) (V : List Txt) : Prop where
  df : DfAt W f V
  st : StF W s (.pointer (some ⟨f, 0, none⟩)) P
  hb : Below w.heap.size w W
  hf : w.heap.size ≤ f
  hs : w.heap.size ≤ s
theorem TgS.go {w W W' : World} {f s : Nat} {P : List Sp.Page} {V : List Txt} (h : TgS w W f s P V) (hb : Below W.heap.size W W') : TgS w W' f s P V :=
  ⟨h.df.go hb, h.st.go hb, h.hb.trans (hb.mono h.hb.size), h.hf, h.hs⟩
theorem TgS.put {w W W' : World} {f s : Nat} {P P' : List Sp.Page} {V : List Txt} (h : TgS w W f s P V) (hk : Chg (OneM s) W W') (hs : StF W' s (.pointer (some ⟨f, 0, none⟩)) P') : TgS w W' f s P' V :=
  ⟨h.df.off h.st hk, hs, h.hb.trans (hk.below h.hb.size fun k hk e => by have : k = s := e; have := h.hs; omega), h.hf, h.hs⟩
theorem TgS.write {w W W' : World} {f s : Nat} {P : List Sp.Page} {V V' : List Txt} (h : TgS w W f s P V) (hk : Chg (OneM f) W W') (hd : DfAt W' f V') : TgS w W' f s P V' :=
  ⟨hd, h.st.off h.df hk, h.hb.trans (hk.below h.hb.size fun k hk e => by have : k = f := e; have := h.hf; omega), h.hf, h.hs⟩
theorem U8s.cell {w W : World} {A : Option Addr} {l : List Nat} (h : U8s w A l) (hb : Below w.heap.size w W) {j : Nat} (hj : j < l.length) : ∃ b off, A = some ⟨b, off, none⟩ ∧ W.cell? ⟨b, off + j, none⟩ = some (.int .u8 ((l.getD j 0 : Nat) : Int)) := by
  obtain ⟨b, off, e, hlt, hc⟩ := h.at_ hj
  exact ⟨b, off, e, (hb.cell (p := ⟨b, off + j, none⟩) hlt).trans (hc j hj)⟩
theorem exec_load_at {P : Program} {o : Oper} {a : Act} (ty : TypeId) (x : Operand) (ho : o.op = .load ty x) (g off : Nat) (hx : a.eval x = .pointer (some ⟨g, off, none⟩)) (w : World) (cs : Array Value) (d : TypeDesc) (hc : ∀ j v, cs[j]? = some v → w.cell? ⟨g, off + j, none⟩ = some v)
    (hu : P.underlying ty = some d) (hd : (match d with | .struct _ | .array _ _ => true | _ => false) = true) (hi : (P.info? ty).map (·.size) = some cs.size) : (execOp a.eval o).run P w = .ok (.value (.agg cs)) w := by
  unfold execOp
  simp only [ho, hx, Instr.loadAt, Instr.sureAddr, Sem.run_bind, Sem.run_pure, Result.andThen_ok, run_loadVar_at w g off ty cs d hc hu hd hi]
set_option maxRecDepth 100000 in
set_option maxHeartbeats 1600000 in
theorem tree_any (keys : List Nat) (A : Option Addr) (c : Nat) (w : World) (hk : U8s w A keys) (h256 : ∀ k ∈ keys, k < 256) (hn : keys.length ≤ 120) :
    Calls Tryz.prog 27 #[.slice A keys.length c] w fun e w' => ∃ f P, e = .returned (.tuple #[.pointer (some ⟨f, 0, none⟩), .int .i64 ((Sp.Rt.root (Sp.treeN keys).1 : Nat) : Int), .int .i64 ((P.length + 2 : Nat) : Int)]) ∧
      w.heap.size ≤ f ∧ DfAt w' f ([[], []] ++ P.map Sp.bytes) ∧ Sp.TreeAt keys P ∧ Below w.heap.size w w' := by
  have hal : Below w.heap.size w (w.alloc (.cells #[.string ⟨#[]⟩, .string ⟨#[]⟩] StrT)) := (Below.refl _ _).alloc (Nat.le_refl _) _
  have HNF := Lib.hid (dNewFile_any [[], []] w.heap.size 0 2 (M := NoM) (w.alloc (.cells #[.string ⟨#[]⟩, .string ⟨#[]⟩] StrT)) ⟨by simp, .inr ⟨_, _, rfl, (Blk.new w StrT _).lt, id, fun j u hu => by
    rw [Nat.zero_add, (Blk.new w StrT _).cell]
    simpa [tv] using hu⟩⟩ (by simp) (by simp) (by simp))
  have HAL := Lib.hid hal
  have HK := Lib.hid hk
  have H256 := Lib.hid h256
  clear hal hk h256
  go_enter Tryz.func27, Tryz.ntmps27
  go_upto_region 2 with (go_at_call 47; refine HNF.out.mono ?_; rintro e w2 ⟨f, rfl, hf, hd, hb⟩; have HF := Lib.hid hf; have HD := Lib.hid hd; have HB := Lib.hid (HAL.out.trans (hb.mono HAL.out.size)); clear hf hd hb HNF)
  go_upto_region 3 with (go_at_call 36; refine (dStoreNew_any (some ⟨f, 0, none⟩) _).mono ?_; rintro e w3 ⟨s, rfl, hs, hst, hb⟩; have S0 := Lib.hid (show TgS w w3 f s [] [[], []] from ⟨HD.out.go hb, hst, HB.out.trans (hb.mono HB.out.size), Nat.le_trans (HAL.out.size) HF.out, Nat.le_trans HB.out.size hs⟩); clear hs hst hb)
  clear HF HD HB HAL
  go_upto_region 5 with fail
  go_wp2_with fail
  go_loopw [7, 8] (fun rv iv wr => ∃ (j : Nat) (P : List Sp.Page), j ≤ keys.length ∧ iv = .int .i64 (j : Int) ∧ rv = .int .i64 ((Sp.Rt.root (Sp.treeN (keys.take j)).1 : Nat) : Int) ∧ Hid (Sp.TreeAt (keys.take j) P) ∧ Hid (TgS w wr f s P [[], []])) (fun _ iv _ => keys.length - (intOf iv).toNat)
  case atStart => exact ⟨0, [], Nat.zero_le _, rfl, rfl, Lib.hid Sp.TreeAt.start, S0⟩
  case round =>
    obtain ⟨j, P, hj, rfl, rfl, TA, S⟩ := hrel
    clear S0
    by_cases hlt : j < keys.length
    · obtain ⟨kb, ko, rfl, hkc⟩ := HK.out.cell S.out.hb hlt
      have hk2 := H256.out _ (show keys.getD j 0 ∈ keys by simp [List.getD, hlt])
      have htk : ∀ k ∈ keys.take j, k < 256 := fun k hk => H256.out k (List.mem_of_mem_take hk)
      have hbd := TA.out.bound htk hk2
      rw [List.length_take, Nat.min_eq_left hj] at hbd
      have HNX := Lib.hid (fun P' h1 h2 => show Sp.TreeAt (keys.take (j + 1)) P' by
        rw [Sp.take_snoc (d := 0) hlt]
        exact TA.out.next htk hk2 h1 h2)
      have HRT := Lib.hid (show (Sp.treeN (keys.take (j + 1))).1 = (Sp.putR (Sp.itN (keys.getD j 0)) (Sp.treeN (keys.take j)).1 (Sp.treeN (keys.take j)).2).1 by rw [Sp.take_snoc (d := 0) hlt, Sp.treeN_snoc])
      have HAT := Lib.hid TA.out.at_
      have HBD := Lib.hid hbd
      have HIS := Lib.hid (Sp.itN_is _ hk2)
      have HPT := Lib.hid (putw_any s (.pointer (some ⟨f, 0, none⟩)) P (Sp.treeN (keys.take j)).1 (Sp.treeN (keys.take j)).2 (Sp.itN (keys.getD j 0)) none 0)
      clear htk hbd TA
      generalize keys.getD j 0 = k at *
      generalize (Sp.treeN (keys.take j)).2 = n at *
      generalize (Sp.treeN (keys.take j)).1 = o at *
      go_upto_region 8 with (first
        | (go_at_call 30; refine (key_any k hk2 _).mono ?_; rintro e w4 ⟨rfl, hb4⟩; have S4 := Lib.hid (S.out.go hb4); clear hb4)
        | (go_at_call 48; refine (HPT.out _ S4.out.st Row.nil_ HIS.out HAT.out (by have := HBD.out; omega)).mono ?_; rintro e w5 ⟨rfl, P', hst, hat, hit, hck⟩; have S5 := Lib.hid (S4.out.put hck hst); have HTA := Lib.hid (HNX.out P' hat hit); clear hst hat hit hck))
      go_wp2_with fail
      refine ⟨⟨j + 1, P', by omega, by go_num, by rw [HRT.out], HTA, S5⟩, by simp [intOf]; omega⟩
    · obtain rfl : j = keys.length := by omega
      have ta : Sp.TreeAt keys P := by have := TA.out; rwa [List.take_length] at this
      have HTA := Lib.hid ta
      have hPl := ta.len
      clear TA ta
      rw [List.take_length]
      generalize hrt : Sp.Rt.root (Sp.treeN keys).1 = rt at *
      go_upto_region 11 with fail
      go_loopw [11] (fun iv wr => ∃ i : Nat, i ≤ P.length ∧ iv = .int .i64 (i : Int) ∧ Hid (TgS w wr f s P ([[], []] ++ (P.take i).map Sp.bytes))) (fun iv _ => P.length - (intOf iv).toNat)
      case atStart => exact ⟨0, Nat.zero_le _, rfl, S⟩
      case round =>
        obtain ⟨i, hi, rfl, S⟩ := hrel
        obtain ⟨vi, vp, hst, _⟩ := S.out.st
        obtain ⟨Ai, ci, rfl⟩ := own_form hst.oi
        obtain ⟨Ap, cp, rfl⟩ : ∃ A c, vp = .slice A P.length c := by obtain ⟨xs, h1, _⟩ := hst.op; exact own_form h1
        have c5 : wr.cell? ⟨s, 5, none⟩ = some (.slice Ai P.length ci) := hst.bs.cell 5
        have c6 : wr.cell? ⟨s, 6, none⟩ = some (.slice Ap P.length cp) := hst.bs.cell 6
        have hsw := hst.bs.lt
        have HST := Lib.hid hst
        clear hst
        by_cases hlt2 : i < P.length
        · have hi400 : P.length ≤ 400 := by omega
          obtain ⟨gi, ci', e1, hgi, hgc⟩ := own_some HST.out.oi (by omega)
          simp only [Value.slice.injEq] at e1
          obtain ⟨rfl, _, rfl⟩ := e1
          obtain ⟨xs, ho, hpc⟩ := HST.out.op
          obtain ⟨gp, cp', e2, hgp, hpq⟩ := own_some ho (by omega)
          simp only [Value.slice.injEq] at e2
          obtain ⟨rfl, _, rfl⟩ := e2
          obtain ⟨r, hpr, hcx⟩ := hpc.at_ (List.getElem?_eq_getElem hlt2)
          have CP := Lib.hid (fun j v (hv : (pageV P[i] r).toArray[j]? = some v) => show wr.cell? ⟨gp, i * 14 + j, none⟩ = some v from hpq _ _ (hcx j v (by simpa using hv)))
          have CI := Lib.hid (show wr.cell? ⟨gi, i, none⟩ = some (.int .i64 ((i + 2 : Nat) : Int)) from hgc i _ (idsV_at hlt2))
          have C5 := Lib.hid c5
          have C6 := Lib.hid c6
          have HPR := Lib.hid hpr
          have HWV := Lib.hid (show Sp.writeV ([[], []] ++ (P.take i).map Sp.bytes) (i + 2) (Sp.bytes P[i]) = [[], []] ++ (P.take (i + 1)).map Sp.bytes by
            have hl : ([[], []] ++ (P.take i).map Sp.bytes).length = i + 2 := by simp; omega
            have := Sp.writeV_end (V := [[], []] ++ (P.take i).map Sp.bytes) (s := Sp.bytes P[i])
            rw [hl] at this
            rw [this, List.take_succ_eq_append_getElem hlt2, List.map_append, List.append_assoc]
            rfl)
          clear hpr hcx hpq hgc ho hpc c6
          generalize P[i] = p at *
          go_upto_region 13 with fail
          clear c5
          refine wp_region_in 17 16 (fun W => Below wr.heap.size wr W) (by kernel_rfl) rfl ?_
          refine wpIn_take 0 (.pointer (some ⟨f, 0, none⟩)) rfl (by kernel_rfl) (by kernel_rfl) (by kernel_rfl) (by kernel_rfl) (by kernel_rfl) (by rfl) (fun _ _ _ h => h) (Below.refl wr.heap.size wr).drew (fun W hW => by go_simp; all_goals first | with_reducible rfl | rfl) ?_
          simp only [List.getElem_toArray, List.getElem_cons_zero, List.getElem_cons_succ, Act.put, List.setIfInBounds_toArray, List.set_cons_succ, List.set_cons_zero]
          refine wpIn_takeV 1 [2, 3, 4, 6, 7, 16] (.pointer (some ⟨s, 0, none⟩)) rfl (by kernel_rfl) (by kernel_rfl) (by kernel_rfl) (by kernel_rfl) (by kernel_rfl) (by kernel_rfl) (by kernel_rfl) (by rfl) (fun _ _ _ h => h) (Below.refl wr.heap.size wr).drew (fun W hW => by go_simp; all_goals first | with_reducible rfl | rfl) ?_
          simp only [List.getElem_toArray, List.getElem_cons_zero, List.getElem_cons_succ, Act.put, List.setIfInBounds_toArray, List.set_cons_succ, List.set_cons_zero]
          refine wpIn_takeV 2 [3, 4, 6, 7, 16] (.pointer (some ⟨s, 0, none⟩)) rfl (by kernel_rfl) (by kernel_rfl) (by kernel_rfl) (by kernel_rfl) (by kernel_rfl) (by kernel_rfl) (by kernel_rfl) (by rfl) (fun _ _ _ h => h) (Below.refl wr.heap.size wr).drew (fun W hW => by go_simp; all_goals first | with_reducible rfl | rfl) ?_
          simp only [List.getElem_toArray, List.getElem_cons_zero, List.getElem_cons_succ, Act.put, List.setIfInBounds_toArray, List.set_cons_succ, List.set_cons_zero]
          refine wpIn_takeV 3 [4, 6, 7, 16] (.pointer (some ⟨s, 5, none⟩)) rfl (by kernel_rfl) (by kernel_rfl) (by kernel_rfl) (by kernel_rfl) (by kernel_rfl) (by kernel_rfl) (by kernel_rfl) (by rfl) (fun _ _ _ h => h) (Below.refl wr.heap.size wr).drew (fun W hW => by go_simp; all_goals first | with_reducible rfl | rfl) ?_
          simp only [List.getElem_toArray, List.getElem_cons_zero, List.getElem_cons_succ, Act.put, List.setIfInBounds_toArray, List.set_cons_succ, List.set_cons_zero]
          refine wpIn_takeV 4 [6, 7, 16] (.slice (some ⟨gi, 0, none⟩) P.length ci) rfl (by kernel_rfl) (by kernel_rfl) (by kernel_rfl) (by kernel_rfl) (by kernel_rfl) (by kernel_rfl) (by kernel_rfl) (by rfl) (fun _ _ _ h => h) (Below.refl wr.heap.size wr).drew (fun W hW => by have hc := (hW.cell (p := ⟨s, 5, none⟩) hsw).trans C5.out; go_simp; all_goals first | with_reducible rfl | rfl) ?_
          simp only [List.getElem_toArray, List.getElem_cons_zero, List.getElem_cons_succ, Act.put, List.setIfInBounds_toArray, List.set_cons_succ, List.set_cons_zero]
          refine wpIn_takeV 5 [6, 7, 16] (.int .i64 (i : Int)) rfl (by kernel_rfl) (by kernel_rfl) (by kernel_rfl) (by kernel_rfl) (by kernel_rfl) (by kernel_rfl) (by kernel_rfl) (by rfl) (fun _ _ _ h => h) (Below.refl wr.heap.size wr).drew (fun W hW => by go_simp; all_goals first | with_reducible rfl | rfl) ?_
          simp only [List.getElem_toArray, List.getElem_cons_zero, List.getElem_cons_succ, Act.put, List.setIfInBounds_toArray, List.set_cons_succ, List.set_cons_zero]
          refine wpIn_takeV 6 [7, 16] (.pointer (some ⟨gi, i, none⟩)) rfl (by kernel_rfl) (by kernel_rfl) (by kernel_rfl) (by kernel_rfl) (by kernel_rfl) (by kernel_rfl) (by kernel_rfl) (by rfl) (fun _ _ _ h => h) (Below.refl wr.heap.size wr).drew (fun W hW => by go_simp; all_goals first | with_reducible rfl | rfl) ?_
          simp only [List.getElem_toArray, List.getElem_cons_zero, List.getElem_cons_succ, Act.put, List.setIfInBounds_toArray, List.set_cons_succ, List.set_cons_zero]
          refine wpIn_take 7 (.int .i64 ((i + 2 : Nat) : Int)) rfl (by kernel_rfl) (by kernel_rfl) (by kernel_rfl) (by kernel_rfl) (by kernel_rfl) (by rfl) (fun _ _ _ h => h) (Below.refl wr.heap.size wr).drew (fun W hW => by have hc := (hW.cell (p := ⟨gi, i, none⟩) hgi).trans CI.out; go_simp; all_goals first | with_reducible rfl | rfl) ?_
          simp only [List.getElem_toArray, List.getElem_cons_zero, List.getElem_cons_succ, Act.put, List.setIfInBounds_toArray, List.set_cons_succ, List.set_cons_zero]
          refine wpIn_takeV 8 [9, 10, 11, 13, 14, 15, 16] (.pointer (some ⟨s, 0, none⟩)) rfl (by kernel_rfl) (by kernel_rfl) (by kernel_rfl) (by kernel_rfl) (by kernel_rfl) (by kernel_rfl) (by kernel_rfl) (by rfl) (fun _ _ _ h => h) (Below.refl wr.heap.size wr).drew (fun W hW => by go_simp; all_goals first | with_reducible rfl | rfl) ?_
          simp only [List.getElem_toArray, List.getElem_cons_zero, List.getElem_cons_succ, Act.put, List.setIfInBounds_toArray, List.set_cons_succ, List.set_cons_zero]
          refine wpIn_takeV 9 [10, 11, 13, 14, 15, 16] (.pointer (some ⟨s, 0, none⟩)) rfl (by kernel_rfl) (by kernel_rfl) (by kernel_rfl) (by kernel_rfl) (by kernel_rfl) (by kernel_rfl) (by kernel_rfl) (by rfl) (fun _ _ _ h => h) (Below.refl wr.heap.size wr).drew (fun W hW => by go_simp; all_goals first | with_reducible rfl | rfl) ?_
          simp only [List.getElem_toArray, List.getElem_cons_zero, List.getElem_cons_succ, Act.put, List.setIfInBounds_toArray, List.set_cons_succ, List.set_cons_zero]
          refine wpIn_takeV 10 [11, 13, 14, 15, 16] (.pointer (some ⟨s, 6, none⟩)) rfl (by kernel_rfl) (by kernel_rfl) (by kernel_rfl) (by kernel_rfl) (by kernel_rfl) (by kernel_rfl) (by kernel_rfl) (by rfl) (fun _ _ _ h => h) (Below.refl wr.heap.size wr).drew (fun W hW => by go_simp; all_goals first | with_reducible rfl | rfl) ?_
          simp only [List.getElem_toArray, List.getElem_cons_zero, List.getElem_cons_succ, Act.put, List.setIfInBounds_toArray, List.set_cons_succ, List.set_cons_zero]
          refine wpIn_takeV 11 [13, 14, 15, 16] (.slice (some ⟨gp, 0, none⟩) P.length cp) rfl (by kernel_rfl) (by kernel_rfl) (by kernel_rfl) (by kernel_rfl) (by kernel_rfl) (by kernel_rfl) (by kernel_rfl) (by rfl) (fun _ _ _ h => h) (Below.refl wr.heap.size wr).drew (fun W hW => by have hc := (hW.cell (p := ⟨s, 6, none⟩) hsw).trans C6.out; go_simp; all_goals first | with_reducible rfl | rfl) ?_
          simp only [List.getElem_toArray, List.getElem_cons_zero, List.getElem_cons_succ, Act.put, List.setIfInBounds_toArray, List.set_cons_succ, List.set_cons_zero]
          refine wpIn_takeV 12 [13, 14, 15, 16] (.int .i64 (i : Int)) rfl (by kernel_rfl) (by kernel_rfl) (by kernel_rfl) (by kernel_rfl) (by kernel_rfl) (by kernel_rfl) (by kernel_rfl) (by rfl) (fun _ _ _ h => h) (Below.refl wr.heap.size wr).drew (fun W hW => by go_simp; all_goals first | with_reducible rfl | rfl) ?_
          simp only [List.getElem_toArray, List.getElem_cons_zero, List.getElem_cons_succ, Act.put, List.setIfInBounds_toArray, List.set_cons_succ, List.set_cons_zero]
          refine wpIn_takeV 13 [14, 15, 16] (.pointer (some ⟨gp, i * 14, none⟩)) rfl (by kernel_rfl) (by kernel_rfl) (by kernel_rfl) (by kernel_rfl) (by kernel_rfl) (by kernel_rfl) (by kernel_rfl) (by rfl) (fun _ _ _ h => h) (Below.refl wr.heap.size wr).drew (fun W hW => by go_simp; all_goals first | with_reducible rfl | rfl) ?_
          simp only [List.getElem_toArray, List.getElem_cons_zero, List.getElem_cons_succ, Act.put, List.setIfInBounds_toArray, List.set_cons_succ, List.set_cons_zero]
          refine wpIn_takeV 14 [15, 16] (.agg (pageV p r).toArray) rfl (by kernel_rfl) (by kernel_rfl) (by kernel_rfl) (by kernel_rfl) (by kernel_rfl) (by kernel_rfl) (by kernel_rfl) (by rfl) (fun _ _ _ h => h) ((Below.refl wr.heap.size wr).drew) (fun W hW => exec_load_at PageT _ rfl gp (i * 14) rfl W (pageV p r).toArray _ (fun j v hv => (hW.cell (p := ⟨gp, i * 14 + j, none⟩) hgp).trans (CP.out j v hv)) Tryz.underlying108 rfl (by kernel_rfl)) ?_
          simp only [List.getElem_toArray, List.getElem_cons_zero, List.getElem_cons_succ, Act.put, List.setIfInBounds_toArray, List.set_cons_succ, List.set_cons_zero]
          refine wpIn_one 15 rfl (by kernel_rfl) (fun _ => (Below.refl wr.heap.size wr).drew) (by rfl) ?_
          go_simp
          go_at_call 43
          refine (dBytes_any (M := OneM s) p r _ (HPR.out.go ((Below.refl _ _).drew))).mono ?_
          rintro e w4 ⟨rfl, hb4⟩
          have S4 := Lib.hid ((S.out.go ((Below.refl _ _).drew)).go hb4)
          have hB4 : Below wr.heap.size wr w4 := ((Below.refl wr.heap.size wr).drew).trans hb4
          dsimp only
          try simp only [List.getElem_toArray, List.getElem_cons_zero, List.getElem_cons_succ, Act.put, List.setIfInBounds_toArray, List.set_cons_succ, List.set_cons_zero]
          refine wpIn_one 16 rfl (by kernel_rfl) (fun _ => hB4) (by rfl) ?_
          go_simp
          go_at_call 49
          refine (dWrite_any f ([[], []] ++ (P.take i).map Sp.bytes) (i + 2) (Sp.bytes p) _ S4.out.df (by simp) (by simp; omega) (by omega)).mono ?_
          rintro e w5 ⟨rfl, hd5, hk5⟩
          have S5 := Lib.hid (HWV.out ▸ S4.out.write hk5 hd5)
          clear hd5 hk5
          dsimp only
          try simp only [List.getElem_toArray, List.getElem_cons_zero, List.getElem_cons_succ, Act.put, List.setIfInBounds_toArray, List.set_cons_succ, List.set_cons_zero]
          refine wpIn_done (by kernel_rfl) (by kernel_rfl) ?_ _
          go_wp2_with fail
          refine ⟨⟨i + 1, by omega, by go_num, S5⟩, by simp [intOf]; omega⟩
        · obtain rfl : i = P.length := by omega
          have S := Lib.hid (show TgS w wr f s P ([[], []] ++ P.map Sp.bytes) by have := S.out; rwa [List.take_length] at this)
          go_upto_region 15 with (go_at_call 50; refine (dSync_any f ([[], []] ++ P.map Sp.bytes) _ S.out.df (by simp) (by simp; omega)).mono ?_; rintro e w4 ⟨rfl, hd4, hk4⟩; have S4 := Lib.hid (S.out.write hk4 hd4); clear hd4 hk4)
          have c1 : w4.cell? ⟨s, 1, none⟩ = some (.int .i64 ((P.length + 2 : Nat) : Int)) := by
            obtain ⟨_, _, h, _⟩ := S4.out.st
            exact h.bs.cell 1
          clear c5 c6 S
          obtain ⟨np, hnp⟩ : ∃ np : Nat, np = P.length + 2 := ⟨_, rfl⟩
          rw [← hnp] at c1
          have HNP := Lib.hid hnp
          clear hnp
          go_region
          go_wp2_with fail
          refine bodyPost_ret (v := .tuple #[.pointer (some ⟨f, 0, none⟩), .int .i64 (rt : Int), .int .i64 (np : Int)]) (by simp [results, Tryz.results27, go_sem]) rfl ?_
          refine ⟨f, P, by rw [hrt, HNP.out], S4.out.hf, S4.out.df.go (Below.refl _ _).drew, HTA.out, S4.out.hb.drew⟩
end Go.Proofs.YtmcpkhknjdiocaaGreat
namespace Go.Proofs.YtmcpkhknjdiocaaGreat
open Go.RowKit
attribute [local go_sem low] mk_extract
attribute [local go_sem] After.cell After.frozen mk_extract_end ByteArray.mk_append_mk
namespace Sp
theorem find_hit {α : Type} {W : α → Bool} {l : List α} {m : Nat} {d : α} (hm : m < l.length) (h : ∀ j, j < m → W (l.getD j d) = false) (hw : W (l.getD m d) = true) : l.find? W = some (l.getD m d) := by
  have e : l.getD m d = l[m] := by simp [List.getD, hm]
  rw [e] at hw ⊢
  rw [List.find?_eq_some_iff_getElem]
  refine ⟨hw, m, hm, rfl, fun j hj => ?_⟩
  have := h j hj
  rw [show l.getD j d = l[j] by simp [List.getD, show j < l.length by omega]] at this
  simp [this]
theorem find_miss {α : Type} {W : α → Bool} {l : List α} {d : α} (h : ∀ j, j < l.length → W (l.getD j d) = false) : l.find? W = none := by
  rw [List.find?_eq_none]
  intro x hx
  obtain ⟨j, hj, rfl⟩ := List.mem_iff_getElem.1 hx
  have := h j hj
  rw [show l.getD j d = l[j] by simp [List.getD, hj]] at this
  simp [this]
/-- From a leaf on: what will be found, in so many leaves more. -/
def FS (d : Nat) (t : T d) (W : Item → Bool) (res : Option Item) : Nat → Txt → Prop
  | 0, k => ∃ y, (leafOf d t k []).1.find? W = some y ∧ res = some y
  | n + 1, k => (∃ y, (leafOf d t k []).1.find? W = some y ∧ res = some y) ∨ ((leafOf d t k []).1.find? W = none ∧ (leafOf d t k []).2 = [] ∧ res = none) ∨ ((leafOf d t k []).1.find? W = none ∧ (leafOf d t k []).2 ≠ [] ∧ FS d t W res n (leafOf d t k []).2)
theorem FS.start {d : Nat} {top : Bool} {t : T d} {key : Txt} {W : Item → Bool} (h : T.Ok d top t) (hw : Wants W key) : FS d t W ((T.items d t).find? W) 1 key := by
  obtain ⟨h1, h2, h3⟩ := first_law h hw
  cases hf : (leafOf d t key []).1.find? W with
  | some y => exact .inl ⟨y, hf, h1 y hf⟩
  | none =>
    by_cases hb : (leafOf d t key []).2 = []
    · exact .inr (.inl ⟨hf, hb, h2 hf hb⟩)
    · obtain ⟨y, e1, e2⟩ := h3 hf hb
      exact .inr (.inr ⟨hf, hb, y, e1, e2⟩)
theorem FS.hit {d : Nat} {t : T d} {W : Item → Bool} {res : Option Item} {n : Nat} {k : Txt} {y : Item} (h : FS d t W res n k) (hy : (leafOf d t k []).1.find? W = some y) : res = some y := by
  cases n with
  | zero =>
    obtain ⟨z, h1, h2⟩ := h
    rw [h1] at hy
    rw [h2, hy]
  | succ n =>
    rcases h with ⟨z, h1, h2⟩ | ⟨h1, _⟩ | ⟨h1, _⟩
    · rw [h1] at hy
      rw [h2, hy]
    · rw [h1] at hy; cases hy
    · rw [h1] at hy; cases hy
theorem FS.miss {d : Nat} {t : T d} {W : Item → Bool} {res : Option Item} {n : Nat} {k : Txt} (h : FS d t W res n k) (hy : (leafOf d t k []).1.find? W = none) :
    ((leafOf d t k []).2 = [] ∧ res = none) ∨ ((leafOf d t k []).2 ≠ [] ∧ ∃ n', n = n' + 1 ∧ FS d t W res n' (leafOf d t k []).2) := by
  cases n with
  | zero =>
    obtain ⟨z, h1, h2⟩ := h
    rw [h1] at hy; cases hy
  | succ n =>
    rcases h with ⟨z, h1, h2⟩ | ⟨_, h1, h2⟩ | ⟨_, h1, h2⟩
    · rw [h1] at hy; cases hy
    · exact .inl ⟨h1, h2⟩
    · exact .inr ⟨h1, n, rfl, h2⟩
end Sp
end Go.Proofs.YtmcpkhknjdiocaaGreat
