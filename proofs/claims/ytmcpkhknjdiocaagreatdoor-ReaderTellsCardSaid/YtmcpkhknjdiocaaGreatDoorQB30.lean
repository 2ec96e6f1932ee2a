/- The document's file: a page is written. The document's file: a page of it is read (as in Ia; never both in one claim). The document's choose: the meta that can be seen. The document's reader: steps that choose, and look again. Printed by gen_lm.py. -/
import Derived.Test.YtmcpkhknjdiocaaGreatDoorQB13
import Derived.Test.YtmcpkhknjdiocaaGreatDoorQB19
import Derived.Test.YtmcpkhknjdiocaaGreatDoorQB20
import Derived.Test.YtmcpkhknjdiocaaGreatDoorQB25
import Derived.Test.YtmcpkhknjdiocaaGreatDoorQB29
set_option linter.unusedSimpArgs false
set_option linter.unusedVariables false
namespace Go.Proofs.YtmcpkhknjdiocaaGreatDoor
open Go.RowKit
attribute [local go_sem low] mk_extract
attribute [local go_sem] After.cell After.frozen mk_extract_end ByteArray.mk_append_mk
namespace Sp
theorem withI_mem {n x : Int} : ∀ {l : List Int}, x ∈ withI n l → x = n ∨ x ∈ l
  | [], h => by
    unfold withI at h
    exact .inl (by simpa using h)
  | a :: l, h => by
    unfold withI at h
    split at h
    · exact .inr h
    · split at h
      · rcases List.mem_cons.1 h with h | h
        · exact .inl h
        · exact .inr h
      · rcases List.mem_cons.1 h with h | h
        · exact .inr (by simp [h])
        · rcases withI_mem h with h | h
          · exact .inl h
          · exact .inr (by simp [h])
theorem withI_rise {n : Int} : ∀ {l : List Int}, l.Pairwise (· < ·) → (withI n l).Pairwise (· < ·)
  | [], _ => by simp [withI]
  | a :: l, h => by
    obtain ⟨h1, h2⟩ := List.pairwise_cons.1 h
    unfold withI
    split
    · exact h
    · split
      · refine List.pairwise_cons.2 ⟨fun x hx => ?_, h⟩
        rcases List.mem_cons.1 hx with rfl | hx
        · assumption
        · have := h1 x hx; omega
      · refine List.pairwise_cons.2 ⟨fun x hx => ?_, withI_rise h2⟩
        rcases withI_mem hx with rfl | hx
        · omega
        · exact h1 x hx
theorem RowOk.with_ {n : Int} {l : List Int} (h : RowOk l) (h0 : 0 ≤ n) (h4 : n < 400) : RowOk (withI n l) :=
  ⟨withI_rise h.1, fun x hx => by
    rcases withI_mem hx with rfl | hx
    · exact ⟨h0, h4⟩
    · exact h.2 x hx⟩
/-- A row of pages with one set at a place; what lies between is empty. -/
def writeV (V : List Txt) (i : Nat) (s : Txt) : List Txt := (V ++ List.replicate (i + 1 - V.length) []).set i s
end Sp
theorem own_ints {w : World} {base n c : Nat} {A : Option Addr} {e : TypeId} {xs : List Value} (h : w.ownsRow base e 1 (.slice A n c) n xs) (hn : n ≤ 1000000) : Row w NoM A xs ∧ n ≤ c ∧ (A = none → c = 0) := by
  rcases h.2 with ⟨hv, hx⟩ | ⟨g, cap, cur, hv, _⟩
  · simp only [Value.slice.injEq] at hv
    obtain ⟨rfl, rfl, rfl⟩ := hv
    have hl : xs = [] := List.length_eq_zero_iff.1 (by have := h.1; omega)
    exact ⟨by rw [hl]; exact Row.nil_, Nat.le_refl _, fun _ => rfl⟩
  · simp only [Value.slice.injEq] at hv
    obtain ⟨rfl, _, rfl⟩ := hv
    exact ⟨own_to_rowM h (fun _ _ h => h) hn, (own_cap h).1, fun e => by cases e⟩
/-- With, over a row of its own block. -/
theorem dWithO_any (L : List Int) (u : Value) (n : Int) (w : World) (h : w.ownsRow 0 IntT 1 u L.length (L.map iv)) (hn : L.length ≤ 100000) :
    Calls Tryz.prog 54 #[u, .int .i64 n] w fun e w' => ∃ u', e = .returned u' ∧ w'.ownsRow 0 IntT 1 u' (Sp.withI n L).length ((Sp.withI n L).map iv) ∧ Below w.heap.size w w' := by
  obtain ⟨A, c, rfl⟩ := own_form h
  obtain ⟨h1, h2, h3⟩ := own_ints h (by omega)
  refine (dWith_any (M := NoM) L A c n w h1 hn h2 h3).mono ?_
  rintro e w' ⟨A', c', rfl, _, _, _, h4, hb⟩
  refine ⟨_, rfl, ?_, hb⟩
  rcases h4 with h4 | ⟨h4, rfl, rfl⟩
  · exact own_less h4 (Nat.zero_le _)
  · rw [h4]
    exact own_chg2 (S := NoM) h (Chg.of_below hb) (fun _ _ h => h)
theorem DfAt.blk {W : World} {f : Nat} {V : List Txt} (h : DfAt W f V) : ∃ cs, Blk W f DFileT cs := by
  obtain ⟨v, dA, dn, dc, u, h1, _⟩ := h.bf
  exact ⟨_, h1⟩
/-- How many a slice has. -/
def lenOf (v : Value) : Nat := match v with | .slice _ n _ => n | _ => 0
/-- What Write holds between its rounds: the file's block; its own row; the loose pages. -/
structure WrS (w W : World) (f : Nat) (U : List Txt) (X : Option Addr) (n c : Nat) (u : Value) (L : List Int) : Prop where
  bf : ∃ v dA dn dc, Blk W f DFileT #[v, .slice dA dn dc, u]
  lo : W.ownsRow 0 IntT 1 u L.length (L.map iv)
  ok : Sp.RowOk L
  own : W.ownsRow w.heap.size StrT 1 (.slice X n c) n (U.map tv)
  ck : Chg (OneM f) w W
  hf : f < w.heap.size
  hn : U.length = n
theorem WrS.go {w W W' : World} {f n c : Nat} {U : List Txt} {X : Option Addr} {u : Value} {L : List Int} (S : WrS w W f U X n c u L) (hb : Below W.heap.size W W') : WrS w W' f U X n c u L := by
  obtain ⟨v, dA, dn, dc, h1⟩ := S.bf
  exact ⟨⟨v, dA, dn, dc, h1.below hb h1.lt⟩, own_chg2 (S := NoM) S.lo (Chg.of_below hb) (fun _ _ h => h), S.ok, own_chg2 (S := NoM) S.own (Chg.of_below hb) (fun _ _ h => h), S.ck.trans (Chg.of_below hb), S.hf, S.hn⟩
/-- The loose pages' row is another one. -/
theorem WrS.loose {w W : World} {f n c : Nat} {U : List Txt} {X : Option Addr} {u u' : Value} {L L' : List Int} (S : WrS w W f U X n c u L) (hL : Sp.RowOk L') (hr : W.ownsRow 0 IntT 1 u' L'.length (L'.map iv)) :
    WrS w (W.setCell ⟨f, 2, none⟩ u') f U X n c u' L' := by
  obtain ⟨v, dA, dn, dc, h1⟩ := S.bf
  have hk := Chg.set1 W f 2 u'
  exact ⟨⟨v, dA, dn, dc, h1.set_ 2 _⟩, own_chg2 hr hk (fun k hk' h' => own_not hr (t := DFileT) (by decide) k hk' _ ((show k = f from h').symm ▸ h1)), hL, own_chg2 S.own hk (fun k hk' h' => own_not S.own (t := DFileT) (by decide) k hk' _ ((show k = f from h').symm ▸ h1)), S.ck.trans hk, S.hf, S.hn⟩
/-- One more page in the row. -/
theorem WrS.push {w W W' : World} {f n c : Nat} {U : List Txt} {X X' : Option Addr} {c' : Nat} {s : Txt} {u : Value} {L : List Int} (S : WrS w W f U X n c u L) (ho : W'.ownsRow w.heap.size StrT 1 (.slice X' (n + 1) c') (n + 1) (U.map tv ++ [tv s])) (hg : W.grownBy W' (Value.slice X n c).ownBlock) :
    WrS w W' f (U ++ [s]) X' (n + 1) c' u L := by
  obtain ⟨v, dA, dn, dc, h1⟩ := S.bf
  have hk : Chg (fun k => (Value.slice X n c).ownBlock = some k) W W' := Chg.of_grown hg (fun k hk => .inl hk)
  have hk2 : Chg (OneM f) w W' := by
    refine ⟨hk.os.trans S.ck.os, hk.tape.trans S.ck.tape, hk.output.trans S.ck.output, Nat.le_trans S.ck.size hk.size, fun i hi hs => (hk.block i (Nat.lt_of_lt_of_le hi S.ck.size) fun e => ?_).trans (S.ck.block i hi hs)⟩
    obtain ⟨g, cp, rfl, hg'⟩ : ∃ g cp, X = some ⟨g, 0, none⟩ ∧ cp = c := by
      rcases S.own.2 with ⟨h, _⟩ | ⟨g, cap, cur, h, _⟩
      · simp only [Value.slice.injEq] at h
        obtain ⟨rfl, _, _⟩ := h
        simp [Value.ownBlock] at e
      · simp only [Value.slice.injEq] at h
        exact ⟨g, c, h.1, rfl⟩
    have := own_ge S.own
    simp only [Value.ownBlock, Option.some.injEq] at e
    omega
  refine ⟨⟨v, dA, dn, dc, h1.chg hk fun e => own_not S.own (t := DFileT) (by decide) f e _ h1⟩, own_chg2 S.lo hk (fun k hk' e => ?_), S.ok, by rw [List.map_append]; exact ho, hk2, S.hf, by rw [List.length_append, S.hn]; rfl⟩
  obtain ⟨g, cur, hb⟩ : ∃ (g : Nat) (cur : Array Value), k = g ∧ Blk W g StrT cur := by
    rcases S.own.2 with ⟨h, _⟩ | ⟨g, cap, cur, h, _, hh, _⟩
    · rw [h] at e; simp [Value.ownBlock] at e
    · rw [h] at e
      exact ⟨g, cur, by simpa [Value.ownBlock] using e.symm, hh⟩
  obtain ⟨rfl, hb⟩ := hb
  exact own_not S.lo (t := StrT) (by decide) k hk' _ hb
theorem WrS.set {w W : World} {f n c : Nat} {U : List Txt} {g : Nat} {u : Value} {L : List Int} (S : WrS w W f U (some ⟨g, 0, none⟩) n c u L) (i : Nat) (s : Txt) : WrS w (W.setCell ⟨g, i, none⟩ (.string ⟨s.toArray⟩)) f (U.set i s) (some ⟨g, 0, none⟩) n c u L := by
  obtain ⟨v, dA, dn, dc, h1⟩ := S.bf
  have hgf : f ≠ g := fun e => own_not S.own (t := DFileT) (by decide) g rfl _ (e ▸ h1)
  have hge := own_ge S.own
  have hk := Chg.set1 W g i (.string ⟨s.toArray⟩)
  obtain ⟨cur, hcur, _⟩ := own_blk S.own
  have ho := own_set S.own (j := i) (.string ⟨s.toArray⟩)
  rw [show (U.map tv).set i (.string ⟨s.toArray⟩) = (U.set i s).map tv by rw [List.map_set]; rfl] at ho
  refine ⟨⟨v, dA, dn, dc, h1.chg hk hgf⟩, own_chg2 S.lo hk (fun k hk' e => own_not S.lo (t := StrT) (by decide) k hk' _ ((show k = g from e).symm ▸ hcur)), S.ok, ho, ?_, S.hf, by rw [List.length_set]; exact S.hn⟩
  exact ⟨hk.os.trans S.ck.os, hk.tape.trans S.ck.tape, hk.output.trans S.ck.output, Nat.le_trans S.ck.size hk.size, fun j hj hs => (hk.block j (Nat.lt_of_lt_of_le hj S.ck.size) fun e => by have : j = g := e; omega).trans (S.ck.block j hj hs)⟩
theorem WrS.done {w W : World} {f n c : Nat} {U : List Txt} {X : Option Addr} {u u' : Value} {L L' : List Int} (S : WrS w W f U X n c u L) (hL : Sp.RowOk L') (hr : W.ownsRow 0 IntT 1 u' L'.length (L'.map iv)) :
    DfB ((W.setCell ⟨f, 0, none⟩ (.slice X n c)).setCell ⟨f, 2, none⟩ u') w.heap.size f U ∧ Chg (OneM f) w ((W.setCell ⟨f, 0, none⟩ (.slice X n c)).setCell ⟨f, 2, none⟩ u') := by
  obtain ⟨v, dA, dn, dc, h1⟩ := S.bf
  have hk := (Chg.set1 W f 0 (.slice X n c)).trans (Chg.set1 (W.setCell ⟨f, 0, none⟩ (.slice X n c)) f 2 u')
  have hn := S.hn
  subst hn
  exact ⟨⟨_, dA, dn, dc, _, (h1.set_ 0 _).set_ 2 _, own_chg2 S.own hk (fun k hk' h' => own_not S.own (t := DFileT) (by decide) k hk' _ ((show k = f from h').symm ▸ h1)), L', hL, own_chg2 hr hk (fun k hk' h' => own_not hr (t := DFileT) (by decide) k hk' _ ((show k = f from h').symm ▸ h1))⟩, S.ck.trans hk⟩
set_option maxRecDepth 100000 in
set_option maxHeartbeats 1600000 in
theorem dWriteB_any (f : Nat) (V : List Txt) (i : Nat) (s : Txt) (w : World) (h : DfAt w f V) (h0 : 0 < V.length) (hn : V.length ≤ 400) (hi : i < 400) :
    Calls Tryz.prog 16 #[.pointer (some ⟨f, 0, none⟩), .int .i64 (i : Int), .string ⟨s.toArray⟩] w fun e w' => e = .returned (.int .i64 0) ∧ DfB w' w.heap.size f (Sp.writeV V i s) ∧ Chg (OneM f) w w' := by
  obtain ⟨i0, hii0, hz0, hz1, hz2⟩ := info_parts info_str
  obtain ⟨v, dA, dn, dc, u, h1, h2, L, h3, h4⟩ := h.bf
  obtain ⟨g, cap, rfl, hg, hcg⟩ := own_some h2 h0
  have HD := Lib.hid (show ∀ W X c, Below w.heap.size w W → W.ownsRow w.heap.size StrT 1 (.slice X V.length c) V.length (V.map tv) → WrS w W f V X V.length c u L from fun W X c hb ho => ⟨⟨_, _, _, _, h1.below hb h1.lt⟩, own_chg2 (S := NoM) h4 (Chg.of_below hb) (fun _ _ h => h), h3, ho, Chg.of_below hb, h1.lt, rfl⟩)
  have c0 : w.cell? ⟨f, 0, none⟩ = some (.slice (some ⟨g, 0, none⟩) V.length cap) := h1.cell 0
  have HLO := Lib.hid (show ∀ u ∈ V.map tv, u.oneCell' = true from fun u hu => by obtain ⟨s, _, rfl⟩ := List.mem_map.1 hu; rfl)
  have HCG := Lib.hid (fun (j : Nat) (u : Value) (hu : (V.map tv)[j]? = some u) => show w.cell? ((⟨g, 0, none⟩ : Addr).add j) = some u by rw [Go.WideShapes.add_plain, Nat.zero_add]; exact hcg j u hu)
  have HI1 := Lib.hid (show ∀ u ∈ [tv []], u.oneCell' = true from fun u hu => by rw [List.mem_singleton.1 hu]; rfl)
  have hl1 : (V.map tv).length = V.length * 1 := by simp
  have hi0 : ¬ ((i : Int) < 0) := by omega
  have hi4 : ¬ ((400 : Int) ≤ (i : Int)) := by omega
  clear h h1 h2 h3 h4 hcg
  go_enter Tryz.func16, Tryz.ntmps16
  go_upto_region 4 with (at_builtin; refine wpList_append_own _ rfl (.const (.slice none 0 0)) (.tmp 17) 26 rfl w.heap.size StrT i0 _ 1 16 Tryz.underlying26 hii0 hz0 hz1 hz2 rfl (by decide) (.slice none 0 0) 0 [] rfl (own_nil _ _ _ _) ⟨g, 0, none⟩ V.length cap (V.map tv) rfl hl1 HCG.out HLO.out (by simp only [maxLen]; omega) (by omega) (Nat.le_refl _) ?_; (intro v2 w2 hown2 hgr2 hnil2; rw [Nat.zero_add, List.nil_append] at hown2; obtain ⟨X2, c2, rfl⟩ := own_form hown2; have HW := Lib.hid (HD.out _ _ _ (grown_below hgr2) hown2); clear hgr2 hnil2 hown2))
  clear HD HCG HLO c0
  go_wp2_with fail
  go_loopw [7] (fun vv wr => ∃ (j : Nat) (X : Option Addr) (c : Nat) (u' : Value) (L' : List Int), j ≤ i + 1 - V.length ∧ vv = .slice X (V.length + j) c ∧ Hid (WrS w wr f (V ++ List.replicate j []) X (V.length + j) c u' L')) (fun vv _ => i + 1 - lenOf vv)
  case atStart => exact ⟨0, X2, c2, u, L, Nat.zero_le _, rfl, by simpa using HW⟩
  case round =>
    obtain ⟨j, X, c3, u', L', hj, rfl, S⟩ := hrel
    clear HW
    obtain ⟨n, hnj⟩ : ∃ n, n = V.length + j := ⟨_, rfl⟩
    rw [← hnj] at S ⊢
    have HNJ := Lib.hid hnj
    have hn8 : n ≤ 801 := by omega
    clear hnj
    obtain ⟨v', _, _, _, hb⟩ := S.out.bf
    have c2 : wr.cell? ⟨f, 2, none⟩ = some u' := hb.cell 2
    clear hb
    by_cases hlt : n ≤ i
    · have hlt' : (n : Int) ≤ (i : Int) := by omega
      go_upto_region 6 with (go_at_call 54; refine (dWithO_any L' u' (n : Int) _ S.out.lo (by have := S.out.ok.len; omega)).mono ?_; rintro e w2 ⟨u2, rfl, ho, hb2⟩; obtain ⟨A2, cc2, rfl⟩ := own_form ho; have S2 := Lib.hid (S.out.go hb2); have HO := Lib.hid ho; clear ho hb2; obtain ⟨v2, _, _, _, hbf⟩ := S2.out.bf; have e2 : w2.cell? ⟨f, 2, none⟩ = some u' := hbf.cell 2; have k2 := hbf.frozen 2; clear hbf)
      refine wp_gen (fun W => WrS w W f (V ++ List.replicate j []) X n c3 (.slice A2 (Sp.withI (n : Int) L').length cc2) (Sp.withI (n : Int) L')) (S2.out.loose (S2.out.ok.with_ (by omega) (by omega)) HO.out) ?_
      clear S2 HO e2 k2 S c2
      generalize Sp.withI (n : Int) L' = L2 at *
      intro w3 hS
      have S3 := Lib.hid hS
      have hz3 := hS.ck.size
      clear hS
      go_wp2_with (at_builtin; refine wpList_append_own _ rfl (.tmp 33) (.tmp 34) 26 rfl w.heap.size StrT i0 _ 1 16 Tryz.underlying26 hii0 hz0 hz1 hz2 rfl (by decide) (.slice X n c3) n ((V ++ List.replicate j []).map tv) rfl (own_chg2 (S := NoM) S3.out.own ((Chg.refl _ _).alloc _) (fun _ _ h => h)) ⟨w3.heap.size, 0, none⟩ 1 1 [tv []] rfl rfl (cells_new w3 StrT [tv []]) HI1.out (by simp only [maxLen]; omega) (by omega) (by rw [World.size_alloc]; omega) ?_; (intro v4 w4 hown4 hgr4 hnil4; obtain ⟨X4, c4, rfl⟩ := own_form hown4; have S4 := Lib.hid ((S3.out.go ((Below.refl _ _).alloc (Nat.le_refl _) _)).push hown4 hgr4); clear hown4 hgr4 hnil4))
      refine ⟨⟨j + 1, X4, c4, .slice A2 L2.length cc2, L2, by have := HNJ.out; omega, by rw [HNJ.out]; rfl, ?_⟩, by have := HNJ.out; simp [lenOf]; omega⟩
      rw [show V ++ List.replicate (j + 1) [] = (V ++ List.replicate j []) ++ [[]] by rw [List.replicate_succ', List.append_assoc], show V.length + (j + 1) = n + 1 by rw [HNJ.out]; omega]
      exact S4
    · have hlt' : ¬ ((n : Int) ≤ (i : Int)) := by omega
      have hjj : j = i + 1 - V.length := by have := HNJ.out; omega
      subst hjj
      have hni : i < n := by omega
      have hnI : (i : Int) < (n : Int) := by omega
      obtain ⟨gX, capX, hX, _, _⟩ := own_some S.out.own (by omega)
      simp only [Value.slice.injEq] at hX
      obtain ⟨rfl, _, rfl⟩ := hX
      obtain ⟨hcj, hfj⟩ := own_at S.out.own hni
      generalize ((V ++ List.replicate (i + 1 - V.length) []).map tv).getD i undef = ui at *
      go_upto_region 8 with fail
      have S2 := Lib.hid (show WrS w _ f (Sp.writeV V i s) (some ⟨gX, 0, none⟩) n c3 u' L' from S.out.set i s)
      refine wp_gen (fun W => WrS w W f (Sp.writeV V i s) (some ⟨gX, 0, none⟩) n c3 u' L') S2.out ?_
      clear S2 S c2 hcj hfj
      intro w3 hS
      have S3 := Lib.hid hS
      obtain ⟨v3, _, _, _, hbf⟩ := hS.bf
      have c2 : w3.cell? ⟨f, 2, none⟩ = some u' := hbf.cell 2
      have hfw3 := hbf.lt
      clear hS hbf
      go_wp2_with (go_at_call 54; refine (dWithO_any L' u' (i : Int) _ S3.out.lo (by have := S3.out.ok.len; omega)).mono ?_; rintro e w4 ⟨u2, rfl, ho, hb2⟩; obtain ⟨A2, cc2, rfl⟩ := own_form ho; have S4 := Lib.hid (S3.out.go hb2); have HO := Lib.hid ho; clear ho hb2; obtain ⟨v2, _, _, _, hbf⟩ := S4.out.bf; have e0 : w4.cell? ⟨f, 0, none⟩ = some v2 := hbf.cell 0; have k0 := hbf.frozen 0; have e2 : w4.cell? ⟨f, 2, none⟩ = some u' := hbf.cell 2; have k2 := hbf.frozen 2; clear hbf)
      go_ret
      obtain ⟨q1, q2⟩ := S4.out.done (S4.out.ok.with_ (by omega) (by omega)) HO.out
      exact ⟨rfl, q1, q2⟩
end Go.Proofs.YtmcpkhknjdiocaaGreatDoor
namespace Go.Proofs.YtmcpkhknjdiocaaGreatDoor
open Go.RowKit
attribute [local go_sem low] mk_extract
attribute [local go_sem] After.cell After.frozen mk_extract_end ByteArray.mk_append_mk
set_option maxRecDepth 100000 in
set_option maxHeartbeats 1600000 in
theorem dAt_any (V : List Txt) (A : Option Addr) (c : Nat) {M : Nat → Prop} (i : Int) (w : World) (hV : Txts w M A V) :
    Calls Tryz.prog 118 #[.slice A V.length c, .int .i64 i] w fun e w' => e = .returned (.string ⟨(Sp.atV V i).toArray⟩) ∧ w = w' := by
  by_cases h0 : i < 0
  · have HV := Lib.hid (show Sp.atV V i = [] by unfold Sp.atV; rw [if_pos h0])
    rw [HV.out]
    clear hV
    go_enter Tryz.func118, Tryz.ntmps118
    go_wp2_with fail
    go_ret
    exact ⟨rfl, rfl⟩
  · obtain ⟨j, rfl⟩ := Int.eq_ofNat_of_zero_le (by omega : 0 ≤ i)
    by_cases h1 : j < V.length
    · obtain ⟨b, off, rfl, hb, hc⟩ := hV.at_ h1
      have hcj := hc j h1
      have HV := Lib.hid (show Sp.atV V j = V.getD j [] by unfold Sp.atV; rw [if_neg h0]; rfl)
      rw [HV.out]
      clear hV hc
      generalize V.getD j [] = s at *
      go_enter Tryz.func118, Tryz.ntmps118
      go_wp2_with fail
      go_ret
      exact ⟨rfl, rfl⟩
    · have HV := Lib.hid (show Sp.atV V j = [] by unfold Sp.atV; rw [if_neg h0]; exact (List.getD_eq_getElem?_getD ..).trans (by rw [List.getElem?_eq_none (by simpa using h1)]; rfl))
      rw [HV.out]
      clear hV
      have h2 : (V.length : Int) ≤ (j : Int) := by omega
      go_enter Tryz.func118, Tryz.ntmps118
      go_wp2_with fail
      go_ret
      exact ⟨rfl, rfl⟩
set_option maxRecDepth 100000 in
set_option maxHeartbeats 1600000 in
theorem dFileRead_any (f : Nat) (V : List Txt) (i : Int) (w : World) (h : DfAt w f V) (hn : V.length ≤ 400) :
    Calls Tryz.prog 89 #[.pointer (some ⟨f, 0, none⟩), .int .i64 i] w fun e w' => e = .returned (.string ⟨(Sp.atV V i).toArray⟩) ∧ w = w' := by
  obtain ⟨v, dA, dn, dc, u, h1, h2, _⟩ := h.bf
  obtain ⟨A, c, rfl⟩ := own_form h2
  obtain ⟨hr, _, _⟩ := own_ints h2 (by omega)
  have c0 : w.cell? ⟨f, 0, none⟩ = some (.slice A V.length c) := h1.cell 0
  have HR := Lib.hid (show Txts w NoM A V from hr)
  clear h h1 h2 hr
  go_enter Tryz.func89, Tryz.ntmps89
  go_wp2_with (go_at_call 118; refine (dAt_any V A c i _ HR.out).mono ?_; rintro e w2 ⟨rfl, rfl⟩)
  go_ret
  exact ⟨rfl, rfl⟩
/-- The result's block, the meta that counts in a block of its own. -/
structure CdS (w : World) (k : Nat) (m : Sp.Mt) (W : World) : Prop where
  hb : Below w.heap.size w W
  br : Blk W w.heap.size MetaT #[.int .u64 0, .int .i64 0, .int .i64 0, .int .i64 0, .int .i64 0, .int .i64 0]
  bo : Blk W k MetaT (mtV m).toArray
set_option maxRecDepth 100000 in
set_option maxHeartbeats 6400000 in
theorem dSee_any (f : Nat) (most : Int) (V : List Txt) (w : World) (hf : DfAt w f V) (hn : V.length ≤ 400) (hsz : ∀ s ∈ V, s.length ≤ 4611686018427387904) :
    Calls Tryz.prog 58 #[.pointer (some ⟨f, 0, none⟩), .int .i64 most] w fun e w' => e = .returned (.tuple #[.agg (mtV (Sp.see most (Sp.atV V 0) (Sp.atV V 1)).1).toArray, .int .i64 (erN (Sp.see most (Sp.atV V 0) (Sp.atV V 1)).2)]) ∧ Below w.heap.size w w' := by
  have hal : Below w.heap.size w (w.alloc (.cells #[.int .u64 0, .int .i64 0, .int .i64 0, .int .i64 0, .int .i64 0, .int .i64 0] MetaT)) := (Below.refl _ _).alloc (Nat.le_refl _) _
  have HB0 := Lib.hid hal
  have HF0 := Lib.hid (hf.go hal)
  have HZ0 := Lib.hid (show Blk (w.alloc (.cells #[.int .u64 0, .int .i64 0, .int .i64 0, .int .i64 0, .int .i64 0, .int .i64 0] MetaT)) w.heap.size MetaT #[.int .u64 0, .int .i64 0, .int .i64 0, .int .i64 0, .int .i64 0, .int .i64 0] from Blk.new w _ _)
  have la := atV_len hsz 0
  have lb := atV_len hsz 1
  have HSE := Lib.hid (show Sp.see most (Sp.atV V 0) (Sp.atV V 1) = match Sp.choose (Sp.atV V 0) (Sp.atV V 1) with | none => (Sp.mt0, some 12) | some m => (m, if most < m.last then some 19 else none) from rfl)
  clear hf hal
  generalize Sp.see most (Sp.atV V 0) (Sp.atV V 1) = sw at *
  have HA := Lib.hid (fun W h => dFileRead_any f V 0 W h hn)
  have HBB := Lib.hid (fun W h => dFileRead_any f V 1 W h hn)
  generalize Sp.atV V 0 = a at *
  generalize Sp.atV V 1 = b at *
  have HC := Lib.hid (fun W => dChoose_any a b W la lb)
  generalize Sp.choose a b = o at *
  go_enter Tryz.func58, Tryz.ntmps58
  go_upto_region 2 with (first
      | (go_at_call_of 89 (0 : Int); refine (HA.out _ HF0.out).mono ?_; rintro e w2 ⟨rfl, rfl⟩)
      | (go_at_call 89; refine (HBB.out _ HF0.out).mono ?_; rintro e w2 ⟨rfl, rfl⟩)
      | (go_at_call 88; refine (HC.out _).mono ?_; rintro e w2 ⟨rfl, hb2⟩; rw [show dchooseV o = .tuple #[.agg (mtV (o.getD Sp.mt0)).toArray, .int .i64 (erN (Sp.errOf o))] by cases o <;> rfl]; have HB2 := Lib.hid hb2; clear hb2)
      | (refine wpList_new MetaT _ _ rfl rfl rfl rfl rfl rfl _ rfl (of_decide_eq_true (by kernel_rfl)) (by kernel_rfl) (by kernel_rfl) (by kernel_rfl) ?_))
  have hal2 : Below w2.heap.size w2 (w2.alloc (.cells (mtV (o.getD Sp.mt0)).toArray MetaT)) := (Below.refl _ _).alloc (Nat.le_refl _) _
  have hal3 := HB2.out.trans (hal2.mono HB2.out.size)
  refine wp_gen (fun W => CdS w w2.heap.size (o.getD Sp.mt0) W) ⟨HB0.out.trans (hal3.mono HB0.out.size), HZ0.out.below hal3 HZ0.out.lt, Blk.new w2 _ _⟩ ?_
  clear HB0 HF0 HZ0 HA HBB HC HB2 hal2 hal3
  generalize w2.heap.size = k at *
  intro W1 hs
  have S := Lib.hid hs
  clear hs
  rcases o with _ | mm
  · simp only [Option.getD_none, Sp.errOf, erN] at *
    have HS2 := Lib.hid (show sw = (Sp.mt0, some 12) from HSE.out)
    clear HSE
    go_wp2_with (first
      | (refine wpList_row MetaT _ rfl k rfl rfl MetaT _ (0, 0) _ S.out.bo Tryz.underlying49 rfl rfl ?_)
      | (refine wpList_store_row rfl MetaT _ _ rfl w.heap.size _ rfl rfl MetaT _ S.out.br (by kernel_rfl) rfl (by kernel_rfl) ?_))
    obtain ⟨z0, z1, z2, z3, z4, z5⟩ := (S.out.br.row (ds := #[.int .u64 0, .int .i64 0, .int .i64 0, .int .i64 0, .int .i64 0, .int .i64 0])).at6
    refine bodyPost_ret (v := .tuple #[.agg (mtV Sp.mt0).toArray, .int .i64 12]) (by simp [results, Tryz.results58, go_sem, mtV, Sp.mt0, Sp.root0, z0, z1, z2, z3, z4, z5]) rfl ⟨by rw [HS2.out]; rfl, below_setRow S.out.hb (Nat.le_refl _) _⟩
  · simp only [Option.getD_some, Sp.errOf, erN] at *
    have c5 : W1.cell? ⟨k, 3, none⟩ = some (.int .i64 mm.main.flags) := S.out.bo.cell 3
    have c5 : W1.cell? ⟨k, 5, none⟩ = some (.int .i64 mm.last) := S.out.bo.cell 5
    by_cases hlt : most < mm.last
    · have HS2 := Lib.hid (show sw = (mm, some 19) from HSE.out.trans (by simp [hlt]))
      clear HSE
      go_wp2_with (first
        | (refine wpList_row MetaT _ rfl k rfl rfl MetaT _ (0, 0) _ S.out.bo Tryz.underlying49 rfl rfl ?_)
        | (refine wpList_store_row rfl MetaT _ _ rfl w.heap.size _ rfl rfl MetaT _ S.out.br (by kernel_rfl) rfl (by kernel_rfl) ?_))
      obtain ⟨z0, z1, z2, z3, z4, z5⟩ := (S.out.br.row (ds := #[.int .u64 mm.txn, .int .i64 mm.main.page, .int .i64 mm.main.count, .int .i64 mm.main.flags, .int .i64 mm.free, .int .i64 mm.last])).at6
      refine bodyPost_ret (v := .tuple #[.agg (mtV mm).toArray, .int .i64 19]) (by simp [results, Tryz.results58, go_sem, mtV, z0, z1, z2, z3, z4, z5]) rfl ⟨by rw [HS2.out]; rfl, below_setRow S.out.hb (Nat.le_refl _) _⟩
    · have HS2 := Lib.hid (show sw = (mm, none) from HSE.out.trans (by simp [hlt]))
      clear HSE
      go_wp2_with (first
        | (refine wpList_row MetaT _ rfl k rfl rfl MetaT _ (0, 0) _ S.out.bo Tryz.underlying49 rfl rfl ?_)
        | (refine wpList_store_row rfl MetaT _ _ rfl w.heap.size _ rfl rfl MetaT _ S.out.br (by kernel_rfl) rfl (by kernel_rfl) ?_))
      obtain ⟨z0, z1, z2, z3, z4, z5⟩ := (S.out.br.row (ds := #[.int .u64 mm.txn, .int .i64 mm.main.page, .int .i64 mm.main.count, .int .i64 mm.main.flags, .int .i64 mm.free, .int .i64 mm.last])).at6
      refine bodyPost_ret (v := .tuple #[.agg (mtV mm).toArray, .int .i64 0]) (by simp [results, Tryz.results58, go_sem, mtV, z0, z1, z2, z3, z4, z5]) rfl ⟨by rw [HS2.out]; rfl, below_setRow S.out.hb (Nat.le_refl _) _⟩
end Go.Proofs.YtmcpkhknjdiocaaGreatDoor
namespace Go.Proofs.YtmcpkhknjdiocaaGreatDoor
open Go.RowKit
attribute [local go_sem low] mk_extract
attribute [local go_sem] After.cell After.frozen mk_extract_end ByteArray.mk_append_mk
theorem DsS.mt {w W : World} {p l : Nat} {wn : Int} {r : Sp.Rdr} {sl : List Sp.Sl} (h : DsS w p l wn r sl W) (hne : p ≠ l) (m : Sp.Mt) : DsS w p l wn { r with mt := m } sl ((((((W.setCell ⟨p, 4, none⟩ (.int .u64 m.txn)).setCell ⟨p, 5, none⟩ (.int .i64 m.main.page)).setCell ⟨p, 6, none⟩ (.int .i64 m.main.count)).setCell ⟨p, 7, none⟩ (.int .i64 m.main.flags)).setCell ⟨p, 8, none⟩ (.int .i64 m.free)).setCell ⟨p, 9, none⟩ (.int .i64 m.last)) :=
  (((((h.put (r' := { r with mt := { r.mt with txn := m.txn } }) hne 4 (.int .u64 m.txn) rfl).put (r' := { r with mt := { r.mt with txn := m.txn, main := { r.mt.main with page := m.main.page } } }) hne 5 (.int .i64 m.main.page) rfl).put (r' := { r with mt := { r.mt with txn := m.txn, main := { r.mt.main with page := m.main.page, count := m.main.count } } }) hne 6 (.int .i64 m.main.count) rfl).put (r' := { r with mt := { r.mt with txn := m.txn, main := m.main } }) hne 7 (.int .i64 m.main.flags) rfl).put (r' := { r with mt := { r.mt with txn := m.txn, main := m.main, free := m.free } }) hne 8 (.int .i64 m.free) rfl).put (r' := { r with mt := m }) hne 9 (.int .i64 m.last) rfl
/-- The reader and the lock, and the meta that was seen. -/
structure DmS (w : World) (p l k : Nat) (wn : Int) (r : Sp.Rdr) (sl : List Sp.Sl) (m : Sp.Mt) (W : World) : Prop where
  s : DsS w p l wn r sl W
  bo : Blk W k MetaT (mtV m).toArray
set_option maxRecDepth 100000 in
set_option maxHeartbeats 1600000 in
theorem dStep2e_any (p l f : Nat) (r : Sp.Rdr) (wn : Int) (sl : List Sp.Sl) (V : List Txt) (w : World) (hr : DRdAt w p r) (hl : DLockAt w l wn sl) (hf : DfAt w f V) (hn4 : V.length ≤ 400) (hsz : ∀ s ∈ V, s.length ≤ 4611686018427387904) (hne : p ≠ l) (h1 : r.phase = 2) (n : Int) (hn : n ≠ 0) (he : (Sp.see r.most (Sp.atV V 0) (Sp.atV V 1)).2 = some n) :
    Calls Tryz.prog 22 #[.pointer (some ⟨p, 0, none⟩), .pointer (some ⟨f, 0, none⟩), .pointer (some ⟨l, 0, none⟩)] w fun e w' => e = .returned (.tuple #[.bool false, .int .i64 0]) ∧ DRdAt w' p { r with phase := 5, err := some n } ∧ DLockAt w' l wn sl ∧ Chg (fun k => k = p ∨ k = l) w w' := by
  have HC := Lib.hid (dSee_any f r.most V w hf hn4 hsz)
  generalize Sp.see r.most (Sp.atV V 0) (Sp.atV V 1) = sw at *
  obtain ⟨mm, er⟩ := sw
  dsimp only at *
  subst he
  have c2 : w.cell? ⟨p, 2, none⟩ = some (.int .i64 2) := by rw [← h1]; exact Blk.cell hr 2
  have c1 : w.cell? ⟨p, 1, none⟩ = some (.int .i64 r.most) := Blk.cell hr 1
  have hpw := Blk.lt hr
  have S := Lib.hid (DsS.start hr hl)
  clear hr hl hf
  have en : (n != 0) = true := by simp [hn]
  go_enter Tryz.func22, Tryz.ntmps22
  go_upto_region 9 with (first
    | (go_at_call 58; refine HC.out.mono ?_; rintro e w2 ⟨rfl, hb2⟩; simp only [erN, Option.getD_none, Option.getD_some]; replace S := Lib.hid (S.out.go (hb2.mono (Nat.le_refl _))); clear hb2)
    | (refine wpList_new MetaT _ _ rfl rfl rfl rfl rfl rfl _ rfl (of_decide_eq_true (by kernel_rfl)) (by kernel_rfl) (by kernel_rfl) (by kernel_rfl) ?_))
  refine wp_gen (fun W => DmS w p l w2.heap.size wn r sl mm W) ⟨S.out.go ((Below.refl _ _).alloc (Nat.le_refl _) _), Blk.new w2 _ _⟩ ?_
  clear S HC c1 c2
  generalize w2.heap.size = k at *
  intro w3 hs3
  have S := Lib.hid hs3
  clear hs3
  have d2 : w3.cell? ⟨p, 2, none⟩ = some (.int .i64 r.phase) := Blk.cell S.out.s.rd 2
  have d4 : w3.cell? ⟨p, 4, none⟩ = some (.int .u64 r.mt.txn) := Blk.cell S.out.s.rd 4
  have d10 : w3.cell? ⟨p, 10, none⟩ = some (.int .i64 (erN r.err)) := Blk.cell S.out.s.rd 10
  have f2 := Blk.frozen S.out.s.rd 2
  have f10 := Blk.frozen S.out.s.rd 10
  go_upto_region 11 with fail
  refine wp_gen (fun W => DsS w p l wn { r with phase := 3, err := some n } sl W) ((S.out.s.put (r' := { r with phase := 3 }) hne 2 (.int .i64 3) rfl).put (r' := { r with phase := 3, err := some n }) hne 10 (.int .i64 n) rfl) ?_
  clear S d2 d4 d10 f2 f10
  intro w5 hs8
  have S := Lib.hid hs8
  have d2 : w5.cell? ⟨p, 2, none⟩ = some (.int .i64 3) := Blk.cell hs8.rd 2
  have f2 := Blk.frozen hs8.rd 2
  clear hs8
  go_wp2_with fail
  have S5 := Lib.hid (S.out.put (r' := { r with phase := 5, err := some n }) hne 2 (.int .i64 5) rfl)
  refine bodyPost_ret (v := .tuple #[.bool false, .int .i64 0]) (by simp [results, Tryz.results22, go_sem]) rfl ⟨rfl, S5.out.rd, S5.out.lk, S5.out.ck⟩
set_option maxRecDepth 100000 in
set_option maxHeartbeats 1600000 in
theorem dStep2o_any (p l f : Nat) (r : Sp.Rdr) (wn : Int) (sl : List Sp.Sl) (V : List Txt) (w : World) (hr : DRdAt w p r) (hl : DLockAt w l wn sl) (hf : DfAt w f V) (hn4 : V.length ≤ 400) (hsz : ∀ s ∈ V, s.length ≤ 4611686018427387904) (hne : p ≠ l) (h1 : r.phase = 2) (he : (Sp.see r.most (Sp.atV V 0) (Sp.atV V 1)).2 = none) :
    Calls Tryz.prog 22 #[.pointer (some ⟨p, 0, none⟩), .pointer (some ⟨f, 0, none⟩), .pointer (some ⟨l, 0, none⟩)] w fun e w' => e = .returned (.tuple #[.bool false, .int .i64 0]) ∧ DRdAt w' p { r with mt := (Sp.see r.most (Sp.atV V 0) (Sp.atV V 1)).1, phase := 3, err := none } ∧ DLockAt w' l wn sl ∧ Chg (fun k => k = p ∨ k = l) w w' := by
  have HC := Lib.hid (dSee_any f r.most V w hf hn4 hsz)
  generalize Sp.see r.most (Sp.atV V 0) (Sp.atV V 1) = sw at *
  obtain ⟨mm, er⟩ := sw
  dsimp only at *
  subst he
  have c2 : w.cell? ⟨p, 2, none⟩ = some (.int .i64 2) := by rw [← h1]; exact Blk.cell hr 2
  have c1 : w.cell? ⟨p, 1, none⟩ = some (.int .i64 r.most) := Blk.cell hr 1
  have hpw := Blk.lt hr
  have S := Lib.hid (DsS.start hr hl)
  clear hr hl hf
  go_enter Tryz.func22, Tryz.ntmps22
  go_upto_region 9 with (first
    | (go_at_call 58; refine HC.out.mono ?_; rintro e w2 ⟨rfl, hb2⟩; simp only [erN, Option.getD_none, Option.getD_some]; replace S := Lib.hid (S.out.go (hb2.mono (Nat.le_refl _))); clear hb2)
    | (refine wpList_new MetaT _ _ rfl rfl rfl rfl rfl rfl _ rfl (of_decide_eq_true (by kernel_rfl)) (by kernel_rfl) (by kernel_rfl) (by kernel_rfl) ?_))
  refine wp_gen (fun W => DmS w p l w2.heap.size wn r sl mm W) ⟨S.out.go ((Below.refl _ _).alloc (Nat.le_refl _) _), Blk.new w2 _ _⟩ ?_
  clear S HC c1 c2
  generalize w2.heap.size = k at *
  intro w3 hs3
  have S := Lib.hid hs3
  clear hs3
  have d2 : w3.cell? ⟨p, 2, none⟩ = some (.int .i64 r.phase) := Blk.cell S.out.s.rd 2
  have d4 : w3.cell? ⟨p, 4, none⟩ = some (.int .u64 r.mt.txn) := Blk.cell S.out.s.rd 4
  have d10 : w3.cell? ⟨p, 10, none⟩ = some (.int .i64 (erN r.err)) := Blk.cell S.out.s.rd 10
  have f2 := Blk.frozen S.out.s.rd 2
  have f10 := Blk.frozen S.out.s.rd 10
  go_upto_region 12 with fail
  refine wp_gen (fun W => DmS w p l k wn { r with phase := 3, err := none } sl mm W) ⟨(S.out.s.put (r' := { r with phase := 3 }) hne 2 (.int .i64 3) rfl).put (r' := { r with phase := 3, err := none }) hne 10 (.int .i64 0) rfl, (S.out.bo.far (p := ⟨p, 2, none⟩) (fun e => by have h8 := S.out.bo; subst e; exact Blk.not_ S.out.s.rd (by decide) _ h8) _).far (p := ⟨p, 10, none⟩) (fun e => by have h8 := S.out.bo; subst e; exact Blk.not_ S.out.s.rd (by decide) _ h8) _⟩ ?_
  have HKP := Lib.hid (show k ≠ p from fun e => by have h8 := S.out.bo; subst e; exact Blk.not_ S.out.s.rd (by decide) _ h8)
  clear S d2 d4 d10 f2 f10
  intro w4 hs4
  have S := Lib.hid hs4
  clear hs4
  have hbm : Blk w4 k MetaT #[.int .u64 mm.txn, .int .i64 mm.main.page, .int .i64 mm.main.count, .int .i64 mm.main.flags, .int .i64 mm.free, .int .i64 mm.last] := S.out.bo
  have k0 : w4.cell? ⟨k, 0, none⟩ = some (.int .u64 mm.txn) := hbm.cell 0
  have c4 : w4.cell? ⟨p, 4, none⟩ = some (.int .u64 r.mt.txn) := Blk.cell S.out.s.rd 4
  have f4 := Blk.frozen S.out.s.rd 4
  have c5 : w4.cell? ⟨p, 5, none⟩ = some (.int .i64 r.mt.main.page) := Blk.cell S.out.s.rd 5
  have f5 := Blk.frozen S.out.s.rd 5
  have c6 : w4.cell? ⟨p, 6, none⟩ = some (.int .i64 r.mt.main.count) := Blk.cell S.out.s.rd 6
  have f6 := Blk.frozen S.out.s.rd 6
  have c7 : w4.cell? ⟨p, 7, none⟩ = some (.int .i64 r.mt.main.flags) := Blk.cell S.out.s.rd 7
  have f7 := Blk.frozen S.out.s.rd 7
  have c8 : w4.cell? ⟨p, 8, none⟩ = some (.int .i64 r.mt.free) := Blk.cell S.out.s.rd 8
  have f8 := Blk.frozen S.out.s.rd 8
  have c9 : w4.cell? ⟨p, 9, none⟩ = some (.int .i64 r.mt.last) := Blk.cell S.out.s.rd 9
  have f9 := Blk.frozen S.out.s.rd 9
  have c2 : w4.cell? ⟨p, 2, none⟩ = some (.int .i64 3) := Blk.cell S.out.s.rd 2
  have f2 := Blk.frozen S.out.s.rd 2
  go_upto_region 29 with (refine wpList_row MetaT _ rfl k rfl rfl MetaT _ (0, 0) _ hbm Tryz.underlying49 rfl rfl ?_)
  refine wp_gen (fun W => DsS w p l wn { r with mt := mm, phase := 3, err := none } sl W) (S.out.s.mt hne mm) ?_
  clear S c2 c4 c5 c6 c7 c8 c9 f2 f4 f5 f6 f7 f8 f9 hbm k0
  intro w5 hs8
  have S := Lib.hid hs8
  have d2 : w5.cell? ⟨p, 2, none⟩ = some (.int .i64 3) := Blk.cell hs8.rd 2
  clear hs8
  go_wp2_with fail
  refine bodyPost_ret (v := .tuple #[.bool false, .int .i64 0]) (by simp [results, Tryz.results22, go_sem]) rfl ⟨rfl, S.out.rd, S.out.lk, S.out.ck⟩
set_option maxRecDepth 100000 in
set_option maxHeartbeats 1600000 in
theorem dStep4e_any (p l f : Nat) (r : Sp.Rdr) (wn : Int) (sl : List Sp.Sl) (V : List Txt) (w : World) (hr : DRdAt w p r) (hl : DLockAt w l wn sl) (hf : DfAt w f V) (hn4 : V.length ≤ 400) (hsz : ∀ s ∈ V, s.length ≤ 4611686018427387904) (hne : p ≠ l) (h1 : r.phase = 4) (n : Int) (hn : n ≠ 0) (he : (Sp.see r.most (Sp.atV V 0) (Sp.atV V 1)).2 = some n) :
    Calls Tryz.prog 22 #[.pointer (some ⟨p, 0, none⟩), .pointer (some ⟨f, 0, none⟩), .pointer (some ⟨l, 0, none⟩)] w fun e w' => e = .returned (.tuple #[.bool false, .int .i64 0]) ∧ DRdAt w' p { r with phase := 5, err := some n } ∧ DLockAt w' l wn sl ∧ Chg (fun k => k = p ∨ k = l) w w' := by
  have HC := Lib.hid (dSee_any f r.most V w hf hn4 hsz)
  generalize Sp.see r.most (Sp.atV V 0) (Sp.atV V 1) = sw at *
  obtain ⟨mm, er⟩ := sw
  dsimp only at *
  subst he
  have c2 : w.cell? ⟨p, 2, none⟩ = some (.int .i64 4) := by rw [← h1]; exact Blk.cell hr 2
  have c1 : w.cell? ⟨p, 1, none⟩ = some (.int .i64 r.most) := Blk.cell hr 1
  have hpw := Blk.lt hr
  have S := Lib.hid (DsS.start hr hl)
  clear hr hl hf
  have en : (n != 0) = true := by simp [hn]
  go_enter Tryz.func22, Tryz.ntmps22
  go_upto_region 19 with (first
    | (go_at_call 58; refine HC.out.mono ?_; rintro e w2 ⟨rfl, hb2⟩; simp only [erN, Option.getD_none, Option.getD_some]; replace S := Lib.hid (S.out.go (hb2.mono (Nat.le_refl _))); clear hb2)
    | (refine wpList_new MetaT _ _ rfl rfl rfl rfl rfl rfl _ rfl (of_decide_eq_true (by kernel_rfl)) (by kernel_rfl) (by kernel_rfl) (by kernel_rfl) ?_))
  refine wp_gen (fun W => DmS w p l w2.heap.size wn r sl mm W) ⟨S.out.go ((Below.refl _ _).alloc (Nat.le_refl _) _), Blk.new w2 _ _⟩ ?_
  clear S HC c1 c2
  generalize w2.heap.size = k at *
  intro w3 hs3
  have S := Lib.hid hs3
  clear hs3
  have d2 : w3.cell? ⟨p, 2, none⟩ = some (.int .i64 r.phase) := Blk.cell S.out.s.rd 2
  have d4 : w3.cell? ⟨p, 4, none⟩ = some (.int .u64 r.mt.txn) := Blk.cell S.out.s.rd 4
  have d10 : w3.cell? ⟨p, 10, none⟩ = some (.int .i64 (erN r.err)) := Blk.cell S.out.s.rd 10
  have f2 := Blk.frozen S.out.s.rd 2
  have f10 := Blk.frozen S.out.s.rd 10
  go_upto_region 23 with fail
  refine wp_gen (fun W => DsS w p l wn { r with phase := 3, err := some n } sl W) ((S.out.s.put (r' := { r with phase := 3 }) hne 2 (.int .i64 3) rfl).put (r' := { r with phase := 3, err := some n }) hne 10 (.int .i64 n) rfl) ?_
  clear S d2 d4 d10 f2 f10
  intro w5 hs8
  have S := Lib.hid hs8
  have d2 : w5.cell? ⟨p, 2, none⟩ = some (.int .i64 3) := Blk.cell hs8.rd 2
  have f2 := Blk.frozen hs8.rd 2
  clear hs8
  go_wp2_with fail
  have S5 := Lib.hid (S.out.put (r' := { r with phase := 5, err := some n }) hne 2 (.int .i64 5) rfl)
  refine bodyPost_ret (v := .tuple #[.bool false, .int .i64 0]) (by simp [results, Tryz.results22, go_sem]) rfl ⟨rfl, S5.out.rd, S5.out.lk, S5.out.ck⟩
set_option maxRecDepth 100000 in
set_option maxHeartbeats 1600000 in
theorem dStep4o_any (p l f : Nat) (r : Sp.Rdr) (wn : Int) (sl : List Sp.Sl) (V : List Txt) (w : World) (hr : DRdAt w p r) (hl : DLockAt w l wn sl) (hf : DfAt w f V) (hn4 : V.length ≤ 400) (hsz : ∀ s ∈ V, s.length ≤ 4611686018427387904) (hne : p ≠ l) (h1 : r.phase = 4) (he : (Sp.see r.most (Sp.atV V 0) (Sp.atV V 1)).2 = none) (hx : (Sp.see r.most (Sp.atV V 0) (Sp.atV V 1)).1.txn ≠ r.mt.txn) :
    Calls Tryz.prog 22 #[.pointer (some ⟨p, 0, none⟩), .pointer (some ⟨f, 0, none⟩), .pointer (some ⟨l, 0, none⟩)] w fun e w' => e = .returned (.tuple #[.bool false, .int .i64 0]) ∧ DRdAt w' p { r with mt := (Sp.see r.most (Sp.atV V 0) (Sp.atV V 1)).1, phase := 3, err := none } ∧ DLockAt w' l wn sl ∧ Chg (fun k => k = p ∨ k = l) w w' := by
  have HC := Lib.hid (dSee_any f r.most V w hf hn4 hsz)
  generalize Sp.see r.most (Sp.atV V 0) (Sp.atV V 1) = sw at *
  obtain ⟨mm, er⟩ := sw
  dsimp only at *
  subst he
  have c2 : w.cell? ⟨p, 2, none⟩ = some (.int .i64 4) := by rw [← h1]; exact Blk.cell hr 2
  have c1 : w.cell? ⟨p, 1, none⟩ = some (.int .i64 r.most) := Blk.cell hr 1
  have hpw := Blk.lt hr
  have S := Lib.hid (DsS.start hr hl)
  clear hr hl hf
  have ex : (mm.txn == r.mt.txn) = false := beq_eq_false_iff_ne.2 hx
  go_enter Tryz.func22, Tryz.ntmps22
  go_upto_region 19 with (first
    | (go_at_call 58; refine HC.out.mono ?_; rintro e w2 ⟨rfl, hb2⟩; simp only [erN, Option.getD_none, Option.getD_some]; replace S := Lib.hid (S.out.go (hb2.mono (Nat.le_refl _))); clear hb2)
    | (refine wpList_new MetaT _ _ rfl rfl rfl rfl rfl rfl _ rfl (of_decide_eq_true (by kernel_rfl)) (by kernel_rfl) (by kernel_rfl) (by kernel_rfl) ?_))
  refine wp_gen (fun W => DmS w p l w2.heap.size wn r sl mm W) ⟨S.out.go ((Below.refl _ _).alloc (Nat.le_refl _) _), Blk.new w2 _ _⟩ ?_
  clear S HC c1 c2
  generalize w2.heap.size = k at *
  intro w3 hs3
  have S := Lib.hid hs3
  clear hs3
  have d2 : w3.cell? ⟨p, 2, none⟩ = some (.int .i64 r.phase) := Blk.cell S.out.s.rd 2
  have d4 : w3.cell? ⟨p, 4, none⟩ = some (.int .u64 r.mt.txn) := Blk.cell S.out.s.rd 4
  have d10 : w3.cell? ⟨p, 10, none⟩ = some (.int .i64 (erN r.err)) := Blk.cell S.out.s.rd 10
  have f2 := Blk.frozen S.out.s.rd 2
  have f10 := Blk.frozen S.out.s.rd 10
  go_upto_region 24 with fail
  refine wp_gen (fun W => DmS w p l k wn { r with phase := 3, err := none } sl mm W) ⟨(S.out.s.put (r' := { r with phase := 3 }) hne 2 (.int .i64 3) rfl).put (r' := { r with phase := 3, err := none }) hne 10 (.int .i64 0) rfl, (S.out.bo.far (p := ⟨p, 2, none⟩) (fun e => by have h8 := S.out.bo; subst e; exact Blk.not_ S.out.s.rd (by decide) _ h8) _).far (p := ⟨p, 10, none⟩) (fun e => by have h8 := S.out.bo; subst e; exact Blk.not_ S.out.s.rd (by decide) _ h8) _⟩ ?_
  have HKP := Lib.hid (show k ≠ p from fun e => by have h8 := S.out.bo; subst e; exact Blk.not_ S.out.s.rd (by decide) _ h8)
  clear S d2 d4 d10 f2 f10
  intro w4 hs4
  have S := Lib.hid hs4
  clear hs4
  have hbm : Blk w4 k MetaT #[.int .u64 mm.txn, .int .i64 mm.main.page, .int .i64 mm.main.count, .int .i64 mm.main.flags, .int .i64 mm.free, .int .i64 mm.last] := S.out.bo
  have k0 : w4.cell? ⟨k, 0, none⟩ = some (.int .u64 mm.txn) := hbm.cell 0
  have c4 : w4.cell? ⟨p, 4, none⟩ = some (.int .u64 r.mt.txn) := Blk.cell S.out.s.rd 4
  have f4 := Blk.frozen S.out.s.rd 4
  have c5 : w4.cell? ⟨p, 5, none⟩ = some (.int .i64 r.mt.main.page) := Blk.cell S.out.s.rd 5
  have f5 := Blk.frozen S.out.s.rd 5
  have c6 : w4.cell? ⟨p, 6, none⟩ = some (.int .i64 r.mt.main.count) := Blk.cell S.out.s.rd 6
  have f6 := Blk.frozen S.out.s.rd 6
  have c7 : w4.cell? ⟨p, 7, none⟩ = some (.int .i64 r.mt.main.flags) := Blk.cell S.out.s.rd 7
  have f7 := Blk.frozen S.out.s.rd 7
  have c8 : w4.cell? ⟨p, 8, none⟩ = some (.int .i64 r.mt.free) := Blk.cell S.out.s.rd 8
  have f8 := Blk.frozen S.out.s.rd 8
  have c9 : w4.cell? ⟨p, 9, none⟩ = some (.int .i64 r.mt.last) := Blk.cell S.out.s.rd 9
  have f9 := Blk.frozen S.out.s.rd 9
  have c2 : w4.cell? ⟨p, 2, none⟩ = some (.int .i64 3) := Blk.cell S.out.s.rd 2
  have f2 := Blk.frozen S.out.s.rd 2
  go_upto_region 29 with (refine wpList_row MetaT _ rfl k rfl rfl MetaT _ (0, 0) _ hbm Tryz.underlying49 rfl rfl ?_)
  refine wp_gen (fun W => DsS w p l wn { r with mt := mm, phase := 3, err := none } sl W) (S.out.s.mt hne mm) ?_
  clear S c2 c4 c5 c6 c7 c8 c9 f2 f4 f5 f6 f7 f8 f9 hbm k0
  intro w5 hs8
  have S := Lib.hid hs8
  have d2 : w5.cell? ⟨p, 2, none⟩ = some (.int .i64 3) := Blk.cell hs8.rd 2
  clear hs8
  go_wp2_with fail
  refine bodyPost_ret (v := .tuple #[.bool false, .int .i64 0]) (by simp [results, Tryz.results22, go_sem]) rfl ⟨rfl, S.out.rd, S.out.lk, S.out.ck⟩
end Go.Proofs.YtmcpkhknjdiocaaGreatDoor
