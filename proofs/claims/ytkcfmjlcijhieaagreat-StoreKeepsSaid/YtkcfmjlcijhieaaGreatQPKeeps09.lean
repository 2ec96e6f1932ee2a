/- The list of free pages, read. -/
import Derived.Test.YtkcfmjlcijhieaaGreatQB22
import Derived.Test.YtkcfmjlcijhieaaGreatQB23
import Derived.Test.YtkcfmjlcijhieaaGreatQPKeeps04
set_option linter.unusedSimpArgs false
set_option linter.unusedVariables false
namespace Go.Proofs.YtkcfmjlcijhieaaGreat
open Go.RowKit
attribute [local go_sem low] mk_extract
attribute [local go_sem] After.cell After.frozen mk_extract_end ByteArray.mk_append_mk
section
variable {P : Program} {w : World} {base : Nat} {e : TypeId} {size : Nat}
theorem run_append_zero (t ty e : TypeId) (i : TypeInfo) (ht : P.underlying t = some (.slice e)) (hi : P.info? e = some i) (v : Value) (n : Nat) (xs : List Value) (hown : w.ownsRow base e size v n xs) (A : Option Addr) (c : Nat) :
    (Builtin.append_ #[t, t] ty #[v, .slice A 0 c]).run P w = .ok v w := by
  have hf : (Builtin.firstCells i.size 0 (.slice A 0 c)).run P w = .ok #[] w := by
    cases A with
    | none => exact run_firstCells_none w i.size 0 0 c
    | some a => exact run_firstCells_some w i.size 0 a 0 c [] (by simp) (fun j v hj => by simp at hj)
  rcases hown.2 with ⟨rfl, rfl⟩ | ⟨g, cap, cur, rfl, _, _, hnc, _⟩
  · simp [Builtin.append_, run_underlying ht, sizeOf, typeInfo, hi, Builtin.lenOf, hf]
  · simp [Builtin.append_, run_underlying ht, sizeOf, typeInfo, hi, Builtin.lenOf, hf, hnc, storeCells]
theorem wpList_append_zero {ops : Array Oper} {rest : List Oper} {o : Oper} {a : Act} {Q : Exit → Act → World → Prop} (hgd : o.guard = none) (s x : Operand) (t : TypeId)
    (ho : o.op = .call { callee := .builtin .append, args := #[s, x], argTypes := #[t, t] })
    (base : Nat) (e : TypeId) (i : TypeInfo) (size : Nat) (ht : P.underlying t = some (.slice e)) (hi : P.info? e = some i)
    (v : Value) (n : Nat) (xs : List Value) (hs : a.eval s = v) (hown : w.ownsRow base e size v n xs) (A : Option Addr) (c : Nat) (hx : a.eval x = .slice A 0 c)
    (h : wpList P ops Q rest (a.put o.dst v) w) : wpList P ops Q (o :: rest) a w := by
  refine wpList_plain hgd fun K hK => ?_
  have hrun := run_append_zero (P := P) (w := w) t o.type e i ht hi v n xs hown A c
  unfold Oper.wp
  simp [execOp, ho, resolve, invoke, builtin, hs, hx, hrun, Result.andThen]
  exact hK _ _ h
end
namespace Sp
/-- The list of free pages that begins on a page, the pages that it is on; or what is wrong. -/
def freesI (V : List Txt) (most : Int) : Nat → Int → List Free → List Int → (List Free × List Int) × Option Int
  | 0, _, _, _ => (([], []), none)
  | n + 1, id, out, on =>
    if id = 0 then ((out, on), none)
    else if id < 2 ∨ most ≤ id then (([], []), some 14)
    else if (readF (atV V id)).2 ≠ none ∨ (readF (atV V id)).1.kind ≠ 5 ∨ id ∈ on then (([], []), some 12)
    else freesI V most n (readF (atV V id)).1.next (out ++ (readF (atV V id)).1.free) (insI id on)
theorem freesI_zero (V : List Txt) (most : Int) (n : Nat) (out : List Free) (on : List Int) : freesI V most (n + 1) 0 out on = ((out, on), none) := if_pos rfl
theorem freesI_map (V : List Txt) (most : Int) (n : Nat) (id : Int) (out : List Free) (on : List Int) (h0 : id ≠ 0) (h : id < 2 ∨ most ≤ id) : freesI V most (n + 1) id out on = (([], []), some 14) := by
  unfold freesI
  rw [if_neg h0, if_pos h]
theorem freesI_bad (V : List Txt) (most : Int) (n : Nat) (id : Int) (out : List Free) (on : List Int) (h0 : id ≠ 0) (h : ¬ (id < 2 ∨ most ≤ id)) (hb : (readF (atV V id)).2 ≠ none ∨ (readF (atV V id)).1.kind ≠ 5 ∨ id ∈ on) : freesI V most (n + 1) id out on = (([], []), some 12) := by
  rw [freesI]
  rw [if_neg h0, if_neg h, if_pos hb]
theorem freesI_next (V : List Txt) (most : Int) (n : Nat) (id : Int) (out : List Free) (on : List Int) (h0 : id ≠ 0) (h : ¬ (id < 2 ∨ most ≤ id)) (hb : ¬ ((readF (atV V id)).2 ≠ none ∨ (readF (atV V id)).1.kind ≠ 5 ∨ id ∈ on)) :
    freesI V most (n + 1) id out on = freesI V most n (readF (atV V id)).1.next (out ++ (readF (atV V id)).1.free) (insI id on) := by
  rw [freesI]
  rw [if_neg h0, if_neg h, if_neg hb]
theorem freesI_bad' (V : List Txt) (most : Int) (n : Nat) (id : Int) (out : List Free) (on : List Int) {pe : Page × Option Int} (he : readF (atV V id) = pe) (h0 : id ≠ 0) (h : ¬ (id < 2 ∨ most ≤ id)) (hb : pe.2 ≠ none ∨ pe.1.kind ≠ 5 ∨ id ∈ on) : freesI V most (n + 1) id out on = (([], []), some 12) :=
  freesI_bad V most n id out on h0 h (by rw [he]; exact hb)
theorem freesI_next' (V : List Txt) (most : Int) (n : Nat) (id : Int) (out : List Free) (on : List Int) {p : Page} (he : readF (atV V id) = (p, none)) (h0 : id ≠ 0) (h : ¬ (id < 2 ∨ most ≤ id)) (h5 : p.kind = 5) (hi : id ∉ on) :
    freesI V most (n + 1) id out on = freesI V most n p.next (out ++ p.free) (insI id on) := by
  have := freesI_next V most n id out on h0 h (by rw [he]; rintro (h | h | h); exact h rfl; exact h h5; exact hi h)
  rw [he] at this
  exact this
end Sp
/-- A list of free pages in a row of the call's own; its numbers lie anywhere but where M says. -/
structure FrsQ (w : World) (B : Nat) (u : Value) (l : List Sp.Free) : Prop where
  ex : ∃ xs, w.ownsRow B FreeT 2 u l.length xs ∧ SeqQ freeV (SF w (fun k => k < B ∨ u.ownBlock = some k)) l xs
/-- How long a slice is. -/
def slLen : Value → Nat
  | .slice _ n _ => n
  | _ => 0
theorem FrsQ.go {w w' : World} {B : Nat} {u : Value} {l : List Sp.Free} (h : FrsQ w B u l) (hb : Below w.heap.size w w') : FrsQ w' B u l := by
  obtain ⟨xs, h1, h2⟩ := h.ex
  exact ⟨xs, own_chg2 (S := NoM) h1 (Chg.of_below hb) (fun _ _ h => h), h2.imp fun V x h => ⟨h.1.go hb, h.2⟩⟩
theorem FrsQ.frees {w : World} {B c : Nat} {A : Option Addr} {l : List Sp.Free} (h : FrsQ w B (.slice A l.length c) l) (hl : l.length ≤ 1000000) : Frees w (fun k => k < B) A l := by
  obtain ⟨xs, h1, h2⟩ := h.ex
  refine ⟨by omega, ?_⟩
  rcases own_none h1 with ⟨_, h0, _⟩ | ⟨g, cur, hv, hg, hb, hc⟩
  · exact .inl (List.eq_nil_of_length_eq_zero h0)
  · refine .inr ⟨g, 0, hv, hb.lt, by omega, fun k hk => ?_⟩
    obtain ⟨V, c, hs, hq⟩ := h2.at_ freeV_two Sp.free0 k hk
    have h3 := hc _ _ (hq 0 _ rfl)
    have h4 := hc _ _ (hq 1 _ rfl)
    exact ⟨V, c, ⟨h3, h4⟩, Row.anti hs.1 (fun _ h => .inl h), hs.2⟩
theorem FrsQ.form {w : World} {B : Nat} {u : Value} {l : List Sp.Free} (h : FrsQ w B u l) : ∃ A c, u = .slice A l.length c := by
  obtain ⟨xs, h1, _⟩ := h.ex
  rcases h1.2 with ⟨rfl, h0⟩ | ⟨g, cap, cur, rfl, _⟩
  · exact ⟨none, 0, by rw [h0]⟩
  · exact ⟨_, _, rfl⟩
/-- Others more. -/
theorem FrsQ.more {W W' : World} {B : Nat} {u v' : Value} {l m : List Sp.Free} {xs zs : List Value} (h2 : SeqQ freeV (SF W (fun k => k < B ∨ u.ownBlock = some k)) l xs) (hz : SeqQ freeV (SF W (fun k => k < B ∨ u.ownBlock = some k)) m zs)
    (hown : W'.ownsRow B FreeT 2 v' (l.length + m.length) (xs ++ zs)) (hgr : W.grownBy W' u.ownBlock) (hat : v'.ownBlock = u.ownBlock ∨ v'.ownBlock = some W.heap.size) : FrsQ W' B v' (l ++ m) := by
  refine ⟨xs ++ zs, by rw [List.length_append]; exact hown, (SeqQ.app hz h2).imp fun V x h => ⟨?_, h.2⟩⟩
  have h3 : Row W (fun k => (k < B ∨ u.ownBlock = some k) ∨ (k < B ∨ v'.ownBlock = some k)) V (x.ids.map iv) := Row.to h.1 fun k hk hm => by
    rcases hm with hm | hm | hm
    · exact hm
    · exact .inl hm
    · rcases hat with e | e
      · exact .inr (e ▸ hm)
      · rw [e] at hm
        injection hm with hm
        omega
  exact Row.anti (Row.chg h3 ((Chg.of_grown (S := fun k => u.ownBlock = some k) hgr (fun k hk => .inl hk)).mono fun k _ e => .inl (.inr e))) (fun k h => .inr h)
/-- What Read holds between its rounds. -/
structure FqS (w : World) (n : Nat) (u v : Value) (out : List Sp.Free) (on : List Int) (W : World) : Prop where
  hb : Below w.heap.size w W
  fr : FrsQ W w.heap.size u out
  on_ : W.ownsRow w.heap.size IntT 1 v on.length (on.map iv)
  ri : Sp.Rise on
  le : ∀ x ∈ on, x < n
theorem FqS.go {w W W' : World} {n : Nat} {u v : Value} {out : List Sp.Free} {on : List Int} (h : FqS w n u v out on W) (hb : Below W.heap.size W W') : FqS w n u v out on W' :=
  ⟨h.hb.trans (hb.mono h.hb.size), h.fr.go hb, own_chg2 (S := NoM) h.on_ (Chg.of_below hb) (fun _ _ h => h), h.ri, h.le⟩
namespace Sp
theorem readF_ok {s : Txt} (h : (readF s).2 = none) : isPage (readF s).1 = true := by
  unfold readF at *
  split at h
  · rename_i ho
    rw [if_pos ho]
    unfold readOk at ho
    rw [Bool.and_eq_true] at ho
    have h1 := of_decide_eq_true ho.1
    have h2 := of_decide_eq_true ho.2
    rcases hp : isPage (parse s) with _ | _
    · rw [bytes_no hp] at h2
      exact absurd h2.symm h1
    · rfl
  · cases h
theorem readF_in {V : List Txt} {id : Int} (h : (readF (atV V id)).2 = none) : 0 ≤ id ∧ id < V.length := by
  unfold readF at h
  split at h
  · rename_i ho
    unfold readOk at ho
    rw [Bool.and_eq_true] at ho
    have h1 := of_decide_eq_true ho.1
    unfold atV at h1
    split at h1
    · exact absurd rfl h1
    · refine ⟨by omega, ?_⟩
      have : id.toNat < V.length := by
        rcases Nat.lt_or_ge id.toNat V.length with h | h
        · exact h
        · exact absurd (by rw [List.getD_eq_getElem?_getD, List.getElem?_eq_none h]; rfl) h1
      omega
  · cases h
theorem kind5_free {p : Page} (h : isPage p = true) (h5 : p.kind = 5) : isFree p = true := by
  unfold isPage at h
  rw [if_neg (by omega), if_neg (by omega), if_neg (by omega), if_neg (by omega), if_pos h5, Bool.and_eq_true] at h
  exact h.2
end Sp
set_option maxRecDepth 100000 in
set_option maxHeartbeats 1600000 in
theorem fread_any (f m : Nat) (fv : Value) (V : List Txt) (frm most : Int) (w : World) (hf : FileAt w f fv m V) (hn : V.length ≤ 400) :
    Calls Tryz.prog 19 #[.pointer (some ⟨f, 0, none⟩), .int .i64 frm, .int .i64 most] w fun e w' => ∃ u v, e = .returned (.tuple #[u, v, erO (Sp.freesI V most 500 frm [] []).2]) ∧
      FrsQ w' w.heap.size u (Sp.freesI V most 500 frm [] []).1.1 ∧ (Sp.freesI V most 500 frm [] []).1.1.length ≤ 400000 ∧ w'.ownsRow w.heap.size IntT 1 v (Sp.freesI V most 500 frm [] []).1.2.length ((Sp.freesI V most 500 frm [] []).1.2.map iv) ∧ Sp.Rise (Sp.freesI V most 500 frm [] []).1.2 ∧ Below w.heap.size w w' := by
  have HF := Lib.hid (fun W (hb : Below w.heap.size w W) => hf.chg (S := NoM) (Chg.of_below hb) (fun h => h) (fun h => h) (fun _ _ h => h))
  have HSZ := Lib.hid (fun i => atV_sz V i hf.sz)
  obtain ⟨i0, hi0, hz0, hz1, hz2⟩ := info_parts info_free2
  have H0 := Lib.hid (⟨Below.refl _ _, ⟨[], own_nil0 _ _ _ _, rfl⟩, own_nil0 _ _ _ _, Sp.Rise.nil, fun x h => absurd h (by simp)⟩ : FqS w V.length (.slice none 0 0) (.slice none 0 0) [] [] w)
  generalize hR : Sp.freesI V most 500 frm [] [] = R at *
  have HR := Lib.hid hR
  clear hf hR
  go_enter Tryz.func19, Tryz.ntmps19
  go_wp2_with fail
  go_step3
  go_wp2_with fail
  go_step3
  go_wp2_with fail
  go_loopw [9, 10, 11] (fun u v z wr => ∃ (k : Nat) (id : Int) (out : List Sp.Free) (on : List Int), z = .int .i64 id ∧ k + on.length = 500 ∧ Sp.freesI V most k id out on = R ∧ out.length ≤ 1000 * on.length ∧ FqS w V.length u v out on wr) (fun _ v _ _ => 500 - slLen v)
  case atStart => exact ⟨500, frm, [], [], rfl, rfl, HR.out, Nat.zero_le _, H0.out⟩
  case round =>
    obtain ⟨k, id, out, on, rfl, hk, hr, hod, hs⟩ := hrel
    have S := Lib.hid hs
    have hol := hs.ri.len
    obtain ⟨k, rfl⟩ : ∃ k', k = k' + 1 := ⟨k - 1, by omega⟩
    have HRR := Lib.hid hr
    clear hr hs H0 HR
    by_cases h0 : id = 0
    · subst h0
      have e := HRR.out
      rw [Sp.freesI_zero] at e
      subst e
      go_wp2_with fail
      try rw [Exit.noGoto_ret]
      go_ret3
      exact ⟨_, _, rfl, S.out.fr, (show out.length ≤ 400000 by omega), S.out.on_, S.out.ri, S.out.hb⟩
    · by_cases hm : id < 2 ∨ most ≤ id
      · have e := HRR.out
        rw [Sp.freesI_map _ _ _ _ _ _ h0 hm] at e
        subst e
        have HM := Lib.hid hm
        by_cases h2 : id < 2
        · go_wp2_with fail
          try rw [Exit.noGoto_ret]
          go_ret3
          first
            | exact ⟨_, _, rfl, ⟨[], own_nil0 _ _ _ _, rfl⟩, own_nil0 _ _ _ _, Sp.Rise.nil, S.out.hb⟩
            | exact ⟨_, _, rfl, ⟨[], own_nil0 _ _ _ _, rfl⟩, Nat.zero_le _, own_nil0 _ _ _ _, Sp.Rise.nil, S.out.hb⟩
        · have h3 : most ≤ id := by have := HM.out; omega
          clear hm
          go_wp2_with fail
          try rw [Exit.noGoto_ret]
          go_ret3
          first
            | exact ⟨_, _, rfl, ⟨[], own_nil0 _ _ _ _, rfl⟩, own_nil0 _ _ _ _, Sp.Rise.nil, S.out.hb⟩
            | exact ⟨_, _, rfl, ⟨[], own_nil0 _ _ _ _, rfl⟩, Nat.zero_le _, own_nil0 _ _ _ _, Sp.Rise.nil, S.out.hb⟩
      · have h2 : ¬ id < 2 := fun h => hm (.inl h)
        have h3 : ¬ most ≤ id := fun h => hm (.inr h)
        have HM := Lib.hid hm
        clear hm
        have hf1 : (Sp.readF (Sp.atV V id)).1 = readPg (Sp.atV V id) := readF_1 _
        have hf2 : erO (Sp.readF (Sp.atV V id)).2 = readE (Sp.atV V id) := readF_2 _
        have HOK := Lib.hid (fun h => Sp.readF_ok (s := Sp.atV V id) h)
        have HIN := Lib.hid (fun h => Sp.readF_in (V := V) (id := id) h)
        go_upto_region 8 with (first
          | (go_at_call 41; refine (fileRead_any f m fv V id _ (HF.out _ S.out.hb) (by omega)).mono ?_; rintro e w2 ⟨rfl, rfl⟩)
          | (go_at_call 63; refine (read_any (Sp.atV V id) _ (HSZ.out id)).mono ?_; rintro e w3 ⟨r, rfl, hr, hb3⟩; rw [readV_is]; have HPR := Lib.hid hr; have HB3 := Lib.hid hb3; clear hr hb3)
          | (refine wpList_new PageT _ _ rfl rfl rfl rfl rfl rfl _ rfl (of_decide_eq_true (by kernel_rfl)) (by kernel_rfl) (by kernel_rfl) (by kernel_rfl) ?_))
        generalize hpe : Sp.readF (Sp.atV V id) = pe at *
        rw [← hf1, ← hf2]
        obtain ⟨p, er⟩ := pe
        have HPE := Lib.hid (show Sp.readF (Sp.atV V id) = (p, er) from hpe)
        clear hpe
        rw [← hf1] at HPR
        have hzw := S.out.hb.size
        have hal := HB3.out.alloc HB3.out.size (.cells (pageV p r).toArray PageT)
        have hPR : PageRd w3 (fun k => k < wr.heap.size) p r := HPR.out _ fun k hk h => by omega
        have hPR2 := hPR.chg (Chg.of_below ((Below.refl w3.heap.size w3).alloc (Nat.le_refl _) (.cells (pageV p r).toArray PageT)))
        clear hf1 hf2
        refine wp_gen (fun W => (FqS w V.length u9 u10 out on W ∧ PageRd W (fun k => k < wr.heap.size) p r) ∧ Blk W w3.heap.size PageT (pageV p r).toArray) ⟨⟨S.out.go hal, hPR2⟩, Blk.new _ _ _⟩ ?_
        have hu9 : ∀ k, u9.ownBlock = some k → k < wr.heap.size := by
          obtain ⟨xs, h1, _⟩ := S.out.fr.ex
          exact own_lt h1
        have HU9 := Lib.hid hu9
        clear hu9
        have hg12 : w.heap.size ≤ w3.heap.size := Nat.le_trans hzw HB3.out.size
        clear HPR hPR hPR2 hal HB3
        generalize w3.heap.size = b12 at *
        rintro w4 ⟨⟨hs4, hp4⟩, hb4⟩
        have S4 := Lib.hid hs4
        have HPR := Lib.hid hp4
        have HBX := Lib.hid hb4
        have c0 : w4.cell? ⟨b12, 0, none⟩ = some (.int .i64 p.kind) := hb4.cell 0
        clear hs4 hp4 hb4 S
        rcases er with _ | er
        · simp only [erO]
          by_cases h5 : p.kind = 5
          · rw [h5] at c0
            have HH := Lib.hid (idsHas_any _ on id w4 (own_iv S4.out.on_ (by omega)) S4.out.ri.1)
            have hct : on.contains id = decide (id ∈ on) := List.contains_eq_mem id on
            by_cases hin : id ∈ on
            · rw [hct, decide_eq_true hin] at HH
              have e := HRR.out
              rw [Sp.freesI_bad' _ _ _ _ _ _ HPE.out h0 HM.out (.inr (.inr hin))] at e
              subst e
              clear hin
              go_upto_region 9 with (go_at_call 64; refine HH.out.mono ?_; rintro e w5 ⟨rfl, hb5⟩; replace S4 := Lib.hid (S4.out.go hb5); clear hb5)
              go_wp2_with fail
              try rw [Exit.noGoto_ret]
              go_ret3
              first
                | exact ⟨_, _, rfl, ⟨[], own_nil0 _ _ _ _, rfl⟩, own_nil0 _ _ _ _, Sp.Rise.nil, S4.out.hb⟩
                | exact ⟨_, _, rfl, ⟨[], own_nil0 _ _ _ _, rfl⟩, Nat.zero_le _, own_nil0 _ _ _ _, Sp.Rise.nil, S4.out.hb⟩
            · rw [hct, decide_eq_false hin] at HH
              have e := HRR.out
              rw [Sp.freesI_next' _ _ _ _ _ _ HPE.out h0 HM.out h5 hin] at e
              have HRN := Lib.hid e
              have hpg := HOK.out rfl
              have hfr := Sp.kind5_free hpg h5
              obtain ⟨hfl, hfi⟩ := Sp.free_small hfr
              have hin2 := HIN.out rfl
              have HNI := Lib.hid hin
              clear e hin hct HRR HPE HOK hpg hfr hfi
              have c6 : w4.cell? ⟨b12, 6, none⟩ = some (.slice r.F p.free.length r.f) := HBX.out.cell 6
              have HFR := Lib.hid HPR.out.free
              have HNX := Lib.hid (show w4.cell? ⟨b12, 7, none⟩ = some (.int .i64 p.next) from HBX.out.cell 7)
              go_upto_region 10 with (go_at_call 64; refine HH.out.mono ?_; rintro e w5 ⟨rfl, hb5⟩; have HB5 := Lib.hid hb5; clear hb5)
              have S5 := Lib.hid (S4.out.go HB5.out)
              have hsz5 : w.heap.size ≤ w5.heap.size := S5.out.hb.size
              have hlt5 : b12 < w5.heap.size := Nat.lt_of_lt_of_le HBX.out.lt HB5.out.size
              have c6' := (HB5.out.cell (p := ⟨b12, 6, none⟩) HBX.out.lt).trans c6
              have HNX5 := Lib.hid ((HB5.out.cell (p := ⟨b12, 7, none⟩) HBX.out.lt).trans HNX.out)
              have HFR5 := Lib.hid (HFR.out.go HB5.out)
              have HBX5 := Lib.hid (HBX.out.below HB5.out HBX.out.lt)
              clear c6 HNX HFR S4 HBX HPR HH HB5
              obtain ⟨xs, hx1, hx2⟩ := S5.out.fr.ex
              have HX1 := Lib.hid hx1
              have HX2 := Lib.hid hx2
              clear hx1 hx2
              have hB : w.heap.size ≤ wr.heap.size := hzw
              by_cases hfe : p.free = []
              · rw [hfe] at c6'
                have c6 : w5.cell? ⟨b12, 6, none⟩ = some (.slice r.F 0 r.f) := c6'
                clear c6'
                go_upto_region 11 with (refine wpList_append_zero rfl _ _ 24 rfl w.heap.size FreeT i0 2 Tryz.underlying24 hi0 _ out.length xs rfl HX1.out r.F r.f rfl ?_)
                have HM6 := Lib.hid S5.out
                have HFE := Lib.hid (show out ++ p.free = out from by rw [hfe, List.append_nil])
                have HNX6 := Lib.hid HNX5.out
                have HLT := Lib.hid hlt5
                clear S5 HNX5
                go_upto_region 12 with (go_at_call 65; refine (idsWith_any _ on id _ (own_iv HM6.out.on_ (by omega)) HM6.out.ri.1).mono ?_; rintro e w7 ⟨v7, rfl, ho7, hb7⟩; have HO7 := Lib.hid ho7; have HB7 := Lib.hid hb7; clear ho7 hb7)
                have hlen : (Sp.insI id on).length = on.length + 1 := by
                  have hnn : id ∉ on := HNI.out
                  unfold Sp.insI
                  rw [if_neg hnn]
                  simp only [List.length_append, List.length_take, List.length_cons, List.length_drop]
                  have := Sp.posI_le id on
                  omega
                have c7 : w7.cell? ⟨b12, 7, none⟩ = some (.int .i64 p.next) := (HB7.out.cell (p := ⟨b12, 7, none⟩) HLT.out).trans HNX6.out
                obtain ⟨A7, cc7, hv7⟩ := own_slice HO7.out
                subst hv7
                go_wp2_with fail
                go_roundw
                case rel =>
                  refine ⟨k, p.next, out ++ p.free, Sp.insI id on, rfl, by rw [hlen]; omega, HRN.out, by rw [hlen, List.length_append]; omega, HM6.out.hb.trans (HB7.out.mono HM6.out.hb.size), HFE.out.symm ▸ HM6.out.fr.go HB7.out, own_base HO7.out HM6.out.hb.size, HM6.out.ri.ins (by omega) (by omega), fun x hx => ?_⟩
                  rcases Sp.mem_insI.1 hx with rfl | hx
                  · exact hin2.2
                  · exact HM6.out.le x hx
                case measure =>
                  obtain ⟨A0, c0', hv0⟩ := own_slice HM6.out.on_
                  rw [hv0]
                  simp only [slLen]
                  omega
              · obtain ⟨fb, fo, hF, hfb, _⟩ := HFR5.out.at_ (k := 0) (List.length_pos_iff.2 hfe)
                obtain ⟨zs, hs1, hs2⟩ := HFR5.out.seq
                rw [hF] at c6'
                have HZ1 := Lib.hid (hs1.imp (S' := SF w5 (fun k => k < w.heap.size ∨ u9.ownBlock = some k)) fun V x h => ⟨Row.to h.1 (fun k hk hm => by
                  rcases hm with hm | hm
                  · exact (by omega : k < wr.heap.size)
                  · exact HU9.out k hm), h.2⟩)
                have HZ2 := Lib.hid (hs2 _ hF)
                have hzl := hs1.len freeV_two
                clear hs1 hs2 HFR5
                go_upto_region 11 with (at_builtin; refine wpList_append_own_at _ rfl _ _ 24 rfl w.heap.size FreeT i0 _ 2 32 Tryz.underlying24 hi0 hz0 hz1 hz2 rfl (by decide) _ out.length xs rfl HX1.out ⟨fb, fo, none⟩ p.free.length r.f zs rfl hzl HZ2.out (HZ1.out.one freeV_ones) ?c3 ?c4 hsz5 ?_)
                case c3 => simp only [maxLen]; omega
                case c4 => omega
                intro v6 w6 hown hgr _ hat
                have hfq := FrsQ.more HX2.out HZ1.out hown hgr hat
                have hk6 := Chg.of_grown (S := fun k => u9.ownBlock = some k) hgr (fun k hk => .inl hk)
                have hkb : Below w.heap.size w5 w6 := grown_own0 HX1.out hsz5 hgr
                have h9 : ∀ k cs ty, Blk w5 k ty cs → FreeT ≠ ty → ¬ (u9.ownBlock = some k) := fun k cs ty hb hne e => by
                  obtain ⟨ds, hd⟩ := own_ty2 HX1.out e
                  exact hb.not_ (fun e => hne e.symm) _ hd
                have hon6 := own_chg2 S5.out.on_ hk6 (fun k hk e => by
                  obtain ⟨cs, hb⟩ := own_ty S5.out.on_ hk
                  exact h9 k cs _ hb (by decide) e)
                have HM6 := Lib.hid (⟨S5.out.hb.trans hkb, hfq, hon6, S5.out.ri, S5.out.le⟩ : FqS w V.length v6 u10 (out ++ p.free) on w6)
                have HNX6 := Lib.hid ((hk6.cell (k := b12) (o := 7) hlt5 (h9 b12 _ _ HBX5.out (by decide))).trans HNX5.out)
                have HLT := Lib.hid (Nat.lt_of_lt_of_le hlt5 hk6.size)
                clear S5 HNX5 hown hgr hat hfq hk6 hkb h9 hon6 HX1 HX2 HZ1 HZ2
                go_wp2_with fail
                go_upto_region 12 with (go_at_call 65; refine (idsWith_any _ on id _ (own_iv HM6.out.on_ (by omega)) HM6.out.ri.1).mono ?_; rintro e w7 ⟨v7, rfl, ho7, hb7⟩; have HO7 := Lib.hid ho7; have HB7 := Lib.hid hb7; clear ho7 hb7)
                have hlen : (Sp.insI id on).length = on.length + 1 := by
                  have hnn : id ∉ on := HNI.out
                  unfold Sp.insI
                  rw [if_neg hnn]
                  simp only [List.length_append, List.length_take, List.length_cons, List.length_drop]
                  have := Sp.posI_le id on
                  omega
                have c7 : w7.cell? ⟨b12, 7, none⟩ = some (.int .i64 p.next) := (HB7.out.cell (p := ⟨b12, 7, none⟩) HLT.out).trans HNX6.out
                obtain ⟨A7, cc7, hv7⟩ := own_slice HO7.out
                subst hv7
                go_wp2_with fail
                go_roundw
                case rel =>
                  refine ⟨k, p.next, out ++ p.free, Sp.insI id on, rfl, by rw [hlen]; omega, HRN.out, by rw [hlen, List.length_append]; omega, HM6.out.hb.trans (HB7.out.mono HM6.out.hb.size), HM6.out.fr.go HB7.out, own_base HO7.out HM6.out.hb.size, HM6.out.ri.ins (by omega) (by omega), fun x hx => ?_⟩
                  rcases Sp.mem_insI.1 hx with rfl | hx
                  · exact hin2.2
                  · exact HM6.out.le x hx
                case measure =>
                  obtain ⟨A0, c0', hv0⟩ := own_slice HM6.out.on_
                  rw [hv0]
                  simp only [slLen]
                  omega
          · have e := HRR.out
            rw [Sp.freesI_bad' _ _ _ _ _ _ HPE.out h0 HM.out (.inr (.inl h5))] at e
            subst e
            go_wp2_with fail
            try rw [Exit.noGoto_ret]
            go_ret3
            first
              | exact ⟨_, _, rfl, ⟨[], own_nil0 _ _ _ _, rfl⟩, own_nil0 _ _ _ _, Sp.Rise.nil, S4.out.hb⟩
              | exact ⟨_, _, rfl, ⟨[], own_nil0 _ _ _ _, rfl⟩, Nat.zero_le _, own_nil0 _ _ _ _, Sp.Rise.nil, S4.out.hb⟩
        · have e := HRR.out
          rw [Sp.freesI_bad' _ _ _ _ _ _ HPE.out h0 HM.out (.inl (by simp))] at e
          subst e
          simp only [erO]
          go_wp2_with fail
          try rw [Exit.noGoto_ret]
          go_ret3
          first
            | exact ⟨_, _, rfl, ⟨[], own_nil0 _ _ _ _, rfl⟩, own_nil0 _ _ _ _, Sp.Rise.nil, S4.out.hb⟩
            | exact ⟨_, _, rfl, ⟨[], own_nil0 _ _ _ _, rfl⟩, Nat.zero_le _, own_nil0 _ _ _ _, Sp.Rise.nil, S4.out.hb⟩
end Go.Proofs.YtkcfmjlcijhieaaGreat
