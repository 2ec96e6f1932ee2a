/- Bytes that are left: what the methods of a cut do. Reading: numbers, values. Reading: a number; something done so often, as long as bytes are there. Reading values. Reading values: the whole. Reading: a root, an item. -/
import Derived.Test.YtlpmjeiogdlifaaGreatQB00
import Derived.Deep.AppendLies
import Derived.Deep.RegionLaw
import Derived.Deep.RegionHeld3
set_option linter.unusedSimpArgs false
set_option linter.unusedVariables false
namespace Go.Proofs.YtlpmjeiogdlifaaGreat
open Go.RowKit
attribute [local go_sem low] mk_extract
attribute [local go_sem] After.cell After.frozen mk_extract_end ByteArray.mk_append_mk
def errV (c : Int) : Value := if c = 0 then .nilIface else .iface 69 (.int .i64 c)
def badV (bad : Bool) : Value := if bad then .iface 69 (.int .i64 11) else .nilIface
def CutAt (w : World) (g : Nat) (s : Txt) (bad : Bool) : Prop := Blk w g 238 #[.string ⟨s.toArray⟩, badV bad]
namespace Sp
structure Cut where
  s : Txt
  bad : Bool
def Cut.take (c : Cut) (n : Nat) : Txt := if c.bad = true ∨ c.s.length < n then [] else c.s.take n
def Cut.rest (c : Cut) (n : Nat) : Cut := if c.bad = true ∨ c.s.length < n then ⟨c.s, true⟩ else ⟨c.s.drop n, false⟩
end Sp
set_option maxRecDepth 100000 in
set_option maxHeartbeats 400000 in
theorem cutNew_any (s : Txt) (w : World) :
    Calls Tryz.prog 119 #[.string ⟨s.toArray⟩] w fun e w' => e = .returned (.pointer (some ⟨w.heap.size, 0, none⟩)) ∧ w' = w.alloc (.cells #[.string ⟨s.toArray⟩, badV false] 238) := by
  go_enter Tryz.func119, Tryz.ntmps119
  go_wp2
  go_ret
  exact ⟨rfl, rfl⟩
set_option maxRecDepth 100000 in
set_option maxHeartbeats 400000 in
theorem cutTake_any (n : Int) (hn : 0 ≤ n) (hn2 : n ≤ 4611686018427387904) (g : Nat) (s : Txt) (bad : Bool) (w : World) (hs : s.length ≤ 4611686018427387904) (hc : CutAt w g s bad) :
    Calls Tryz.prog 171 #[.pointer (some ⟨g, 0, none⟩), .int .i64 n] w fun e w' => e = .returned (.string ⟨(Sp.Cut.take ⟨s, bad⟩ n.toNat).toArray⟩) ∧
      CutAt w' g (Sp.Cut.rest ⟨s, bad⟩ n.toNat).s (Sp.Cut.rest ⟨s, bad⟩ n.toNat).bad ∧ Chg (OneM g) w w' := by
  have h0 := hc.cell 0
  have h1 := hc.cell 1
  have f0 := hc.frozen 0
  have f1 := hc.frozen 1
  simp at h0 h1
  have Hc := Lib.hid hc
  clear hc
  cases bad
  · simp only [badV, Bool.false_eq_true, if_false] at h1
    by_cases hl : (s.length : Int) < n
    · go_enter Tryz.func171, Tryz.ntmps171
      go_wp2
      go_ret
      have hn' : s.length < n.toNat := by omega
      refine ⟨?_, ?_, Chg.set1 _ _ _ _⟩
      · simp [Sp.Cut.take, hn']
      · simpa [Sp.Cut.rest, hn', CutAt, badV] using Hc.out.set_ 1 (badV true)
    · go_enter Tryz.func171, Tryz.ntmps171
      go_wp2
      go_ret
      have hn' : ¬ s.length < n.toNat := by omega
      refine ⟨?_, ?_, Chg.set1 _ _ _ _⟩
      · simp [Sp.Cut.take, hn']
      · simpa [Sp.Cut.rest, hn', CutAt, badV] using Hc.out.set_ 0 (.string ⟨(s.drop n.toNat).toArray⟩)
  · simp only [badV, if_true] at h1
    go_enter Tryz.func171, Tryz.ntmps171
    go_wp2
    go_ret
    refine ⟨?_, ?_, Chg.set1 _ _ _ _⟩
    · simp [Sp.Cut.take]
    · simpa [Sp.Cut.rest, CutAt, badV] using Hc.out.set_ 1 (badV true)
set_option maxRecDepth 100000 in
set_option maxHeartbeats 400000 in
theorem cutNum_any (g : Nat) (s : Txt) (bad : Bool) (w : World) (hs : s.length ≤ 4611686018427387904) (hc : CutAt w g s bad) :
    Calls Tryz.prog 120 #[.pointer (some ⟨g, 0, none⟩)] w fun e w' => e = .returned (.int .u64 (Sp.unle (Sp.Cut.take ⟨s, bad⟩ 8))) ∧
      CutAt w' g (Sp.Cut.rest ⟨s, bad⟩ 8).s (Sp.Cut.rest ⟨s, bad⟩ 8).bad ∧ Chg (OneM g) w w' := by
  have Hc := Lib.hid hc
  clear hc
  have hl8 : (Sp.Cut.take ⟨s, bad⟩ 8).length ≤ 8 := by
    unfold Sp.Cut.take
    split
    · simp
    · simp; omega
  go_enter Tryz.func120, Tryz.ntmps120
  go_wp2_with fail
  refine (cutTake_any 8 (by omega) (by omega) g s bad w hs Hc.out).mono ?_
  rintro e w1 ⟨rfl, hc1, hk1⟩
  have Hc1 := Lib.hid hc1
  clear hc1
  simp only [show Int.toNat 8 = 8 from rfl] at *
  generalize hb : Sp.Cut.take ⟨s, bad⟩ 8 = b at *
  have HB := Lib.hid hb
  clear hb
  have hl8' : (b.length : Int) ≤ 8 := by omega
  go_wp2
  go_loop [4, 5] (fun n i => ∃ k : Nat, k ≤ b.length ∧ i = .int .i64 ((k : Int) - 1) ∧ n = .int .u64 (Sp.unle (b.drop k))) (fun _ i => (intOf i + 1).toNat)
  case atStart => exact ⟨b.length, Nat.le_refl _, rfl, by simp [Sp.unle]⟩
  case round =>
    obtain ⟨k, hk, rfl, rfl⟩ := hrel
    by_cases hlt : 0 < k
    · obtain ⟨j, rfl⟩ : ∃ j, k = j + 1 := ⟨k - 1, by omega⟩
      have hr := Sp.unle_lt7 (b.drop (j + 1)) (by simp; omega)
      have HD := Lib.hid (Sp.unle_drop b j (by omega))
      have e1 : ((j + 1 : Nat) : Int) - 1 = (j : Int) := by omega
      rw [e1]
      clear e1
      have HO := Lib.hid (Sp.or_byte (Sp.unle (b.drop (j + 1))) b[j] hr.1 hr.2)
      generalize Sp.unle (b.drop (j + 1)) = m at *
      go_wp2
      refine ⟨⟨j, by omega, by go_num, ?_⟩, by simp [intOf]⟩
      rw [HD.out, ← HO.out]
      rfl
    · have hk0 : k = 0 := by omega
      subst hk0
      go_wp2
      go_ret
      rw [HB.out]
      exact ⟨rfl, Hc1.out, hk1⟩
set_option maxRecDepth 100000 in
set_option maxHeartbeats 400000 in
theorem cutErr_any (g : Nat) (s : Txt) (bad : Bool) (w : World) (hc : CutAt w g s bad) :
    Calls Tryz.prog 220 #[.pointer (some ⟨g, 0, none⟩)] w fun e w' => e = .returned (badV bad) ∧ w = w' := by
  have h1 := hc.cell 1
  simp at h1
  clear hc
  go_enter Tryz.func220, Tryz.ntmps220
  cases bad
  all_goals
    simp only [badV, if_true, Bool.false_eq_true, if_false] at h1 ⊢
    go_wp2
    go_ret
    exact ⟨rfl, rfl⟩
namespace Sp
def Cut.lenOf (b : Txt) : Int := (((b.getD 0 0).toNat : Int) + ((b.getD 1 0).toNat : Int) * 256)
def Cut.text (c : Cut) : Txt × Cut :=
  let b := c.take 2
  if b = [] then ([], c.rest 2) else
    let d := c.rest 2
    let n := (lenOf b).toNat
    (d.take n, if (d.rest n).bad then ⟨c.s, true⟩ else d.rest n)
end Sp
set_option maxRecDepth 100000 in
set_option maxHeartbeats 400000 in
theorem cutText_any (g : Nat) (s : Txt) (bad : Bool) (w : World) (hs : s.length ≤ 4611686018427387904) (hc : CutAt w g s bad) :
    Calls Tryz.prog 177 #[.pointer (some ⟨g, 0, none⟩)] w fun e w' => e = .returned (.string ⟨(Sp.Cut.text ⟨s, bad⟩).1.toArray⟩) ∧
      CutAt w' g (Sp.Cut.text ⟨s, bad⟩).2.s (Sp.Cut.text ⟨s, bad⟩).2.bad ∧ Chg (OneM g) w w' := by
  have h0 := hc.cell 0
  simp at h0
  have Hc := Lib.hid hc
  clear hc
  go_enter Tryz.func177, Tryz.ntmps177
  go_wp2_with fail
  refine (cutTake_any 2 (by omega) (by omega) g s bad w hs Hc.out).mono ?_
  rintro e w1 ⟨rfl, hc1, hk1⟩
  simp only [show Int.toNat 2 = 2 from rfl] at *
  by_cases hb : Sp.Cut.take ⟨s, bad⟩ 2 = []
  · have Hc1 := Lib.hid hc1
    clear hc1
    have HB := Lib.hid hb
    rw [hb]
    clear hb
    go_wp2
    go_ret
    refine ⟨?_, ?_, hk1⟩
    · simp [Sp.Cut.text, HB.out]
    · simpa [Sp.Cut.text, HB.out] using Hc1.out
  · have h2 : (Sp.Cut.take ⟨s, bad⟩ 2).length = 2 ∧ Sp.Cut.rest ⟨s, bad⟩ 2 = ⟨s.drop 2, false⟩ ∧ bad = false := by
      unfold Sp.Cut.take Sp.Cut.rest at *
      split at hb
      · simp at hb
      · rename_i h
        simp only [not_or, Nat.not_lt] at h
        rw [if_neg (by simp [h]), if_neg (by simp [h])]
        refine ⟨?_, rfl, by simpa using h.1⟩
        simp
        omega
    obtain ⟨hl, hr, rfl⟩ := h2
    rw [hr] at hc1
    have HR := Lib.hid hr
    clear hr
    have HT : Hid (Sp.Cut.text ⟨s, false⟩ = _) := Lib.hid (if_neg hb)
    generalize hbb : Sp.Cut.take ⟨s, false⟩ 2 = b at *
    have HB := Lib.hid hbb
    clear hbb
    have Hc1 := Lib.hid hc1
    clear hc1
    obtain ⟨x, y, rfl⟩ : ∃ x y, b = [x, y] := by
      match b, hl with
      | [x, y], _ => exact ⟨x, y, rfl⟩
    have hn0 : 0 ≤ Sp.Cut.lenOf [x, y] ∧ Sp.Cut.lenOf [x, y] ≤ 65535 := by
      have h1 := x.toNat_lt
      have h2 := y.toNat_lt
      simp [Sp.Cut.lenOf]
      omega
    have he : Hid (wrap64 (wrap64 (x.toNat : Int) + wrap64 (wrap64 (y.toNat : Int) * 256)) = Sp.Cut.lenOf [x, y]) := by
      have h1 := x.toNat_lt
      have h2 := y.toNat_lt
      show _ = _
      simp [Sp.Cut.lenOf, wrap64, IntKind.wrap_i64]
      omega
    rw [HR.out] at HT
    generalize Sp.Cut.lenOf [x, y] = n at *
    go_wp2_with fail
    refine wp_region_after (by kernel_rfl) (by kernel_rfl) (w1.heap.size) ?_
    repeat (go_big_quiet_step (fail))
    refine wpQuiet_nil ?_
    intro w2 hb2
    have hc2 := Hc1.out.below hb2 Hc1.out.lt
    have hk2 := hk1.trans (.of_below hb2)
    go_wp2_with fail
    show Calls _ _ #[_, .int .i64 (wrap64 (wrap64 (x.toNat : Int) + wrap64 (wrap64 (y.toNat : Int) * 256)))] _ _
    rw [he.out]
    refine (cutTake_any n (by omega) (by omega) g (s.drop 2) false w2 (by simp; omega) hc2).mono ?_
    rintro e w3 ⟨rfl, hc3, hk3⟩
    have hk4 := hk2.trans hk3
    generalize hd : Sp.Cut.rest ⟨s.drop 2, false⟩ n.toNat = d at *
    have h31 := (hc3.cell 1)
    have h30 := (hc3.cell 0)
    have f30 := (hc3.frozen 0)
    simp at h31 h30
    have Hc3 := Lib.hid hc3
    clear hc3 hc2
    have HDD := Lib.hid hd
    clear hd
    cases hdb : d.bad
    all_goals
      rw [hdb] at h31
      simp only [badV, if_true, Bool.false_eq_true, if_false] at h31
      have HDB := Lib.hid hdb
      clear hdb
      go_wp2
      go_ret
      rw [HT.out]
      simp only [HDB.out, if_true, Bool.false_eq_true, if_false]
    · exact ⟨rfl, HDB.out ▸ Hc3.out, hk4⟩
    · have hx := Hc3.out
      rw [HDB.out] at hx
      exact ⟨rfl, by simpa [CutAt] using hx.set_ 0 (.string ⟨s.toArray⟩), hk4.trans (Chg.set1 _ _ _ _)⟩
end Go.Proofs.YtlpmjeiogdlifaaGreat
namespace Go.Proofs.YtlpmjeiogdlifaaGreat
open Go.RowKit
attribute [local go_sem low] mk_extract
attribute [local go_sem] After.cell After.frozen mk_extract_end ByteArray.mk_append_mk
theorem Chg.step {S T : Nat → Prop} {a b c : World} (k : Chg T b c) (hT : ∀ i, T i → S i ∨ a.heap.size ≤ i) (h : Chg S a b) : Chg S a c :=
  ⟨k.os.trans h.os, k.tape.trans h.tape, k.output.trans h.output, Nat.le_trans h.size k.size, fun i hi hs => (k.block i (Nat.lt_of_lt_of_le hi h.size) (fun t => by
    rcases hT i t with x | x
    · exact hs x
    · omega)).trans (h.block i hi hs)⟩
theorem own_chg {S : Nat → Prop} {w w' : World} {base : Nat} {e : TypeId} {size : Nat} {v : Value} {n : Nat} {xs : List Value} (h : w.ownsRow base e size v n xs) (hk : Chg S w w') (hS : ∀ k, base ≤ k → ¬ S k) : w'.ownsRow base e size v n xs := by
  obtain ⟨h1, h2⟩ := h
  refine ⟨h1, ?_⟩
  rcases h2 with h2 | ⟨g, cap, cur, hv, hg, hh, r⟩
  · exact Or.inl h2
  · exact Or.inr ⟨g, cap, cur, hv, hg, by rw [hk.block g (Array.getElem?_eq_some_iff.1 hh).1 (hS g hg)]; exact hh, r⟩
theorem after_append {w w1 w4 : World} {base : Nat} {e : TypeId} {size : Nat} {v : Value} {n : Nat} {xs : List Value} {o : Obj} {L : Nat} {t : TypeId} {cs : Array Value} (own : w.ownsRow base e size v n xs) (hg : (w1.alloc o).grownBy w4 v.ownBlock)
    (hLb : L < base) (h : Blk w1 L t cs) : Blk w4 L t cs ∧ Chg (fun k => v.ownBlock = some k) (w1.alloc o) w4 := by
  have hk4 : Chg (fun k => v.ownBlock = some k) (w1.alloc o) w4 := Chg.of_grown hg (fun k hk => .inl hk)
  exact ⟨(h.alloc o).chg hk4 (fun e => by have := (own.lt _ e).1; omega), hk4⟩
def Rdk (w w' : World) : Prop := ∀ B cs, Blk w B 184 cs → Blk w' B 184 cs
theorem Rdk.of {S : Nat → Prop} {w w' : World} (hk : Chg S w w') (hS : ∀ k, S k → ∀ cs, ¬ Blk w k 184 cs) : Rdk w w' := fun B cs h => h.chg hk (fun s => hS B s cs h)
theorem Blk.not_ {w : World} {g : Nat} {t t' : TypeId} {cs : Array Value} (h : Blk w g t cs) (hne : t ≠ t') : ∀ cs', ¬ Blk w g t' cs' := fun cs' h' => by
  unfold Blk at h h'
  rw [h] at h'
  injection h' with h'
  injection h' with _ ht
  exact hne ht
theorem own_not {w : World} {base : Nat} {e t : TypeId} {size n : Nat} {v : Value} {xs : List Value} (h : w.ownsRow base e size v n xs) (hne : e ≠ t) : ∀ k, v.ownBlock = some k → ∀ cs, ¬ Blk w k t cs := fun k hk cs hb => by
  rcases h.2 with ⟨rfl, _⟩ | ⟨g', cap, cur, rfl, _, hh, _⟩
  · simp [Value.ownBlock] at hk
  · have : g' = k := by simpa [Value.ownBlock] using hk
    subst this
    exact Blk.not_ (t := e) hh hne cs hb
theorem info_str : (Tryz.prog.info? 9).map (fun i => (i.zero, i.size, i.bytes)) = some (some (.string ⟨#[]⟩), 1, 16) := by kernel_rfl
abbrev StrT : TypeId := 9
set_option maxRecDepth 100000 in
set_option maxHeartbeats 1600000 in
theorem valsC_any (g L R base : Nat) (l : List Txt) (v : Value) (s : Txt) (bad : Bool) (w : World) (hs : s.length ≤ 4611686018427387904) (hc : CutAt w g s bad) (hL : Blk w L 31 #[v])
    (hR : Blk w R 184 #[.pointer (some ⟨g, 0, none⟩)]) (own : w.ownsRow base StrT 1 v l.length (l.map tv)) (hgb : g < base) (hLb : L < base) (hbw : base ≤ w.heap.size) (hl : l.length ≤ 1073741824) :
    Calls Tryz.prog 221 #[.pointer (some ⟨L, 0, none⟩), .pointer (some ⟨R, 0, none⟩)] w fun e w' => e = .returned (.tuple #[]) ∧
      ∃ v', CutAt w' g (Sp.Cut.text ⟨s, bad⟩).2.s (Sp.Cut.text ⟨s, bad⟩).2.bad ∧ Blk w' L 31 #[v'] ∧
        w'.ownsRow base StrT 1 v' (l.length + 1) ((l ++ [(Sp.Cut.text ⟨s, bad⟩).1]).map tv) ∧ Chg (fun k => k = g ∨ k = L ∨ v.ownBlock = some k) w w' := by
  obtain ⟨i0, hi0, hz0, hz1, hz2⟩ := info_parts info_str
  have Hc := Lib.hid hc
  have Own := Lib.hid own
  have HL := Lib.hid hL
  have hLg : L ≠ g := fun e => Blk.not_ (t := 31) hL (by decide) _ (e ▸ hc)
  have hL0 := hL.cell 0
  have hR0 := hR.cell 0
  simp at hL0 hR0
  have hLw := hL.lt
  have hgw := Hc.out.lt
  clear hc own hL hR
  go_enter Tryz.func221, Tryz.ntmps221
  go_wp2
  go_region_law (first
    | (go_simp; go_at_call 177; refine (cutText_any g s bad _ hs ?_).mono ?_; exact Hc.out.drew; rintro e w1 ⟨rfl, hc1, hk1⟩; have hk2 : Chg (OneM g) w w1 := Chg.trans ((Chg.refl _ _).drew) hk1; have HL1 := Lib.hid (HL.out.chg hk2 hLg); have hL1 := HL1.out.cell 0; simp at hL1; have fL1 := HL1.out.frozen 0; have hzw := hk2.size; have hLw1 := Nat.lt_of_lt_of_le hLw hzw)
    | (refine step_append_lies _ rfl (.tmp 2) (.tmp 6) _ rfl base StrT i0 _ 1 16 Tryz.underlying31 hi0 hz0 hz1 hz2 rfl (by omega) v l.length (l.map tv) rfl ?_ _ 1 1 [tv (Sp.Cut.text ⟨s, bad⟩).1] rfl rfl ?_ ?_ (by omega) ?_ ?_ ?_ _ rfl ?_; (exact own_chg Own.out (hk2.alloc _) (fun k hk e => by unfold OneM at e; omega)); (exact cell_one_new _ _ _); (exact fun u hu => by rw [List.mem_singleton.1 hu]; rfl); (simp only [maxLen]; omega); (omega); (first | omega | (simp; done) | (simp; omega)); (intro g2 cap2 w4 hown4 hgr4 hat4 hlt4; have h4 := after_append Own.out hgr4 hLb HL1.out; have HL4 := Lib.hid h4.1; have hk4 := h4.2; clear h4; have hL4 := HL4.out.cell 0; simp at hL4; have fL4 := HL4.out.frozen 0)))
  all_goals
    go_wp2
    go_end0
    refine ⟨rfl, .slice (some ⟨g2, 0, none⟩) (l.length + 1) cap2, ?_, ?_, ?_, ?_⟩
    · exact ((hc1.alloc _).chg hk4 (fun h => by have := (Own.out.lt _ h).1; omega)).far (p := ⟨L, 0, none⟩) (fun e => hLg e.symm) _
    · simpa using HL4.out.set_ 0 (.slice (some ⟨g2, 0, none⟩) (l.length + 1) cap2)
    · rw [List.map_append]; exact own_chg hown4 (Chg.set1 _ L 0 _) (fun k hk e => by unfold OneM at e; omega)
    · exact (Chg.step hk4 (fun i hi => .inl (.inr (.inr hi))) ((hk2.mono (T := fun k => k = g ∨ k = L ∨ v.ownBlock = some k) (fun k _ e => .inl e)).alloc _)).setCell (p := ⟨L, 0, none⟩) (.inl (.inr (.inl rfl))) _
end Go.Proofs.YtlpmjeiogdlifaaGreat
namespace Go.Proofs.YtlpmjeiogdlifaaGreat
open Go.RowKit
attribute [local go_sem low] mk_extract
attribute [local go_sem] After.cell After.frozen mk_extract_end ByteArray.mk_append_mk
namespace Sp
def Cut.num (c : Cut) : Int × Cut := (min (unle (c.take 8)) 1073741824, c.rest 8)
def eachN {α : Type} (f : α → Cut → α × Cut) : Nat → α × Cut → α × Cut
  | 0, s => s
  | n + 1, s => if (eachN f n s).2.bad = true then eachN f n s else f (eachN f n s).1 (eachN f n s).2
theorem eachN_bad {α : Type} (f : α → Cut → α × Cut) (s : α × Cut) {k : Nat} (h : (eachN f k s).2.bad = true) : ∀ d, eachN f (k + d) s = eachN f k s
  | 0 => rfl
  | d + 1 => by
    have ih := eachN_bad f s h d
    have e : eachN f (k + (d + 1)) s = if (eachN f (k + d) s).2.bad = true then eachN f (k + d) s else f (eachN f (k + d) s).1 (eachN f (k + d) s).2 := rfl
    rw [e, ih, if_pos h]
theorem eachN_succ {α : Type} (f : α → Cut → α × Cut) (s : α × Cut) (k : Nat) (h : (eachN f k s).2.bad = false) : eachN f (k + 1) s = f (eachN f k s).1 (eachN f k s).2 := by
  show (if (eachN f k s).2.bad = true then _ else _) = _
  rw [if_neg (by simp [h])]
theorem Cut.rest_len (c : Cut) (n : Nat) : (c.rest n).s.length ≤ c.s.length := by
  unfold Cut.rest
  split
  · exact Nat.le_refl _
  · simp
end Sp
def rdV (g : Nat) : Value := .agg #[.pointer (some ⟨g, 0, none⟩)]
set_option maxRecDepth 100000 in
set_option maxHeartbeats 400000 in
theorem rdNum_any (g : Nat) (s : Txt) (bad : Bool) (w : World) (hs : s.length ≤ 4611686018427387904) (hc : CutAt w g s bad) :
    Calls Tryz.prog 172 #[.agg #[.pointer (some ⟨g, 0, none⟩)]] w fun e w' => e = .returned (.int .i64 (Sp.Cut.num ⟨s, bad⟩).1) ∧
      CutAt w' g (Sp.Cut.num ⟨s, bad⟩).2.s (Sp.Cut.num ⟨s, bad⟩).2.bad ∧ Chg (OneM g) w w' := by
  have Hc := Lib.hid hc
  have hg := hc.lt
  clear hc
  have hl8 : (Sp.Cut.take ⟨s, bad⟩ 8).length ≤ 8 := by
    unfold Sp.Cut.take
    split
    · simp
    · simp; omega
  have hr := Sp.unle_lt8 _ hl8
  have HN := Lib.hid (rfl : (Sp.Cut.num ⟨s, bad⟩).1 = min (Sp.unle (Sp.Cut.take ⟨s, bad⟩ 8)) 1073741824)
  have HC := Lib.hid (rfl : (Sp.Cut.num ⟨s, bad⟩).2 = Sp.Cut.rest ⟨s, bad⟩ 8)
  generalize hu : Sp.unle (Sp.Cut.take ⟨s, bad⟩ 8) = u at *
  have HU := Lib.hid hu
  clear hu
  go_enter Tryz.func172, Tryz.ntmps172
  go_wp2_with (go_at_call 120; refine (cutNum_any g s bad _ hs (Hc.out.alloc _)).mono ?_; rintro e w1 ⟨rfl, hc1, hk1⟩; rw [HU.out])
  all_goals
    go_ret
    refine ⟨ret_int ?_, hc1, Chg.trans ((Chg.refl _ _).alloc _) hk1⟩
    simp only [Sp.Cut.num, HU.out]
    omega
set_option maxRecDepth 100000 in
set_option maxHeartbeats 1600000 in
theorem each_any (n : Int) (hn0 : 0 ≤ n) (hn1 : n ≤ 1073741824) (g fid : Nat) (cap : Array Value) (hcf : ∀ w, (callFunc fid cap).run Tryz.prog w = .ok (.enter fid cap) w)
    (I : Nat → Sp.Cut → World → Prop) (hcut : ∀ (k : Nat) c w, I k c w → CutAt w g c.s c.bad) (hbel : ∀ (k : Nat) c w w', I k c w → Below w.heap.size w w' → I k c w')
    (hcall : ∀ (k : Nat) c w, (k : Int) < n → c.bad = false → I k c w → Calls Tryz.prog fid cap w fun e w' => e = .returned (.tuple #[]) ∧ ∃ c', I (k + 1) c' w' ∧ Rdk w w') (c0 : Sp.Cut) (w : World) (h0 : I 0 c0 w) :
    Calls Tryz.prog 173 #[.agg #[.pointer (some ⟨g, 0, none⟩)], .int .i64 n, .func (.func fid) #[] cap] w fun e w' => e = .returned (.tuple #[]) ∧ ∃ (k : Nat) (c : Sp.Cut), I k c w' ∧ (k : Int) ≤ n ∧ ((k : Int) = n ∨ c.bad = true) := by
  have Hcut := Lib.hid hcut
  have Hbel := Lib.hid hbel
  have Hcall := Lib.hid hcall
  have H0 := Lib.hid h0
  clear hcut hbel hcall h0
  have hsz : w.heap.size < w.heap.size + 1 := by omega
  go_enter Tryz.func173, Tryz.ntmps173
  go_wp2
  go_step3
  go_wp2
  go_step3
  go_wp2
  refine wp_loop_rounds 1 ?_
  rw [rounds_succ]
  go_wp2
  go_loopw [7] (fun i wr => ∃ (k : Nat) (c : Sp.Cut), (k : Int) ≤ n ∧ i = .int .i64 k ∧ Hid (I k c wr) ∧ Hid (Blk wr w.heap.size 184 #[.pointer (some ⟨g, 0, none⟩)])) (fun i _ => (n - intOf i).toNat)
  case atStart => exact ⟨0, c0, hn0, rfl, Hbel.out _ _ _ _ H0.out (by go_grown), Blk.new _ _ _⟩
  case round =>
    obtain ⟨k, c, hk, rfl, hI, hBox⟩ := hrel
    have hbox := hBox.out.cell 0
    simp at hbox
    by_cases hlt : (k : Int) < n
    · cases hb : c.bad
      · have HB := Lib.hid hb
        clear hb
        go_wp2_with (go_at_call 220; refine (cutErr_any g c.s c.bad _ (Hcut.out _ _ _ hI.out)).mono ?_; rw [HB.out]; rintro e w1 ⟨rfl, rfl⟩; simp only [badV, Bool.false_eq_true, if_false])
        refine (Hcall.out k c wr hlt HB.out hI.out).mono ?_
        rintro e w2 ⟨rfl, c2, hI2, hR2⟩
        have HI2 := Lib.hid hI2
        have HBox2 := Lib.hid (hR2 _ _ hBox.out)
        clear hI2 hR2
        go_wp2
        exact ⟨⟨k + 1, c2, by omega, by go_num, HI2.out, HBox2.out⟩, by simp [intOf]; omega⟩
      · have HB := Lib.hid hb
        clear hb
        go_wp2_with (go_at_call 220; refine (cutErr_any g c.s c.bad _ (Hcut.out _ _ _ hI.out)).mono ?_; rw [HB.out]; rintro e w1 ⟨rfl, rfl⟩; simp only [badV, if_true])
        first | rw [Exit.noGoto_ret] | rw [Exit.noGoto_normal] | skip
        first | go_end0 | (refine bodyPost_ret (results_none rfl _ _ _) rfl ?_)
        exact ⟨rfl, k, c, hI.out, hk, .inr HB.out⟩
    · go_wp2
      first | rw [Exit.noGoto_ret] | rw [Exit.noGoto_normal] | skip
      first | go_end0 | (refine bodyPost_ret (results_none rfl _ _ _) rfl ?_)
      exact ⟨rfl, k, c, hI.out, hk, .inl (by omega)⟩
end Go.Proofs.YtlpmjeiogdlifaaGreat
namespace Go.Proofs.YtlpmjeiogdlifaaGreat
open Go.RowKit
attribute [local go_sem low] mk_extract
attribute [local go_sem] After.cell After.frozen mk_extract_end ByteArray.mk_append_mk
def TRow (w : World) (base : Nat) (e : TypeId) (A : Option Addr) (cs : List Value) : Prop :=
  cs.length ≤ 4611686018427387904 ∧ (cs = [] ∨ ∃ b off cur, A = some ⟨b, off, none⟩ ∧ base ≤ b ∧ Blk w b e cur ∧ ∀ j u, cs[j]? = some u → cur[off + j]? = some u)
theorem TRow.chg {S : Nat → Prop} {w w' : World} {base : Nat} {e : TypeId} {A : Option Addr} {cs : List Value} (h : TRow w base e A cs) (hk : Chg S w w') (hS : ∀ k, base ≤ k → S k → ∀ cs, ¬ Blk w k e cs) : TRow w' base e A cs := by
  refine ⟨h.1, ?_⟩
  rcases h.2 with h | ⟨b, off, cur, ha, hb, hB, hc⟩
  · exact .inl h
  · exact .inr ⟨b, off, cur, ha, hb, hB.chg hk (fun s => hS b hb s _ hB), hc⟩
theorem TRow.row {M : Nat → Prop} {w : World} {base : Nat} {e : TypeId} {A : Option Addr} {cs : List Value} (h : TRow w base e A cs) (hM : ∀ k, base ≤ k → ¬ M k) : Row w M A cs := by
  refine ⟨Nat.le_trans h.1 (by decide), ?_⟩
  rcases h.2 with h | ⟨b, off, cur, ha, hb, hB, hc⟩
  · exact .inl h
  · exact .inr ⟨b, off, ha, hB.lt, hM b hb, fun j u hu => (hB.cell _).trans (hc j u hu)⟩
theorem TRow.less {w : World} {base base' : Nat} {e : TypeId} {A : Option Addr} {cs : List Value} (h : TRow w base e A cs) (hb : base' ≤ base) : TRow w base' e A cs := by
  refine ⟨h.1, ?_⟩
  rcases h.2 with h | ⟨b, off, cur, ha, hb2, hB, hc⟩
  · exact .inl h
  · exact .inr ⟨b, off, cur, ha, by omega, hB, hc⟩
theorem TRow.of_own {w : World} {base : Nat} {e : TypeId} {size n : Nat} {A : Option Addr} {c : Nat} {xs : List Value} (h : w.ownsRow base e size (.slice A n c) n xs) (hl : xs.length ≤ 4611686018427387904) : TRow w base e A xs := by
  refine ⟨hl, ?_⟩
  obtain ⟨h1, h2⟩ := h
  rcases h2 with ⟨_, rfl⟩ | ⟨g, cap, cur, hv, hb, hB, _, _, _, ht⟩
  · left
    exact List.eq_nil_of_length_eq_zero (by simpa using h1)
  · right
    injection hv with hA _ _
    refine ⟨g, 0, cur, hA, hb, hB, fun j u hu => ?_⟩
    rw [← ht, List.getElem?_take] at hu
    split at hu
    · simpa using hu
    · cases hu
namespace Sp
theorem Cut.text_len (c : Cut) : c.text.2.s.length ≤ c.s.length := by
  have h1 := c.rest_len 2
  unfold Cut.text
  simp only
  split
  · exact h1
  · split
    · exact Nat.le_refl _
    · exact Nat.le_trans (Cut.rest_len _ _) h1
def textStep (l : List Txt) (c : Cut) : List Txt × Cut := (l ++ [c.text.1], c.text.2)
def Cut.vals (c : Cut) : List Txt × Cut := eachN textStep c.num.1.toNat ([], c.num.2)
theorem Cut.num_rng (c : Cut) : 0 ≤ c.num.1 ∧ c.num.1 ≤ 1073741824 := by
  have hl8 : (c.take 8).length ≤ 8 := by
    unfold Cut.take
    split
    · simp
    · simp; omega
  have := unle_lt8 _ hl8
  simp only [Cut.num]
  omega
end Sp
structure ValsI (g L R base : Nat) (w0 : World) (c1 : Sp.Cut) (k : Nat) (c : Sp.Cut) (w : World) : Prop where
  ex : ∃ l v, Sp.eachN Sp.textStep k ([], c1) = (l, c) ∧ l.length ≤ k ∧ Blk w L 31 #[v] ∧ w.ownsRow base StrT 1 v l.length (l.map tv)
  cut : CutAt w g c.s c.bad
  len : c.s.length ≤ 4611686018427387904
  box : Blk w R 184 #[.pointer (some ⟨g, 0, none⟩)]
  size : base ≤ w.heap.size
  chg : Chg (fun k => k = g ∨ w0.heap.size ≤ k) w0 w
theorem ValsI.below {g L R base : Nat} {w0 : World} {c1 : Sp.Cut} {k : Nat} {c : Sp.Cut} {w w' : World} (h : ValsI g L R base w0 c1 k c w) (hb : Below w.heap.size w w') : ValsI g L R base w0 c1 k c w' := by
  obtain ⟨l, v, he, hl, hL, ho⟩ := h.ex
  have hk : Chg NoM w w' := .of_below hb
  exact ⟨⟨l, v, he, hl, hL.chg hk id, own_chg ho hk (fun _ _ => id)⟩, h.cut.chg hk id, h.len, h.box.chg hk id, Nat.le_trans h.size hb.size, h.chg.trans (hk.mono (fun _ _ e => e.elim))⟩
theorem ValsI.next {g L R base : Nat} {w0 : World} {c1 : Sp.Cut} {k : Nat} {c : Sp.Cut} {w : World} (hgb : g < base) (hLb : L < base) (h0L : w0.heap.size ≤ L) (hb0 : w0.heap.size ≤ base) (hk30 : k ≤ 1073741823) (hbad : c.bad = false) (h : ValsI g L R base w0 c1 k c w) :
    Calls Tryz.prog 221 #[.pointer (some ⟨L, 0, none⟩), .pointer (some ⟨R, 0, none⟩)] w fun e w' => e = .returned (.tuple #[]) ∧ ∃ c', ValsI g L R base w0 c1 (k + 1) c' w' ∧ Rdk w w' := by
  obtain ⟨l, v, he, hl, hL, ho⟩ := h.ex
  refine (valsC_any g L R base l v c.s c.bad w h.len h.cut hL h.box ho hgb hLb h.size (by omega)).mono ?_
  rintro e w' ⟨rfl, v', hc', hL', ho', hk⟩
  have hst : Sp.eachN Sp.textStep (k + 1) ([], c1) = Sp.textStep l c := by
    rw [Sp.eachN_succ _ _ _ (by rw [he]; exact hbad), he]
  have hnot : ∀ i, (i = g ∨ i = L ∨ v.ownBlock = some i) → ∀ cs, ¬ Blk w i 184 cs := fun i hi => by
    rcases hi with rfl | rfl | hi
    · exact Blk.not_ (t := 238) h.cut (by decide)
    · exact Blk.not_ hL (by decide)
    · exact own_not ho (by decide) i hi
  refine ⟨rfl, c.text.2, ⟨⟨l ++ [c.text.1], v', hst, by simp; omega, hL', by simpa using ho'⟩, hc', Nat.le_trans c.text_len h.len, ?_, Nat.le_trans h.size hk.size, ?_⟩, Rdk.of hk hnot⟩
  · exact h.box.chg hk (fun s => hnot R s _ h.box)
  · refine Chg.step hk (fun i hi => ?_) h.chg
    rcases hi with rfl | rfl | hi
    · exact .inl (.inl rfl)
    · exact .inr h0L
    · exact .inr (Nat.le_trans hb0 (ho.lt i hi).1)
theorem callFunc_vals (cap : Array Value) (w : World) : (callFunc 221 cap).run Tryz.prog w = .ok (.enter 221 cap) w := by kernel_rfl
theorem Chg.of_drew {S : Nat → Prop} {w w' : World} (h : Chg S w.drew w') : Chg S w w' := ⟨h.os, h.tape, h.output, h.size, h.block⟩
theorem blk_second (w : World) (o : Obj) (t : TypeId) (cs : Array Value) : Blk ((w.alloc o).alloc (.cells cs t)) (w.heap.size + 1) t cs := by
  have := Blk.new (w.alloc o) t cs
  simpa using this
theorem own_form {w : World} {base : Nat} {e : TypeId} {size n : Nat} {v : Value} {xs : List Value} (h : w.ownsRow base e size v n xs) : ∃ A c, v = .slice A n c := by
  rcases h.2 with ⟨rfl, rfl⟩ | ⟨g, cap, cur, rfl, _⟩
  · exact ⟨none, 0, rfl⟩
  · exact ⟨_, _, rfl⟩
theorem ValsI.start {g : Nat} {w w1 : World} {c1 : Sp.Cut} (hg : g < w.heap.size) (hk : Chg (OneM g) ((w.alloc (.cells #[.pointer (some ⟨g, 0, none⟩)] 184)).alloc (.cells #[.slice none 0 0] 31)) w1)
    (hc : CutAt w1 g c1.s c1.bad) (hl : c1.s.length ≤ 4611686018427387904) : ValsI g (w.heap.size + 1) w.heap.size (w.heap.size + 2) w c1 0 c1 w1 := by
  have hz := hk.size
  simp only [World.size_alloc] at hz
  refine ⟨⟨[], .slice none 0 0, rfl, Nat.le_refl _, (blk_second w _ _ _).chg hk (by unfold OneM; omega), World.ownsRow_nil _ _ _ _⟩, hc, hl, ((Blk.new w _ _).alloc _).chg hk (by unfold OneM; omega), by omega, ?_⟩
  exact Chg.step hk (fun i hi => .inl (.inl hi)) (((Chg.refl _ _).alloc _).alloc _)
namespace Sp
theorem eachN_end {α : Type} {f : α → Cut → α × Cut} {s : α × Cut} {k n : Nat} (hk : k ≤ n) (h : k = n ∨ (eachN f k s).2.bad = true) : eachN f n s = eachN f k s := by
  rcases h with rfl | h
  · rfl
  · have := eachN_bad f s h (n - k)
    rwa [Nat.add_sub_cancel' hk] at this
end Sp
end Go.Proofs.YtlpmjeiogdlifaaGreat
namespace Go.Proofs.YtlpmjeiogdlifaaGreat
open Go.RowKit
attribute [local go_sem low] mk_extract
attribute [local go_sem] After.cell After.frozen mk_extract_end ByteArray.mk_append_mk
set_option maxRecDepth 100000 in
set_option maxHeartbeats 1600000 in
theorem rdVals_any (g : Nat) (s : Txt) (bad : Bool) (w : World) (hs : s.length ≤ 4611686018427387904) (hc : CutAt w g s bad) :
    Calls Tryz.prog 178 #[.agg #[.pointer (some ⟨g, 0, none⟩)]] w fun e w' => ∃ A c, e = .returned (.slice A (Sp.Cut.vals ⟨s, bad⟩).1.length c) ∧
      TRow w' w.heap.size StrT A ((Sp.Cut.vals ⟨s, bad⟩).1.map tv) ∧ CutAt w' g (Sp.Cut.vals ⟨s, bad⟩).2.s (Sp.Cut.vals ⟨s, bad⟩).2.bad ∧ Chg (OneM g) w w' := by
  have Hc := Lib.hid hc
  have hg := hc.lt
  clear hc
  have hmf : ∀ (fn : Fn) (first cap : Array Value) (w : World), (Instr.makeFunc fn first cap).run Tryz.prog w = .ok (.func fn first cap) w := fun _ _ _ _ => rfl
  obtain ⟨hr0, hr1⟩ := Sp.Cut.num_rng ⟨s, bad⟩
  go_enter Tryz.func178, Tryz.ntmps178
  go_wp2
  have hcl := Lib.hid (Sp.Cut.rest_len ⟨s, bad⟩ 8)
  go_region_held3 (fun w' => w'.cell? ⟨w.heap.size, 0, none⟩ = some (.pointer (some ⟨g, 0, none⟩))) (first | exact hbox2 | exact hbox1 | (simp [go_sem]; done)) (first
    | (go_at_call 172; refine (rdNum_any g s bad _ hs ?_).mono ?_; exact (Hc.out.alloc _).alloc _; rintro e w1 ⟨rfl, hc1, hk1⟩; have hI0 := Lib.hid (ValsI.start (c1 := (Sp.Cut.num ⟨s, bad⟩).2) hg (Chg.of_drew hk1) hc1 (Nat.le_trans hcl.out hs)); have hbox1 : w1.cell? ⟨w.heap.size, 0, none⟩ = some (.pointer (some ⟨g, 0, none⟩)) := by have := hI0.out.box.cell 0; simpa using this)
    | (go_at_call 173; refine (each_any _ hr0 hr1 g 221 _ (callFunc_vals _) (ValsI g (w.heap.size + 1) w.heap.size (w.heap.size + 2) w (Sp.Cut.num ⟨s, bad⟩).2) (fun k c w h => h.cut) (fun k c w w' h hb => h.below hb) (fun k c w2 hk hb h => h.next (by omega) (by omega) (by omega) (by omega) (by omega) hb) (Sp.Cut.num ⟨s, bad⟩).2 _ hI0.out).mono ?_; rintro e w2 ⟨rfl, k, c, hI, hkn, hend⟩; have hbox2 : w2.cell? ⟨w.heap.size, 0, none⟩ = some (.pointer (some ⟨g, 0, none⟩)) := by have := hI.box.cell 0; simpa using this))
  all_goals
    obtain ⟨l, v, he, hl, hL, ho⟩ := hI.ex
    obtain ⟨A, cp, rfl⟩ := own_form ho
    have HE := Lib.hid (show Sp.Cut.vals ⟨s, bad⟩ = (l, c) by
      unfold Sp.Cut.vals
      rw [Sp.eachN_end (k := k) (by omega) (by
        rcases hend with h | h
        · exact .inl (by omega)
        · exact .inr (by rw [he]; exact h)), he])
    have HT := Lib.hid (TRow.of_own ho (by simp; omega))
    have HC := Lib.hid hI.cut
    have HK := Lib.hid hI.chg
    have hL2 := hL.cell 0
    simp at hL2
    clear hI he hend ho hL
    go_wp2
    go_ret
    rw [HE.out]
    refine ⟨A, cp, rfl, HT.out.less (by omega), HC.out, HK.out.mono (fun i hi h => ?_)⟩
    rcases h with h | h
    · exact h
    · omega
end Go.Proofs.YtlpmjeiogdlifaaGreat
namespace Go.Proofs.YtlpmjeiogdlifaaGreat
open Go.RowKit
attribute [local go_sem low] mk_extract
attribute [local go_sem] After.cell After.frozen mk_extract_end ByteArray.mk_append_mk
namespace Sp
theorem Cut.num_len (c : Cut) : c.num.2.s.length ≤ c.s.length := c.rest_len 8
def Cut.root (c : Cut) : Root × Cut := (⟨c.num.1, c.num.2.num.1, c.num.2.num.2.num.1⟩, c.num.2.num.2.num.2)
theorem Cut.root_len (c : Cut) : c.root.2.s.length ≤ c.s.length := Nat.le_trans (Cut.num_len _) (Nat.le_trans (Cut.num_len _) (Cut.num_len _))
end Sp
theorem Blk.at3 {w : World} {g : Nat} {t : TypeId} {a b c : Value} (h : Blk w g t #[a, b, c]) : (w.cell? ⟨g, 0, none⟩ = some a ∧ w.cell? ⟨g, 1, none⟩ = some b ∧ w.cell? ⟨g, 2, none⟩ = some c) ∧ w.frozen? ⟨g, 0, none⟩ = false ∧ w.frozen? ⟨g, 1, none⟩ = false ∧ w.frozen? ⟨g, 2, none⟩ = false := by
  refine ⟨⟨?_, ?_, ?_⟩, h.frozen 0, h.frozen 1, h.frozen 2⟩
  · simpa using h.cell 0
  · simpa using h.cell 1
  · simpa using h.cell 2
theorem Blk.at1 {w : World} {g : Nat} {t : TypeId} {a : Value} (h : Blk w g t #[a]) : w.cell? ⟨g, 0, none⟩ = some a := by simpa using h.cell 0
set_option maxRecDepth 100000 in
set_option maxHeartbeats 1600000 in
theorem rdRoot_any (g : Nat) (c : Sp.Cut) (w : World) (hs : c.s.length ≤ 4611686018427387904) (hc : CutAt w g c.s c.bad) :
    Calls Tryz.prog 181 #[.agg #[.pointer (some ⟨g, 0, none⟩)]] w fun e w' => e = .returned (.agg (rootV c.root.1).toArray) ∧ CutAt w' g c.root.2.s c.root.2.bad ∧ Chg (OneM g) w w' := by
  have Hc := Lib.hid hc
  have hg := hc.lt
  have hn0 : ¬ w.heap.size = g := by omega
  have hn1 : ¬ w.heap.size + 1 = g := by omega
  have h1 := Nat.le_trans c.num_len hs
  have h2 := Nat.le_trans c.num.2.num_len h1
  clear hc
  have B0 := Lib.hid ((Blk.new w 184 #[.pointer (some ⟨g, 0, none⟩)]).alloc (.cells #[.int .i64 0, .int .i64 0, .int .i64 0] 43))
  have L0 := Lib.hid (blk_second w (.cells #[.pointer (some ⟨g, 0, none⟩)] 184) 43 #[.int .i64 0, .int .i64 0, .int .i64 0])
  go_enter Tryz.func181, Tryz.ntmps181
  go_wp2_with fail
  refine (rdNum_any g c.s c.bad _ hs ((Hc.out.alloc _).alloc _)).mono ?_
  rintro e w1 ⟨rfl, hc1, hk1⟩
  have B1 := Lib.hid (B0.out.chg hk1 hn0)
  have L1 := Lib.hid (L0.out.chg hk1 hn1)
  have b1 := B1.out.at1
  have Hc1 := Lib.hid hc1
  clear hc1
  go_wp2_with fail
  refine (rdNum_any g c.num.2.s c.num.2.bad _ h1 Hc1.out).mono ?_
  rintro e w2 ⟨rfl, hc2, hk2⟩
  have B2 := Lib.hid (B1.out.chg hk2 hn0)
  have L2 := Lib.hid (L1.out.chg hk2 hn1)
  have b2 := B2.out.at1
  have Hc2 := Lib.hid hc2
  clear hc2
  go_wp2_with fail
  refine (rdNum_any g c.num.2.num.2.s c.num.2.num.2.bad _ h2 Hc2.out).mono ?_
  rintro e w3 ⟨rfl, hc3, hk3⟩
  obtain ⟨⟨l0, l1, l2⟩, f0, f1, f2⟩ := (L2.out.chg hk3 hn1).at3
  have Hc3 := Lib.hid hc3
  clear hc3
  have HK := Lib.hid (((Chg.trans (((Chg.refl _ _).alloc _).alloc _) hk1).trans hk2).trans hk3)
  clear hk1 hk2 hk3
  go_wp2
  refine bodyPost_ret (v := .agg (rootV c.root.1).toArray) (by simp [results, Tryz.results181, go_sem, l0, l1, l2, f0, f1, f2, rootV, Sp.Cut.root]) rfl ⟨rfl, ?_, ?_⟩
  · exact ((Hc3.out.far (p := ⟨w.heap.size + 1, 0, none⟩) (fun e => hn1 e.symm) _).far (p := ⟨w.heap.size + 1, 1, none⟩) (fun e => hn1 e.symm) _).far (p := ⟨w.heap.size + 1, 2, none⟩) (fun e => hn1 e.symm) _
  · exact ((HK.out.setCell (p := ⟨w.heap.size + 1, 0, none⟩) (.inr (by simp)) _).setCell (p := ⟨w.heap.size + 1, 1, none⟩) (.inr (by simp)) _).setCell (p := ⟨w.heap.size + 1, 2, none⟩) (.inr (by simp)) _
end Go.Proofs.YtlpmjeiogdlifaaGreat
