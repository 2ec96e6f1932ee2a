/- Rows of texts: one more put in at its place, one taken out: the library's functions by the shelf's contracts. Many values of a key: an item with these values, on a page. Many values of a key: in memory, whole. -/
import Derived.Test.YtkcfmjlcijhieaaGreatQB09
import Derived.Test.YtkcfmjlcijhieaaGreatQB17
import Derived.Test.YtkcfmjlcijhieaaGreatQB23
import Derived.Test.YtkcfmjlcijhieaaGreatQPDElder03
import Derived.Shelf.Slices.Cells
set_option linter.unusedSimpArgs false
set_option linter.unusedVariables false
namespace Go.Proofs.YtkcfmjlcijhieaaGreat
open Go.RowKit
attribute [local go_sem low] mk_extract
attribute [local go_sem] After.cell After.frozen mk_extract_end ByteArray.mk_append_mk
def renInsertS : Go.Shelf.Ren := ⟨fun | 22 => 83 | 29 => 114 | 30 => 115 | 36 => 144 | 17 => 168 | n => n, fun | 24 => 32 | 9 => 9 | 3 => 3 | 4 => 4 | 0 => 0 | n => n, fun | n => n⟩
theorem layInsertS : Lays2.n22 Tryz.prog renInsertS := {
  mixed := by kernel_rfl
  f17 := Tryz.func168.trans (congrArg some (by kernel_rfl))
  f22 := Tryz.func83.trans (congrArg some (by kernel_rfl))
  f29 := Tryz.func114.trans (congrArg some (by kernel_rfl))
  f30 := Tryz.func115.trans (congrArg some (by kernel_rfl))
  f36 := Tryz.func144.trans (congrArg some (by kernel_rfl))
  t0 := Tryz.underlying0
  a0 := Tryz.isAgg0
  z0 := Tryz.sizeOf0
  v0 := Tryz.zeroValue0
  t3 := Tryz.underlying3
  a3 := Tryz.isAgg3
  z3 := Tryz.sizeOf3
  v3 := Tryz.zeroValue3
  t4 := Tryz.underlying4
  a4 := Tryz.isAgg4
  z4 := Tryz.sizeOf4
  v4 := Tryz.zeroValue4
  t9 := Tryz.underlying9
  a9 := Tryz.isAgg9
  z9 := Tryz.sizeOf9
  v9 := Tryz.zeroValue9
  t24 := Tryz.underlying32
  a24 := Tryz.isAgg32
  z24 := Tryz.sizeOf32
  v24 := Tryz.zeroValue32
  i9 := by kernel_rfl }
def renDeleteS : Go.Shelf.Ren := ⟨fun | 24 => 84 | n => n, fun | 24 => 32 | 9 => 9 | 3 => 3 | 4 => 4 | 0 => 0 | n => n, fun | n => n⟩
theorem layDeleteS : Lays2.n24 Tryz.prog renDeleteS := {
  mixed := by kernel_rfl
  f24 := Tryz.func84.trans (congrArg some (by kernel_rfl))
  t0 := Tryz.underlying0
  a0 := Tryz.isAgg0
  z0 := Tryz.sizeOf0
  v0 := Tryz.zeroValue0
  t3 := Tryz.underlying3
  a3 := Tryz.isAgg3
  z3 := Tryz.sizeOf3
  v3 := Tryz.zeroValue3
  t4 := Tryz.underlying4
  a4 := Tryz.isAgg4
  z4 := Tryz.sizeOf4
  v4 := Tryz.zeroValue4
  t9 := Tryz.underlying9
  a9 := Tryz.isAgg9
  z9 := Tryz.sizeOf9
  v9 := Tryz.zeroValue9
  t24 := Tryz.underlying32
  a24 := Tryz.isAgg32
  z24 := Tryz.sizeOf32
  v24 := Tryz.zeroValue32
  i9 := by kernel_rfl }
theorem own_of_blkS {w : World} {base g cap n : Nat} {cur xs : List Value} (hb : Blk w g StrT cur.toArray) (hg : base ≤ g) (hn : n ≤ cap) (hc : cap ≤ maxLen) (hl : cur.length = cap) (ht : cur.take n = xs) : w.ownsRow base StrT 1 (.slice (some ⟨g, 0, none⟩) n cap) n xs := by
  refine ⟨?_, .inr ⟨g, cap, cur.toArray, rfl, hg, hb, hn, hc, by simp [hl], by simpa using ht⟩⟩
  rw [← ht, List.length_take]
  omega
theorem tv_oneS (l : List Txt) : ∀ v ∈ l.map tv, v.oneCell' = true := fun v hv => by
  obtain ⟨s, _, rfl⟩ := List.mem_map.1 hv
  rfl
theorem own_of_appS {w : World} {base g n : Nat} {xs rest : List Value} (hb : Blk w g StrT (xs ++ rest).toArray) (hg : base ≤ g) (hn : xs.length = n) (hc : (xs ++ rest).length ≤ maxLen) : w.ownsRow base StrT 1 (.slice (some ⟨g, 0, none⟩) n (xs ++ rest).length) n xs :=
  own_of_blkS hb hg (by rw [List.length_append]; omega) hc rfl (by rw [← hn]; exact List.take_left)
theorem zero_rowS (n : Nat) : ∃ zs : List Value, Builtin.zeroCells (Value.string ⟨#[]⟩).cells n = zs.toArray ∧ zs.length = n :=
  ⟨(Builtin.zeroCells (Value.string ⟨#[]⟩).cells n).toList, by simp, by rw [Array.length_toList, size_zeroCells]; simp [Value.cells]⟩
theorem insS_any {w : World} {B : Nat} {u : Value} {L : List Txt} (x : Txt) (k : Nat) (hk : k ≤ L.length) (h : w.ownsRow B StrT 1 u L.length (L.map tv)) (hB : B ≤ w.heap.size) (vb : Nat) (hv : Blk w vb StrT #[.string ⟨x.toArray⟩]) (hvb : ∀ j, u.ownBlock = some j → vb ≠ j) (hn : L.length ≤ 100000) :
    Calls Tryz.prog 83 #[u, .int .i64 (k : Int), .slice (some ⟨vb, 0, none⟩) 1 1] w fun e w' => ∃ u', e = .returned u' ∧ w'.ownsRow B StrT 1 u' (L.length + 1) ((L.take k ++ x :: L.drop k).map tv) ∧ Below B w w' := by
  have hvs : ∀ j v, ([tv x] : List Value)[j]? = some v → w.cell? ⟨vb, 0 + j, none⟩ = some v := fun j v hj => by
    rw [Nat.zero_add]
    refine (hv.cell j).trans ?_
    rw [← hj]
    cases j <;> rfl
  have h1v : ∀ v ∈ ([tv x] : List Value), v.oneCell' = true := fun v hv => by rw [List.mem_singleton.1 hv]; rfl
  have hlm : (L.map tv).length = L.length := List.length_map ..
  have hmx : (maxLen : Nat) = 9223372036854775807 := rfl
  have hG : ∀ n c, L.length + 1 ≤ grownCap w (L.length + 1) c n ∧ grownCap w (L.length + 1) c n ≤ maxLen := fun n c => ⟨grownCap_ge _ _ _ _, grownCap_le_maxLen _ _ _ _ (by rw [hmx]; omega)⟩
  rcases h.2 with ⟨rfl, h0⟩ | ⟨g, cap, cur, rfl, hg, hh, hnc, hcm, hcs, ht⟩
  · have hL : L = [] := List.eq_nil_of_length_eq_zero h0
    subst hL
    obtain rfl : k = 0 := by simpa using hk
    refine (Any2.slices_Insert_string_end_grow layInsertS none 0 0 vb 0 1 1 [] [tv x] w (by omega) (by omega) (by omega) (by omega) rfl rfl (fun _ => rfl) (fun a ha => by cases ha) hvs h1v).mono fun e w' ⟨h1, h2⟩ => ⟨_, h1, ?_, ?_⟩
    · obtain ⟨q1, q2⟩ := hG 9 0
      simp only [List.length_nil] at q1 q2
      obtain ⟨zs, hz, hzl⟩ := zero_rowS (grownCap w (0 + 1) 0 9 - (0 + 1))
      have hb : Blk w' w.heap.size StrT ([tv x] ++ zs).toArray := by
        rw [h2]
        have := Blk.new w.drew StrT (([] ++ [tv x]).toArray ++ zs.toArray)
        rw [← hz, List.nil_append] at this
        rw [show ([tv x] ++ zs).toArray = [tv x].toArray ++ zs.toArray by simp, ← hz]
        exact this
      have hl : ([tv x] ++ zs).length = grownCap w (0 + 1) 0 9 := by rw [List.length_append, hzl]; simp only [List.length_cons, List.length_nil]; omega
      have ho := own_of_appS (base := B) hb hB (n := 1) rfl (by rw [hl]; exact q2)
      rw [hl] at ho
      exact ho
    · rw [h2]
      exact (Below.refl B w).drew.alloc hB _
  · have hb : Blk w g StrT cur := hh
    have hgw := hb.lt
    have hsz : cur.size = cap := by omega
    have htk : cur.toList.take L.length = L.map tv := by simpa using ht
    have hcs' : ∀ j v, (L.map tv)[j]? = some v → w.cell? ⟨g, 0 + j, none⟩ = some v := fun j v hj => by
      rw [Nat.zero_add]
      refine (hb.cell j).trans ?_
      rw [← htk, List.getElem?_take] at hj
      split at hj
      · rw [← hj, Array.getElem?_toList]
      · cases hj
    have hne : vb ≠ g := hvb g rfl
    have hsp : ∀ j, j < cap → (w.cell? ⟨g, 0 + j, none⟩).isSome = true := fun j hj => by
      rw [Nat.zero_add, hb.cell j, Array.getElem?_eq_getElem (by omega)]
      rfl
    have hfz : ∀ j, j < cap → w.frozen? ⟨g, 0 + j, none⟩ = false := fun j _ => hb.frozen (0 + j)
    have hcl : cur.toList = L.map tv ++ cur.toList.drop L.length := by rw [← htk, List.take_append_drop]
    have hbl : Blk w g StrT (L.map tv ++ cur.toList.drop L.length).toArray := by rw [← hcl]; simpa using hb
    have hdl : (cur.toList.drop L.length).length = cap - L.length := by rw [List.length_drop, Array.length_toList, hsz]
    by_cases hroom : L.length + 1 ≤ cap
    · obtain ⟨z, rs, hz⟩ : ∃ z rs, cur.toList.drop L.length = z :: rs := by
        cases hq : cur.toList.drop L.length with
        | nil => rw [hq] at hdl; simp at hdl; omega
        | cons z rs => exact ⟨z, rs, rfl⟩
      rw [hz] at hbl hdl
      have hrs : rs.length = cap - L.length - 1 := by rw [List.length_cons] at hdl; omega
      by_cases hkl : k < L.length
      · have sa : w.shape? vb = some (StrT, 1) := by
          unfold World.shape?
          rw [show w.heap[vb]? = some (.cells #[.string ⟨x.toArray⟩] StrT (0, 0)) from hv]
          rfl
        have sb : w.shape? g = some (StrT, cap) := by
          unfold World.shape?
          rw [hh]
          simp [hsz]
        refine (Any2.slices_Insert_string_shift layInsertS g 0 L.length cap k vb 0 1 1 (L.map tv) [tv x] w hkl (by omega) hroom (by omega) hne hlm rfl hcs' (fun j hj => hsp j (by omega)) (fun j hj => hfz j (by omega)) hvs (tv_oneS L) h1v StrT StrT 1 cap sa sb (by omega) (hv.frozen 0) (hv.frozen 1)).mono fun e w' ⟨h1, h2⟩ => ⟨_, h1, ?_, ?_⟩
        · have hd : ((L.map tv).drop k).length = L.length - k := by rw [List.length_drop, hlm]
          have b1 := blk_setCells ((L.map tv).drop k) (k + 1) (Blk.drew hbl) (by rw [hd, List.length_append, hlm, List.length_cons]; omega)
          have b2 := blk_setCells [tv x] k b1 (by rw [spl_len (by rw [hd, List.length_append, hlm, List.length_cons]; omega), List.length_append, hlm]; simp only [List.length_cons, List.length_nil]; omega)
          have e : spl (spl (L.map tv ++ z :: rs) (k + 1) ((L.map tv).drop k)) k [tv x] = (L.take k ++ x :: L.drop k).map tv ++ rs := by
            obtain ⟨y, ys, hy⟩ : ∃ y ys, L.drop k = y :: ys := by
              cases hq : L.drop k with
              | nil => have := congrArg List.length hq; rw [List.length_drop] at this; simp at this; omega
              | cons y ys => exact ⟨y, ys, rfl⟩
            have hLk : L = L.take k ++ y :: ys := by rw [← hy, List.take_append_drop]
            have hkk : (L.take k).length = k := by rw [List.length_take]; omega
            have hys : ys.length + 1 = L.length - k := by have := congrArg List.length hy; rw [List.length_drop, List.length_cons] at this; omega
            have e1 : L.map tv ++ z :: rs = ((L.take k).map tv ++ [tv y]) ++ (ys.map tv ++ [z]) ++ rs := by
              conv => lhs; rw [hLk]
              simp
            have e2 : (L.map tv).drop k = tv y :: ys.map tv := by rw [← List.map_drop, hy]; rfl
            have l1 : ((L.take k).map tv ++ [tv y]).length = k + 1 := by rw [List.length_append, List.length_map, hkk]; rfl
            have s1 : spl (L.map tv ++ z :: rs) (k + 1) ((L.map tv).drop k) = ((L.take k).map tv ++ [tv y]) ++ (tv y :: ys.map tv) ++ rs := by
              rw [e1, e2]
              exact spl_at l1 (by simp)
            have l2 : ((L.take k).map tv).length = k := by rw [List.length_map, hkk]
            rw [s1, hy, show ((L.take k).map tv ++ [tv y]) ++ (tv y :: ys.map tv) ++ rs = (L.take k).map tv ++ [tv y] ++ (tv y :: ys.map tv ++ rs) by simp, spl_at l2 (by rfl)]
            simp
          have hgo : Blk w' g StrT ((L.take k ++ x :: L.drop k).map tv ++ rs).toArray := by
            rw [h2, ← e, Nat.zero_add, Nat.zero_add]
            exact b2
          have hlen : ((L.take k ++ x :: L.drop k).map tv).length = L.length + 1 := by simp only [List.length_map, List.length_append, List.length_take, List.length_cons, List.length_drop]; omega
          have ho := own_of_appS (base := B) hgo hg (n := L.length + 1) hlen (by rw [List.length_append, hlen, hrs]; omega)
          rw [show ((L.take k ++ x :: L.drop k).map tv ++ rs).length = cap by rw [List.length_append, hlen, hrs]; omega] at ho
          exact ho
        · rw [h2]
          exact ((Below.refl B w).drew).trans (((chg_setCells _ _ _).trans (chg_setCells _ _ _)).below (by show B ≤ w.heap.size; exact hB) (fun j hj e => by have : j = g := e; omega))
      · obtain rfl : k = L.length := by omega
        refine (Any2.slices_Insert_string_end_room layInsertS g 0 L.length cap vb 0 1 1 [tv x] w (by omega) hroom (by omega) rfl (fun j hj => by have := hsp (L.length + j) (by omega); rwa [← Nat.add_assoc] at this) (fun j hj => by have := hfz (L.length + j) (by omega); rwa [← Nat.add_assoc] at this) hvs h1v).mono fun e w' ⟨h1, h2⟩ => ⟨_, h1, ?_, ?_⟩
        · have b1 := blk_setCells [tv x] L.length hbl (by rw [List.length_append, hlm, List.length_cons]; simp only [List.length_cons, List.length_nil]; omega)
          have e : spl (L.map tv ++ z :: rs) L.length [tv x] = (L.take L.length ++ x :: L.drop L.length).map tv ++ rs := by
            rw [show L.map tv ++ z :: rs = L.map tv ++ [z] ++ rs by simp]
            rw [spl_at hlm (by rfl)]
            simp
          have hgo : Blk w' g StrT ((L.take L.length ++ x :: L.drop L.length).map tv ++ rs).toArray := by
            rw [h2, ← e, Nat.zero_add]
            exact b1
          have hlen : ((L.take L.length ++ x :: L.drop L.length).map tv).length = L.length + 1 := by simp
          have ho := own_of_appS (base := B) hgo hg (n := L.length + 1) hlen (by rw [List.length_append, hlen, hrs]; omega)
          rw [show ((L.take L.length ++ x :: L.drop L.length).map tv ++ rs).length = cap by rw [List.length_append, hlen, hrs]; omega] at ho
          exact ho
        · rw [h2]
          exact (chg_setCells _ _ _).below hB (fun j hj e => by have : j = g := e; omega)
    · obtain ⟨q1, q2⟩ := hG 9 cap
      have hcap : L.length = cap := by omega
      by_cases hkl : k < L.length
      · refine (Any2.slices_Insert_string_grow layInsertS g 0 L.length cap k vb 0 1 1 (L.map tv) [tv x] w hkl (by omega) (by omega) (by omega) (by omega) hlm rfl hcs' hvs (tv_oneS L) h1v).mono fun e w' ⟨h1, h2⟩ => ⟨_, h1, ?_, ?_⟩
        · obtain ⟨z1, hz1, hzl1⟩ := zero_rowS (L.length + 1 - k)
          obtain ⟨z2, hz2, hzl2⟩ := zero_rowS (grownCap w (L.length + 1) cap 9 - (L.length + 1))
          obtain ⟨z0, zr, hzz⟩ : ∃ z rs, z1 = z :: rs := by
            cases z1 with
            | nil => simp at hzl1; omega
            | cons z rs => exact ⟨z, rs, rfl⟩
          subst hzz
          rw [List.length_cons] at hzl1
          have ltk : ((L.map tv).take k).length = k := by rw [List.length_take, hlm]; omega
          have ldk : ((L.map tv).drop k).length = L.length - k := by rw [List.length_drop, hlm]
          have b0 : Blk (w.alloc (.cells (((L.map tv).take k).toArray ++ (z0 :: zr).toArray ++ z2.toArray) StrT)) w.heap.size StrT ((L.map tv).take k ++ (z0 :: zr) ++ z2).toArray := by
            have := Blk.new w StrT (((L.map tv).take k).toArray ++ (z0 :: zr).toArray ++ z2.toArray)
            simpa using this
          have b1 := blk_setCells [tv x] k (Blk.drew b0) (by simp only [List.length_append, ltk, List.length_cons, List.length_nil]; omega)
          rw [show (L.map tv).take k ++ (z0 :: zr) ++ z2 = (L.map tv).take k ++ [z0] ++ (zr ++ z2) by simp, spl_at ltk (by rfl)] at b1
          have b2 := blk_setCells ((L.map tv).drop k) (k + 1) (Blk.drew b1) (by simp only [List.length_append, ltk, ldk, List.length_cons, List.length_nil]; omega)
          rw [show (L.map tv).take k ++ [tv x] ++ (zr ++ z2) = ((L.map tv).take k ++ [tv x]) ++ zr ++ z2 by simp, spl_at (by rw [List.length_append, ltk]; rfl) (by rw [ldk]; omega)] at b2
          have hgo : Blk w' w.heap.size StrT ((L.take k ++ x :: L.drop k).map tv ++ z2).toArray := by
            rw [h2]
            have e : (L.take k ++ x :: L.drop k).map tv ++ z2 = (L.map tv).take k ++ [tv x] ++ (L.map tv).drop k ++ z2 := by simp
            rw [e]
            rw [hz1, show Builtin.zeroCells (Value.string ⟨#[]⟩).cells (grownCap w (L.length + 1) cap (renInsertS.t 9) - (L.length + 1)) = z2.toArray from hz2]
            exact b2
          have hlen : ((L.take k ++ x :: L.drop k).map tv).length = L.length + 1 := by simp only [List.length_map, List.length_append, List.length_take, List.length_cons, List.length_drop]; omega
          have hl : ((L.take k ++ x :: L.drop k).map tv ++ z2).length = grownCap w (L.length + 1) cap 9 := by rw [List.length_append, hlen, hzl2]; omega
          have ho := own_of_appS (base := B) hgo hB (n := L.length + 1) hlen (by rw [hl]; exact q2)
          rw [hl] at ho
          exact ho
        · rw [h2]
          have k1 : ∀ (W : World) (vs : List Value) (o : Nat), w.heap.size ≤ W.heap.size → Below B W (W.setCells w.heap.size o vs) := fun W vs o hW => (chg_setCells vs o W).below (by omega) (fun j hj e => by have : j = w.heap.size := e; omega)
          have k0 : ∀ (W : World) (vs : List Value) (o : Nat), (W.setCells w.heap.size o vs).heap.size = W.heap.size := fun W vs o => by
            have h1 : ∀ (vs : List Value) (o : Nat) (W : World), (W.setCells w.heap.size o vs).heap.size = W.heap.size := by
              intro vs
              induction vs with
              | nil => intro o W; rfl
              | cons v r ih => intro o W; show ((W.setCell _ v).setCells _ (o + 1) r).heap.size = _; rw [ih]; simp
            exact h1 vs o W
          refine (((((Below.refl B w).alloc hB _).drew.trans (k1 _ _ _ ?_)).drew).trans (k1 _ _ _ ?_))
          · simp
          · show w.heap.size ≤ (World.setCells _ _ _ _).heap.size
            rw [k0]
            simp
      · obtain rfl : k = L.length := by omega
        refine (Any2.slices_Insert_string_end_grow layInsertS (some ⟨g, 0, none⟩) L.length cap vb 0 1 1 (L.map tv) [tv x] w (by omega) (by omega) (by omega) (by omega) hlm rfl (fun e => by cases e) (fun a ha j v hj => by injection ha with ha; subst ha; rw [Go.WideShapes.add_plain]; exact hcs' j v hj) hvs h1v).mono fun e w' ⟨h1, h2⟩ => ⟨_, h1, ?_, ?_⟩
        · obtain ⟨zs, hz, hzl⟩ := zero_rowS (grownCap w (L.length + 1) cap 9 - (L.length + 1))
          have hlen : ((L.take L.length ++ x :: L.drop L.length).map tv).length = L.length + 1 := by simp
          have hgo : Blk w' w.heap.size StrT ((L.take L.length ++ x :: L.drop L.length).map tv ++ zs).toArray := by
            rw [h2, show Builtin.zeroCells (Value.string ⟨#[]⟩).cells (grownCap w (L.length + 1) cap (renInsertS.t 9) - (L.length + 1)) = zs.toArray from hz]
            have := Blk.new w.drew StrT ((L.map tv ++ [tv x]).toArray ++ zs.toArray)
            show Blk (w.drew.alloc (.cells ((L.map tv ++ [tv x]).toArray ++ zs.toArray) StrT)) w.drew.heap.size StrT _
            rw [show (L.take L.length ++ x :: L.drop L.length).map tv ++ zs = L.map tv ++ [tv x] ++ zs by simp]
            simpa using this
          have hl : ((L.take L.length ++ x :: L.drop L.length).map tv ++ zs).length = grownCap w (L.length + 1) cap 9 := by rw [List.length_append, hlen, hzl]; omega
          have ho := own_of_appS (base := B) hgo hB (n := L.length + 1) hlen (by rw [hl]; exact q2)
          rw [hl] at ho
          exact ho
        · rw [h2]
          exact (Below.refl B w).drew.alloc hB _
theorem delS_any {w : World} {B : Nat} {u : Value} {L : List Txt} (k : Nat) (hk : k < L.length) (h : w.ownsRow B StrT 1 u L.length (L.map tv)) (hB : B ≤ w.heap.size) :
    Calls Tryz.prog 84 #[u, .int .i64 (k : Int), .int .i64 ((k : Int) + 1)] w fun e w' => ∃ u', e = .returned u' ∧ w'.ownsRow B StrT 1 u' (L.length - 1) ((L.eraseIdx k).map tv) ∧ Below B w w' := by
  rcases h.2 with ⟨rfl, h0⟩ | ⟨g, cap, cur, rfl, hg, hh, hnc, hcm, hcs, ht⟩
  · omega
  · have hb : Blk w g StrT cur := hh
    have hsz : cur.size = cap := by omega
    have htk : cur.toList.take L.length = L.map tv := by simpa using ht
    have hc : ∀ i, i < L.length → w.cell? ⟨g, 0 + i, none⟩ = some (.string ((fun i => (⟨(L.getD i []).toArray⟩ : ByteArray)) i)) := fun i hi => by
      rw [Nat.zero_add]
      refine (hb.cell i).trans ?_
      have : (cur.toList.take L.length)[i]? = (L.map tv)[i]? := by rw [htk]
      rw [List.getElem?_take, if_pos hi, List.getElem?_map, List.getElem?_eq_getElem hi] at this
      rw [← Array.getElem?_toList, this]
      simp [tv, List.getD, hi]
    have hS : Lib.strsOf (fun i => (⟨(L.getD i []).toArray⟩ : ByteArray)) L.length = L := by
      refine List.ext_getElem (by simp [Lib.strsOf]) fun i h1 h2 => ?_
      simp [Lib.strsOf, List.getD, h2]
    have hE : Lib.strsOf (fun i => (⟨(L.getD i []).toArray⟩ : ByteArray)) L.length = L := hS
    refine (Any.slices_Delete_string_cells layDeleteS g 0 L.length cap k (k + 1) (fun i => ⟨(L.getD i []).toArray⟩) w hnc (by unfold maxLen at hcm; omega) (by omega) (by omega) hc (fun j _ => hb.frozen (0 + j))).mono fun e w' ⟨h1, q, h2⟩ => ⟨_, h1, ?_, ?_⟩
    · rw [hS] at h2
      have hkk : k + 1 - k = 1 := by omega
      rw [hkk] at h2 ⊢
      have hv : (L.take k ++ L.drop (k + 1) ++ List.replicate 1 []).map encStr = (L.eraseIdx k).map tv ++ [tv []] := by
        rw [List.eraseIdx_eq_take_drop_succ, List.map_append]
        rfl
      rw [hv] at h2
      have hel : ((L.eraseIdx k).map tv).length = L.length - 1 := by rw [List.length_map, List.length_eraseIdx, if_pos hk]
      have hcl : cur.toList.length = cap := by rw [Array.length_toList]; exact hsz
      have b0 : Blk (w.drewN q) g StrT cur.toList.toArray := by have := hb.drewN q; simpa using this
      have b1 := blk_setCells ((L.eraseIdx k).map tv ++ [tv []]) 0 b0 (by rw [List.length_append, hel, hcl]; simp only [List.length_cons, List.length_nil]; omega)
      have hsp : spl cur.toList 0 ((L.eraseIdx k).map tv ++ [tv []]) = (L.eraseIdx k).map tv ++ ([tv []] ++ cur.toList.drop L.length) := by
        unfold spl
        rw [List.take_zero, List.nil_append, List.append_assoc]
        congr 3
        rw [List.length_append, hel]
        simp only [List.length_cons, List.length_nil]
        omega
      rw [hsp] at b1
      have hlen : ((L.eraseIdx k).map tv ++ ([tv []] ++ cur.toList.drop L.length)).length = cap := by
        rw [List.length_append, hel, List.length_append, List.length_drop, hcl]
        simp only [List.length_cons, List.length_nil]
        omega
      have ho := own_of_appS (base := B) (w := w') (g := g) (n := L.length - 1) (by rw [h2]; exact b1) hg hel (by rw [hlen]; exact hcm)
      rw [hlen] at ho
      exact ho
    · rw [h2]
      exact (below_drewN (Below.refl B w) q).trans ((chg_setCells _ _ _).below (by show B ≤ w.heap.size; exact hB) (fun j hj e => by have : j = g := e; omega))
end Go.Proofs.YtkcfmjlcijhieaaGreat
namespace Go.Proofs.YtkcfmjlcijhieaaGreat
open Go.RowKit
attribute [local go_sem low] mk_extract
attribute [local go_sem] After.cell After.frozen mk_extract_end ByteArray.mk_append_mk
abbrev dpRef (A : Option Addr) (c : Nat) : Refs := ⟨none, none, none, A, none, 0, 0, 0, c, 0⟩
theorem dpRd {w : World} {M : Nat → Prop} {A : Option Addr} {l : List Txt} (c : Nat) (h : Txts w M A l) : PageRd w M (Sp.dpPg l) (dpRef A c) :=
  ⟨Items.nil_, Row.nil_, Row.nil_, h, Frees.nil_, by simp [Sp.dpPg, Sp.mt0]⟩
abbrev dpV (A : Option Addr) (n c : Nat) : Array Value := #[.int .i64 4, .slice none 0 0, .slice none 0 0, .slice none 0 0, .string ⟨#[]⟩, .slice A n c, .slice none 0 0, .int .i64 0, .int .u64 0, .int .i64 0, .int .i64 0, .int .i64 0, .int .i64 0, .int .i64 0]
set_option maxRecDepth 100000 in
set_option maxHeartbeats 1600000 in
theorem with_new (M : Nat → Prop) (t f m d : Nat) (fv : Value) (V : List Txt) (s s1 : Sp.Sto) (k : Txt) (kind : Int) (A0 : Option Addr) (n0 c0 : Nat) (l : List Txt) (A : Option Addr) (c : Nat) (n : Int) (w : World) (h : StAt w M t f m d fv V s) (hok : s.Ok) (hl : 3 < l.length) (hl2 : l.length ≤ 1000) (ht : Txts w (TwoM t d) A l) (ha : s.add (Sp.dpPg l) = ((n, none), s1)) :
    Calls Tryz.prog 82 #[.pointer (some ⟨t, 0, none⟩), .agg (itA k kind A0 n0 c0 0), .slice A l.length c] w fun e w' => e = .returned (.tuple #[.agg (itA k 3 none 0 0 n), .nilIface]) ∧ StAt w' M t f m d fv V s1 ∧ Chg (TwoM t d) w w' := by
  have HN := Lib.hid (WdS.new_ h ht (itA k kind A0 n0 c0 0) itZ0 (itA k 3 none 0 0 0))
  have HMM := Lib.hid h.hM
  have HA := Lib.hid ha
  clear h ht ha
  go_enter Tryz.func82, Tryz.ntmps82
  go_upto_region 2 with (refine wpList_new ItemT _ _ rfl rfl rfl rfl rfl rfl _ rfl (of_decide_eq_true (by kernel_rfl)) (by kernel_rfl) (by kernel_rfl) (by kernel_rfl) ?_)
  refine wp_gen _ HN.out ?_
  intro W1 hW1
  have S1 := Lib.hid hW1
  clear hW1 HN
  go_upto_region 7 with (refine wpList_new PageT _ _ rfl rfl rfl rfl rfl rfl _ rfl (of_decide_eq_true (by kernel_rfl)) (by kernel_rfl) (by kernel_rfl) (by kernel_rfl) ?_)
  refine wp_gen (fun W => WdS w M t f m d fv V s A l w.heap.size (w.heap.size + 1) (w.heap.size + 2) (itA k kind A0 n0 c0 0) itZ0 (itA k 3 none 0 0 0) W ∧ Blk W W1.heap.size PageT (dpV A l.length c)) ⟨S1.out.go ((Below.refl _ _).alloc (Nat.le_refl _) _), Blk.new W1 PageT _⟩ ?_
  rintro W2 ⟨hW2, hp2⟩
  have S2 := Lib.hid hW2
  have HP2 := Lib.hid hp2
  clear hW2 S1 hp2
  have c6 : W2.cell? ⟨w.heap.size, 6, none⟩ = some (.int .i64 0) := S2.out.bx.cell 6
  have HAD := Lib.hid (stoAdd_any _ t f m d fv V s (Sp.dpPg l) (dpRef A c) W2 S2.out.st hok (dpRd c S2.out.tx) (fun k h => .inl h))
  rw [HA.out] at HAD
  go_upto_region 13 with (first
    | (refine wpList_row PageT _ rfl W1.heap.size rfl rfl PageT _ (0, 0) _ HP2.out Tryz.underlying39 rfl rfl ?_)
    | (go_at_call 29; refine HAD.out.mono ?_; rintro e w3 ⟨rfl, hst3, hk3⟩; have S3 := Lib.hid (S2.out.turn hst3 hk3); clear hst3 hk3; simp only [erO]; have f6 := S3.out.bo.frozen 6; have c63 : w3.cell? ⟨w.heap.size + 2, 6, none⟩ = some (.int .i64 0) := S3.out.bo.cell 6))
  refine wp_gen _ (S3.out.setO 6 (.int .i64 n)) ?_
  intro W4 hW4
  have S4 := Lib.hid (show WdS w M t f m d fv V s1 A l w.heap.size (w.heap.size + 1) (w.heap.size + 2) (itA k kind A0 n0 c0 0) itZ0 (itA k 3 none 0 0 n) W4 from hW4)
  clear hW4 S3 f6 c63 HAD S2 HP2 c6
  go_wp2_with (first
    | (refine wpList_row ItemT _ rfl (w.heap.size + 2) rfl rfl ItemT _ (0, 0) _ S4.out.bo Tryz.underlying90 rfl rfl ?_)
    | (refine wpList_store_row rfl ItemT _ _ rfl (w.heap.size + 1) _ rfl rfl ItemT _ S4.out.bz (by kernel_rfl) rfl (itA_all _ _ _ _ _ _) ?_))
  obtain ⟨z0, z1, z2, z3, z4, z5, z6, z7, z8, z9⟩ := (S4.out.bz.row (ds := itA k 3 none 0 0 n)).at10.1
  refine bodyPost_ret (v := .tuple #[.agg (itA k 3 none 0 0 n), .nilIface]) (by simp [results, Tryz.results82, go_sem, z0, z1, z2, z3, z4, z5, z6, z7, z8, z9]) rfl ⟨rfl, ?_, chg_setRowN S4.out.ck (.inr (by omega)) _⟩
  exact (S4.out.st.one S4.out.bz (.inr (.inl rfl)) (chg_setRowN (Chg.refl (OneM _) _) (.inl rfl) _)).oldMs HMM.out
set_option maxRecDepth 100000 in
set_option maxHeartbeats 1600000 in
theorem with_old (M : Nat → Prop) (t f m d : Nat) (fv : Value) (V : List Txt) (s : Sp.Sto) (q : Sp.Page) (k : Txt) (kind : Int) (A0 : Option Addr) (n0 c0 : Nat) (i : Int) (l : List Txt) (A : Option Addr) (c : Nat) (w : World) (h : StAt w M t f m d fv V s) (hok : s.Ok) (hV : V.length ≤ 400) (hi : 2 ≤ i ∧ i < 400) (hl : 3 < l.length) (hl2 : l.length ≤ 1000) (ht : Txts w (TwoM t d) A l) (hq : Sp.lookD s.d i = some q) (hv : Sp.isVals l 4 12 = true) :
    Calls Tryz.prog 82 #[.pointer (some ⟨t, 0, none⟩), .agg (itA k kind A0 n0 c0 i), .slice A l.length c] w fun e w' => e = .returned (.tuple #[.agg (itA k 3 none 0 0 i), .nilIface]) ∧ StAt w' M t f m d fv V { s with d := Sp.putD s.d i (Sp.dpPg l) } ∧ Chg (TwoM t d) w w' := by
  have HN := Lib.hid (WdS.new_ h ht (itA k kind A0 n0 c0 i) itZ0 (itA k 3 none 0 0 0))
  have HMM := Lib.hid h.hM
  have HT := Lib.hid (s.touch_made V i q hq)
  have HS := Lib.hid (Sp.Sto.set_yes s i (Sp.dpPg l) q hq (Sp.dp_is hv))
  have hi0 : ¬ i = 0 := by omega
  clear h ht hq hv
  go_enter Tryz.func82, Tryz.ntmps82
  go_upto_region 2 with (refine wpList_new ItemT _ _ rfl rfl rfl rfl rfl rfl _ rfl (of_decide_eq_true (by kernel_rfl)) (by kernel_rfl) (by kernel_rfl) (by kernel_rfl) ?_)
  refine wp_gen _ HN.out ?_
  intro W1 hW1
  have S1 := Lib.hid hW1
  clear hW1 HN
  go_upto_region 7 with (refine wpList_new PageT _ _ rfl rfl rfl rfl rfl rfl _ rfl (of_decide_eq_true (by kernel_rfl)) (by kernel_rfl) (by kernel_rfl) (by kernel_rfl) ?_)
  refine wp_gen (fun W => WdS w M t f m d fv V s A l w.heap.size (w.heap.size + 1) (w.heap.size + 2) (itA k kind A0 n0 c0 i) itZ0 (itA k 3 none 0 0 0) W ∧ Blk W W1.heap.size PageT (dpV A l.length c)) ⟨S1.out.go ((Below.refl _ _).alloc (Nat.le_refl _) _), Blk.new W1 PageT _⟩ ?_
  rintro W2 ⟨hW2, hp2⟩
  have S2 := Lib.hid hW2
  have HP2 := Lib.hid hp2
  have hz12 : w.heap.size + 2 < W1.heap.size := S1.out.bo.lt
  clear hW2 S1 hp2
  have c6 : W2.cell? ⟨w.heap.size, 6, none⟩ = some (.int .i64 i) := S2.out.bx.cell 6
  have HTC := Lib.hid (stoTouch_any _ t f m d fv V s i W2 S2.out.st hok hV)
  rw [HT.out] at HTC
  go_upto_region 11 with (go_at_call 39; refine HTC.out.mono ?_; rintro e w3 ⟨rfl, hst3, hk3⟩; have S3 := Lib.hid (S2.out.turn hst3 hk3); have HP3 := Lib.hid (HP2.out.chg hk3 (S2.out.st.not_kind (by decide) _ _ HP2.out)); clear hst3 hk3; simp only [erO]; have f6 := S3.out.bo.frozen 6; have c63 : w3.cell? ⟨w.heap.size + 2, 6, none⟩ = some (.int .i64 0) := S3.out.bo.cell 6)
  refine wp_gen (fun W => WdS w M t f m d fv V s A l w.heap.size (w.heap.size + 1) (w.heap.size + 2) (itA k kind A0 n0 c0 i) itZ0 (itA k 3 none 0 0 i) W ∧ Blk W W1.heap.size PageT (dpV A l.length c)) ⟨S3.out.setO 6 (.int .i64 i), HP3.out.far (by show W1.heap.size ≠ w.heap.size + 2; omega) _⟩ ?_
  rintro W4 ⟨hW4, hp4⟩
  have S4 := Lib.hid hW4
  have HP4 := Lib.hid hp4
  clear hW4 hp4 S3 HP3 f6 c63 HTC S2 HP2 c6
  have c64 : W4.cell? ⟨w.heap.size + 2, 6, none⟩ = some (.int .i64 i) := S4.out.bo.cell 6
  have HSC := Lib.hid (stoSet_any _ t f m d fv V s i (Sp.dpPg l) (dpRef A c) W4 S4.out.st (dpRd c S4.out.tx) (fun k h => .inl h))
  rw [HS.out] at HSC
  go_upto_region 15 with (first
    | (refine wpList_row PageT _ rfl W1.heap.size rfl rfl PageT _ (0, 0) _ HP4.out Tryz.underlying39 rfl rfl ?_)
    | (go_at_call 38; refine HSC.out.mono ?_; rintro e w5 ⟨rfl, hst5, hk5⟩; have S5 := Lib.hid (S4.out.turn hst5 hk5); clear hst5 hk5; simp only [erO]))
  clear S4 HP4 c64 HSC
  go_wp2_with (first
    | (refine wpList_row ItemT _ rfl (w.heap.size + 2) rfl rfl ItemT _ (0, 0) _ S5.out.bo Tryz.underlying90 rfl rfl ?_)
    | (refine wpList_store_row rfl ItemT _ _ rfl (w.heap.size + 1) _ rfl rfl ItemT _ S5.out.bz (by kernel_rfl) rfl (itA_all _ _ _ _ _ _) ?_))
  obtain ⟨z0, z1, z2, z3, z4, z5, z6, z7, z8, z9⟩ := (S5.out.bz.row (ds := itA k 3 none 0 0 i)).at10.1
  refine bodyPost_ret (v := .tuple #[.agg (itA k 3 none 0 0 i), .nilIface]) (by simp [results, Tryz.results82, go_sem, z0, z1, z2, z3, z4, z5, z6, z7, z8, z9]) rfl ⟨rfl, ?_, chg_setRowN S5.out.ck (.inr (by omega)) _⟩
  exact (S5.out.st.one S5.out.bz (.inr (.inl rfl)) (chg_setRowN (Chg.refl (OneM _) _) (.inl rfl) _)).oldMs HMM.out
end Go.Proofs.YtkcfmjlcijhieaaGreat
namespace Go.Proofs.YtkcfmjlcijhieaaGreat
open Go.RowKit
attribute [local go_sem low] mk_extract
attribute [local go_sem] After.cell After.frozen mk_extract_end ByteArray.mk_append_mk
theorem exec_item {o : Oper} {a : Act} {w : World} (x : Operand) (ho : o.op = .load ItemT x) (g : Nat) (hx : a.eval x = .pointer (some ⟨g, 0, none⟩)) (cs : Array Value) (hg : Blk w g ItemT cs) (hi : cs.size = 10) : (execOp a.eval o).run Tryz.prog w = .ok (.value (.agg cs)) w := by
  have hsz : (Tryz.prog.info? ItemT).map (·.size) = some cs.size := by rw [hi]; kernel_rfl
  have hl := run_loadVar_row (P := Tryz.prog) w g ItemT ItemT cs (0, 0) _ hg Tryz.underlying90 rfl hsz
  unfold execOp
  simp only [ho, hx, Instr.loadAt, Instr.sureAddr, Sem.run_bind, Sem.run_pure, Result.andThen_ok, hl]
/-- A slice of texts in a block of texts. -/
structure TxK (w : World) (A : Option Addr) (l : List Txt) : Prop where
  tx : Txts w NoM A l
  blk : ∀ b off, A = some ⟨b, off, none⟩ → l ≠ [] → ∃ cs, Blk w b StrT cs
theorem TxK.nil {w : World} {A : Option Addr} : TxK w A [] := ⟨Row.nil_, fun _ _ _ h => absurd rfl h⟩
theorem TxK.txts {w : World} {A : Option Addr} {l : List Txt} {N : Nat → Prop} (h : TxK w A l) (hN : ∀ k cs, Blk w k StrT cs → ¬ N k) : Txts w N A l := by
  refine ⟨h.tx.1, ?_⟩
  rcases h.tx.2 with h1 | ⟨b, off, e, hb, _, hc⟩
  · exact .inl h1
  · by_cases hl : l = []
    · exact .inl (by rw [hl]; rfl)
    · obtain ⟨cs, hbk⟩ := h.blk b off e hl
      exact .inr ⟨b, off, e, hb, hN b cs hbk, hc⟩
theorem TxK.chg {S : Nat → Prop} {w w' : World} {A : Option Addr} {l : List Txt} (h : TxK w A l) (hk : Chg S w w') (hS : ∀ k cs, Blk w k StrT cs → ¬ S k) : TxK w' A l := by
  refine ⟨Row.anti ((h.txts hS).chg hk) (fun _ h => absurd h (fun h => h)), fun b off e hl => ?_⟩
  obtain ⟨cs, hb⟩ := h.blk b off e hl
  exact ⟨cs, hb.chg hk (hS b cs hb)⟩
/-- An item whose values are these. -/
structure DuI (l : List Txt) (kind : Int) (A : Option Addr) (n : Nat) (dup : Int) (w : World) : Prop where
  z : l = [] → kind = 0
  nz : l ≠ [] → kind = 3
  dp : dup = Sp.duP l
  few : l.length ≤ 3 → n = l.length ∧ TxK w A l
  many : 3 < l.length → n = 0
theorem DuI.chg {S : Nat → Prop} {l : List Txt} {kind dup : Int} {A : Option Addr} {n : Nat} {w w' : World} (h : DuI l kind A n dup w) (hk : Chg S w w') (hS : ∀ k cs, Blk w k StrT cs → ¬ S k) : DuI l kind A n dup w' :=
  ⟨h.z, h.nz, h.dp, fun hl => ⟨(h.few hl).1, (h.few hl).2.chg hk hS⟩, h.many⟩
theorem DuI.nil {w : World} : DuI [] 0 none 0 0 w := ⟨fun _ => rfl, fun h => absurd rfl h, rfl, fun _ => ⟨rfl, TxK.nil⟩, fun h => by simp at h⟩
theorem duVals_any (M : Nat → Prop) (t f m d : Nat) (fv : Value) (V : List Txt) (s : Sp.Sto) (k : Txt) (l : List Txt) (kind : Int) (A : Option Addr) (n c : Nat) (dup : Int) (w : World) (h : StAt w M t f m d fv V s) (hd : Sp.DuSt l s) (hi : DuI l kind A n dup w) (hne : l ≠ []) (h12 : l.length ≤ 12) :
    Calls Tryz.prog 51 #[.pointer (some ⟨t, 0, none⟩), .agg (itA k kind A n c dup)] w fun e w' => ∃ A' c', e = .returned (.tuple #[.slice A' l.length c', .nilIface]) ∧ w'.ownsRow w.heap.size StrT 1 (.slice A' l.length c') l.length (l.map tv) ∧ Below w.heap.size w w' := by
  obtain rfl := hi.nz hne
  obtain rfl := hi.dp
  by_cases hl : l.length ≤ 3
  · obtain ⟨rfl, ht⟩ := hi.few hl
    unfold Sp.duP
    rw [if_pos hl]
    exact vals_in t k l A c w ht.tx (by omega)
  · unfold Sp.duP
    rw [if_neg hl]
    exact vals_pg M t f m d fv V s (Sp.dpPg l) k A n c 2 w h hd.ok ⟨by decide, by rw [hd.most]; decide⟩ (hd.look (by omega)) rfl
/-- What an item with these values is, once it is told. -/
def DuR (M : Nat → Prop) (t f m d : Nat) (fv : Value) (V : List Txt) (k : Txt) (l : List Txt) (w : World) (v : Value) : Prop :=
  ∃ kind A n c dup s, v = .agg (itA k kind A n c dup) ∧ DuI l kind A n dup w ∧ Sp.DuSt l s ∧ StAt w M t f m d fv V s
theorem with_any (M : Nat → Prop) (t f m d : Nat) (fv : Value) (V : List Txt) (s : Sp.Sto) (k : Txt) (l : List Txt) (kind : Int) (A0 : Option Addr) (n0 c0 : Nat) (l' : List Txt) (A : Option Addr) (c : Nat) (w : World) (h : StAt w M t f m d fv V s) (hV : V.length ≤ 400) (hd : Sp.DuSt l s) (hne : l' ≠ []) (hs : Sp.SrtV l') (h12 : l'.length ≤ 12) (ht0 : TxK w A l') :
    Calls Tryz.prog 82 #[.pointer (some ⟨t, 0, none⟩), .agg (itA k kind A0 n0 c0 (Sp.duP l)), .slice A l'.length c] w fun e w' => ∃ v, e = .returned (.tuple #[v, .nilIface]) ∧ DuR M t f m d fv V k l' w' v ∧ Chg (TwoM t d) w w' := by
  have ht : Txts w (TwoM t d) A l' := ht0.txts (h.not_kind (by decide))
  by_cases hl' : l'.length ≤ 3
  · refine (with_in M t f m d fv V s k kind A0 n0 c0 (Sp.duP l) l' A c w h hd.ok hl' ht).mono ?_
    rintro e w' ⟨rfl, hst, hk⟩
    exact ⟨_, rfl, ⟨3, A, l'.length, c, 0, _, rfl, ⟨fun e => absurd e hne, fun _ => rfl, by unfold Sp.duP; rw [if_pos hl'], fun _ => ⟨rfl, ht0.chg hk (h.not_kind (by decide))⟩, fun h => by omega⟩, hd.fall hl', hst⟩, hk⟩
  · have hv := Sp.isVals_of hs (by omega) h12
    by_cases hl : l.length ≤ 3
    · obtain ⟨s1, ha, hd1⟩ := hd.rise hl (by omega) hv
      have e0 : Sp.duP l = 0 := if_pos hl
      rw [e0]
      refine (with_new M t f m d fv V s s1 k kind A0 n0 c0 l' A c 2 w h hd.ok (by omega) (by omega) ht ha).mono ?_
      rintro e w' ⟨rfl, hst, hk⟩
      exact ⟨_, rfl, ⟨3, none, 0, 0, 2, s1, rfl, ⟨fun e => absurd e hne, fun _ => rfl, by unfold Sp.duP; rw [if_neg hl'], fun h => absurd h hl', fun _ => rfl⟩, hd1, hst⟩, hk⟩
    · have e2 : Sp.duP l = 2 := if_neg hl
      rw [e2]
      refine (with_old M t f m d fv V s (Sp.dpPg l) k kind A0 n0 c0 2 l' A c w h hd.ok hV (by decide) (by omega) (by omega) ht (hd.look (by omega)) hv).mono ?_
      rintro e w' ⟨rfl, hst, hk⟩
      exact ⟨_, rfl, ⟨3, none, 0, 0, 2, _, rfl, ⟨fun e => absurd e hne, fun _ => rfl, by unfold Sp.duP; rw [if_neg hl'], fun h => absurd h hl', fun _ => rfl⟩, hd.stay (by omega) (by omega), hst⟩, hk⟩
end Go.Proofs.YtkcfmjlcijhieaaGreat
