/- Rows of numbers: one more put in at its place; the package's ids: With, Has. Rows of parts that hold a row each (items, free pages): how they lie. -/
import Derived.Test.YtlpmjeiogdlifaaGreatQB08
import Derived.Test.YtlpmjeiogdlifaaGreatQB17
set_option linter.unusedSimpArgs false
set_option linter.unusedVariables false
namespace Go.Proofs.YtlpmjeiogdlifaaGreat
open Go.RowKit
attribute [local go_sem low] mk_extract
attribute [local go_sem] After.cell After.frozen mk_extract_end ByteArray.mk_append_mk
theorem own_base {w : World} {base base' : Nat} {e : TypeId} {size n : Nat} {v : Value} {xs : List Value} (h : w.ownsRow base e size v n xs) (hb : base' ≤ base) : w.ownsRow base' e size v n xs := by
  rcases h with ⟨h1, h2⟩
  refine ⟨h1, ?_⟩
  rcases h2 with h2 | ⟨g, cap, cur, a, b, c⟩
  · exact .inl h2
  · exact .inr ⟨g, cap, cur, a, Nat.le_trans hb b, c⟩
theorem IV.go {w w' : World} {u : Value} {L : List Int} (h : IV w u L) (hb : Below w.heap.size w w') : IV w' u L := by
  obtain ⟨A, c, rfl, h1⟩ := h.form
  refine ⟨⟨A, c, rfl, ?_⟩, h.len⟩
  rcases h1 with h1 | ⟨b, off, rfl, hc⟩
  · exact .inl h1
  · refine .inr ⟨b, off, rfl, fun j hj => ?_⟩
    have := hc j hj
    have hlt : b < w.heap.size := by
      unfold World.cell? at this
      cases hq : w.heap[b]? with
      | none => simp [hq] at this
      | some o => exact (Array.getElem?_eq_some_iff.1 hq).1
    exact (hb.cell (p := ⟨b, off + j, none⟩) hlt).trans this
theorem own_of_blk {w : World} {base g cap n : Nat} {cur xs : List Value} (hb : Blk w g IntT cur.toArray) (hg : base ≤ g) (hn : n ≤ cap) (hc : cap ≤ maxLen) (hl : cur.length = cap) (ht : cur.take n = xs) : w.ownsRow base IntT 1 (.slice (some ⟨g, 0, none⟩) n cap) n xs := by
  refine ⟨?_, .inr ⟨g, cap, cur.toArray, rfl, hg, hb, hn, hc, by simp [hl], by simpa using ht⟩⟩
  rw [← ht, List.length_take]
  omega
theorem spl_len {cur vs : List Value} {o : Nat} (h : o + vs.length ≤ cur.length) : (spl cur o vs).length = cur.length := by
  unfold spl
  simp only [List.length_append, List.length_take, List.length_drop]
  omega
theorem spl_app {a b c vs : List Value} (h : vs.length = b.length) : spl (a ++ b ++ c) a.length vs = a ++ vs ++ c := by
  unfold spl
  rw [List.append_assoc a b c, List.take_left, h, ← List.append_assoc a b c, ← List.length_append, List.drop_left]
theorem iv_one (l : List Int) : ∀ v ∈ l.map iv, v.oneCell' = true := fun v hv => by
  obtain ⟨s, _, rfl⟩ := List.mem_map.1 hv
  rfl
theorem own_of_app {w : World} {base g n : Nat} {xs rest : List Value} (hb : Blk w g IntT (xs ++ rest).toArray) (hg : base ≤ g) (hn : xs.length = n) (hc : (xs ++ rest).length ≤ maxLen) : w.ownsRow base IntT 1 (.slice (some ⟨g, 0, none⟩) n (xs ++ rest).length) n xs :=
  own_of_blk hb hg (by rw [List.length_append]; omega) hc rfl (by rw [← hn]; exact List.take_left)
theorem zero_row (n : Nat) : ∃ zs : List Value, Builtin.zeroCells (Value.int .i64 0).cells n = zs.toArray ∧ zs.length = n :=
  ⟨(Builtin.zeroCells (Value.int .i64 0).cells n).toList, by simp, by rw [Array.length_toList, size_zeroCells]; simp [Value.cells]⟩
theorem spl_at {a b c vs : List Value} {k : Nat} (hk : a.length = k) (h : vs.length = b.length) : spl (a ++ b ++ c) k vs = a ++ vs ++ c := by
  subst hk
  exact spl_app h
theorem insI_any {w : World} {B : Nat} {u : Value} {L : List Int} (x : Int) (k : Nat) (hk : k ≤ L.length) (h : w.ownsRow B IntT 1 u L.length (L.map iv)) (hB : B ≤ w.heap.size) (vb : Nat) (hv : Blk w vb IntT #[.int .i64 x]) (hvb : ∀ j, u.ownBlock = some j → vb ≠ j) (hn : L.length ≤ 100000) :
    Calls Tryz.prog 92 #[u, .int .i64 (k : Int), .slice (some ⟨vb, 0, none⟩) 1 1] w fun e w' => ∃ u', e = .returned u' ∧ w'.ownsRow B IntT 1 u' (L.length + 1) ((L.take k ++ x :: L.drop k).map iv) ∧ Below B w w' := by
  have hvs : ∀ j v, ([iv x] : List Value)[j]? = some v → w.cell? ⟨vb, 0 + j, none⟩ = some v := fun j v hj => by
    rw [Nat.zero_add]
    refine (hv.cell j).trans ?_
    rw [← hj]
    cases j <;> rfl
  have h1v : ∀ v ∈ ([iv x] : List Value), v.oneCell' = true := fun v hv => by rw [List.mem_singleton.1 hv]; rfl
  have hlm : (L.map iv).length = L.length := List.length_map ..
  have hmx : (maxLen : Nat) = 9223372036854775807 := rfl
  have hG : ∀ n c, L.length + 1 ≤ grownCap w (L.length + 1) c n ∧ grownCap w (L.length + 1) c n ≤ maxLen := fun n c => ⟨grownCap_ge _ _ _ _, grownCap_le_maxLen _ _ _ _ (by rw [hmx]; omega)⟩
  rcases h.2 with ⟨rfl, h0⟩ | ⟨g, cap, cur, rfl, hg, hh, hnc, hcm, hcs, ht⟩
  · have hL : L = [] := List.eq_nil_of_length_eq_zero h0
    subst hL
    obtain rfl : k = 0 := by simpa using hk
    refine (Any2.slices_Insert_int_end_grow layInsert none 0 0 vb 0 1 1 [] [iv x] w (by omega) (by omega) (by omega) (by omega) rfl rfl (fun _ => rfl) (fun a ha => by cases ha) hvs h1v).mono fun e w' ⟨h1, h2⟩ => ⟨_, h1, ?_, ?_⟩
    · obtain ⟨q1, q2⟩ := hG 3 0
      simp only [List.length_nil] at q1 q2
      obtain ⟨zs, hz, hzl⟩ := zero_row (grownCap w (0 + 1) 0 3 - (0 + 1))
      have hb : Blk w' w.heap.size IntT ([iv x] ++ zs).toArray := by
        rw [h2]
        have := Blk.new w.drew IntT (([] ++ [iv x]).toArray ++ zs.toArray)
        rw [← hz, List.nil_append] at this
        rw [show ([iv x] ++ zs).toArray = [iv x].toArray ++ zs.toArray by simp, ← hz]
        exact this
      have hl : ([iv x] ++ zs).length = grownCap w (0 + 1) 0 3 := by rw [List.length_append, hzl]; simp only [List.length_cons, List.length_nil]; omega
      have ho := own_of_app (base := B) hb hB (n := 1) rfl (by rw [hl]; exact q2)
      rw [hl] at ho
      exact ho
    · rw [h2]
      exact (Below.refl B w).drew.alloc hB _
  · have hb : Blk w g IntT cur := hh
    have hgw := hb.lt
    have hsz : cur.size = cap := by omega
    have htk : cur.toList.take L.length = L.map iv := by simpa using ht
    have hcs' : ∀ j v, (L.map iv)[j]? = some v → w.cell? ⟨g, 0 + j, none⟩ = some v := fun j v hj => by
      rw [Nat.zero_add]
      refine (hb.cell j).trans ?_
      rw [← htk, List.getElem?_take] at hj
      split at hj
      · rw [← hj, Array.getElem?_toList]
      · cases hj
    have hne : vb ≠ g := hvb g rfl
    have hsp : ∀ j, j < cap → (w.cell? ⟨g, 0 + j, none⟩).isSome = true := fun j hj => by
      rw [Nat.zero_add, hb.cell j, Array.getElem?_eq_getElem (by omega)]
      rfl
    have hfz : ∀ j, j < cap → w.frozen? ⟨g, 0 + j, none⟩ = false := fun j _ => hb.frozen (0 + j)
    have hcl : cur.toList = L.map iv ++ cur.toList.drop L.length := by rw [← htk, List.take_append_drop]
    have hbl : Blk w g IntT (L.map iv ++ cur.toList.drop L.length).toArray := by rw [← hcl]; simpa using hb
    have hdl : (cur.toList.drop L.length).length = cap - L.length := by rw [List.length_drop, Array.length_toList, hsz]
    by_cases hroom : L.length + 1 ≤ cap
    · obtain ⟨z, rs, hz⟩ : ∃ z rs, cur.toList.drop L.length = z :: rs := by
        cases hq : cur.toList.drop L.length with
        | nil => rw [hq] at hdl; simp at hdl; omega
        | cons z rs => exact ⟨z, rs, rfl⟩
      rw [hz] at hbl hdl
      have hrs : rs.length = cap - L.length - 1 := by rw [List.length_cons] at hdl; omega
      by_cases hkl : k < L.length
      · have sa : w.shape? vb = some (IntT, 1) := by
          unfold World.shape?
          rw [show w.heap[vb]? = some (.cells #[.int .i64 x] IntT (0, 0)) from hv]
          rfl
        have sb : w.shape? g = some (IntT, cap) := by
          unfold World.shape?
          rw [hh]
          simp [hsz]
        refine (Any2.slices_Insert_int_shift layInsert g 0 L.length cap k vb 0 1 1 (L.map iv) [iv x] w hkl (by omega) hroom (by omega) hne hlm rfl hcs' (fun j hj => hsp j (by omega)) (fun j hj => hfz j (by omega)) hvs (iv_one L) h1v IntT IntT 1 cap sa sb (by omega) (hv.frozen 0) (hv.frozen 1)).mono fun e w' ⟨h1, h2⟩ => ⟨_, h1, ?_, ?_⟩
        · have hd : ((L.map iv).drop k).length = L.length - k := by rw [List.length_drop, hlm]
          have b1 := blk_setCells ((L.map iv).drop k) (k + 1) (Blk.drew hbl) (by rw [hd, List.length_append, hlm, List.length_cons]; omega)
          have b2 := blk_setCells [iv x] k b1 (by rw [spl_len (by rw [hd, List.length_append, hlm, List.length_cons]; omega), List.length_append, hlm]; simp only [List.length_cons, List.length_nil]; omega)
          have e : spl (spl (L.map iv ++ z :: rs) (k + 1) ((L.map iv).drop k)) k [iv x] = (L.take k ++ x :: L.drop k).map iv ++ rs := by
            obtain ⟨y, ys, hy⟩ : ∃ y ys, L.drop k = y :: ys := by
              cases hq : L.drop k with
              | nil => have := congrArg List.length hq; rw [List.length_drop] at this; simp at this; omega
              | cons y ys => exact ⟨y, ys, rfl⟩
            have hLk : L = L.take k ++ y :: ys := by rw [← hy, List.take_append_drop]
            have hkk : (L.take k).length = k := by rw [List.length_take]; omega
            have hys : ys.length + 1 = L.length - k := by have := congrArg List.length hy; rw [List.length_drop, List.length_cons] at this; omega
            have e1 : L.map iv ++ z :: rs = ((L.take k).map iv ++ [iv y]) ++ (ys.map iv ++ [z]) ++ rs := by
              conv => lhs; rw [hLk]
              simp
            have e2 : (L.map iv).drop k = iv y :: ys.map iv := by rw [← List.map_drop, hy]; rfl
            have l1 : ((L.take k).map iv ++ [iv y]).length = k + 1 := by rw [List.length_append, List.length_map, hkk]; rfl
            have s1 : spl (L.map iv ++ z :: rs) (k + 1) ((L.map iv).drop k) = ((L.take k).map iv ++ [iv y]) ++ (iv y :: ys.map iv) ++ rs := by
              rw [e1, e2]
              exact spl_at l1 (by simp)
            have l2 : ((L.take k).map iv).length = k := by rw [List.length_map, hkk]
            rw [s1, hy, show ((L.take k).map iv ++ [iv y]) ++ (iv y :: ys.map iv) ++ rs = (L.take k).map iv ++ [iv y] ++ (iv y :: ys.map iv ++ rs) by simp, spl_at l2 (by rfl)]
            simp
          have hgo : Blk w' g IntT ((L.take k ++ x :: L.drop k).map iv ++ rs).toArray := by
            rw [h2, ← e, Nat.zero_add, Nat.zero_add]
            exact b2
          have hlen : ((L.take k ++ x :: L.drop k).map iv).length = L.length + 1 := by simp only [List.length_map, List.length_append, List.length_take, List.length_cons, List.length_drop]; omega
          have ho := own_of_app (base := B) hgo hg (n := L.length + 1) hlen (by rw [List.length_append, hlen, hrs]; omega)
          rw [show ((L.take k ++ x :: L.drop k).map iv ++ rs).length = cap by rw [List.length_append, hlen, hrs]; omega] at ho
          exact ho
        · rw [h2]
          exact ((Below.refl B w).drew).trans (((chg_setCells _ _ _).trans (chg_setCells _ _ _)).below (by show B ≤ w.heap.size; exact hB) (fun j hj e => by have : j = g := e; omega))
      · obtain rfl : k = L.length := by omega
        refine (Any2.slices_Insert_int_end_room layInsert g 0 L.length cap vb 0 1 1 [iv x] w (by omega) hroom (by omega) rfl (fun j hj => by have := hsp (L.length + j) (by omega); rwa [← Nat.add_assoc] at this) (fun j hj => by have := hfz (L.length + j) (by omega); rwa [← Nat.add_assoc] at this) hvs h1v).mono fun e w' ⟨h1, h2⟩ => ⟨_, h1, ?_, ?_⟩
        · have b1 := blk_setCells [iv x] L.length hbl (by rw [List.length_append, hlm, List.length_cons]; simp only [List.length_cons, List.length_nil]; omega)
          have e : spl (L.map iv ++ z :: rs) L.length [iv x] = (L.take L.length ++ x :: L.drop L.length).map iv ++ rs := by
            rw [show L.map iv ++ z :: rs = L.map iv ++ [z] ++ rs by simp]
            rw [spl_at hlm (by rfl)]
            simp
          have hgo : Blk w' g IntT ((L.take L.length ++ x :: L.drop L.length).map iv ++ rs).toArray := by
            rw [h2, ← e, Nat.zero_add]
            exact b1
          have hlen : ((L.take L.length ++ x :: L.drop L.length).map iv).length = L.length + 1 := by simp
          have ho := own_of_app (base := B) hgo hg (n := L.length + 1) hlen (by rw [List.length_append, hlen, hrs]; omega)
          rw [show ((L.take L.length ++ x :: L.drop L.length).map iv ++ rs).length = cap by rw [List.length_append, hlen, hrs]; omega] at ho
          exact ho
        · rw [h2]
          exact (chg_setCells _ _ _).below hB (fun j hj e => by have : j = g := e; omega)
    · obtain ⟨q1, q2⟩ := hG 3 cap
      have hcap : L.length = cap := by omega
      by_cases hkl : k < L.length
      · refine (Any2.slices_Insert_int_grow layInsert g 0 L.length cap k vb 0 1 1 (L.map iv) [iv x] w hkl (by omega) (by omega) (by omega) (by omega) hlm rfl hcs' hvs (iv_one L) h1v).mono fun e w' ⟨h1, h2⟩ => ⟨_, h1, ?_, ?_⟩
        · obtain ⟨z1, hz1, hzl1⟩ := zero_row (L.length + 1 - k)
          obtain ⟨z2, hz2, hzl2⟩ := zero_row (grownCap w (L.length + 1) cap 3 - (L.length + 1))
          obtain ⟨z0, zr, hzz⟩ : ∃ z rs, z1 = z :: rs := by
            cases z1 with
            | nil => simp at hzl1; omega
            | cons z rs => exact ⟨z, rs, rfl⟩
          subst hzz
          rw [List.length_cons] at hzl1
          have ltk : ((L.map iv).take k).length = k := by rw [List.length_take, hlm]; omega
          have ldk : ((L.map iv).drop k).length = L.length - k := by rw [List.length_drop, hlm]
          have b0 : Blk (w.alloc (.cells (((L.map iv).take k).toArray ++ (z0 :: zr).toArray ++ z2.toArray) IntT)) w.heap.size IntT ((L.map iv).take k ++ (z0 :: zr) ++ z2).toArray := by
            have := Blk.new w IntT (((L.map iv).take k).toArray ++ (z0 :: zr).toArray ++ z2.toArray)
            simpa using this
          have b1 := blk_setCells [iv x] k (Blk.drew b0) (by simp only [List.length_append, ltk, List.length_cons, List.length_nil]; omega)
          rw [show (L.map iv).take k ++ (z0 :: zr) ++ z2 = (L.map iv).take k ++ [z0] ++ (zr ++ z2) by simp, spl_at ltk (by rfl)] at b1
          have b2 := blk_setCells ((L.map iv).drop k) (k + 1) (Blk.drew b1) (by simp only [List.length_append, ltk, ldk, List.length_cons, List.length_nil]; omega)
          rw [show (L.map iv).take k ++ [iv x] ++ (zr ++ z2) = ((L.map iv).take k ++ [iv x]) ++ zr ++ z2 by simp, spl_at (by rw [List.length_append, ltk]; rfl) (by rw [ldk]; omega)] at b2
          have hgo : Blk w' w.heap.size IntT ((L.take k ++ x :: L.drop k).map iv ++ z2).toArray := by
            rw [h2]
            have e : (L.take k ++ x :: L.drop k).map iv ++ z2 = (L.map iv).take k ++ [iv x] ++ (L.map iv).drop k ++ z2 := by simp
            rw [e]
            rw [hz1, show Builtin.zeroCells (Value.int .i64 0).cells (grownCap w (L.length + 1) cap (renInsert.t 3) - (L.length + 1)) = z2.toArray from hz2]
            exact b2
          have hlen : ((L.take k ++ x :: L.drop k).map iv).length = L.length + 1 := by simp only [List.length_map, List.length_append, List.length_take, List.length_cons, List.length_drop]; omega
          have hl : ((L.take k ++ x :: L.drop k).map iv ++ z2).length = grownCap w (L.length + 1) cap 3 := by rw [List.length_append, hlen, hzl2]; omega
          have ho := own_of_app (base := B) hgo hB (n := L.length + 1) hlen (by rw [hl]; exact q2)
          rw [hl] at ho
          exact ho
        · rw [h2]
          have k1 : ∀ (W : World) (vs : List Value) (o : Nat), w.heap.size ≤ W.heap.size → Below B W (W.setCells w.heap.size o vs) := fun W vs o hW => (chg_setCells vs o W).below (by omega) (fun j hj e => by have : j = w.heap.size := e; omega)
          have k0 : ∀ (W : World) (vs : List Value) (o : Nat), (W.setCells w.heap.size o vs).heap.size = W.heap.size := fun W vs o => by
            have h1 : ∀ (vs : List Value) (o : Nat) (W : World), (W.setCells w.heap.size o vs).heap.size = W.heap.size := by
              intro vs
              induction vs with
              | nil => intro o W; rfl
              | cons v r ih => intro o W; show ((W.setCell _ v).setCells _ (o + 1) r).heap.size = _; rw [ih]; simp
            exact h1 vs o W
          refine (((((Below.refl B w).alloc hB _).drew.trans (k1 _ _ _ ?_)).drew).trans (k1 _ _ _ ?_))
          · simp
          · show w.heap.size ≤ (World.setCells _ _ _ _).heap.size
            rw [k0]
            simp
      · obtain rfl : k = L.length := by omega
        refine (Any2.slices_Insert_int_end_grow layInsert (some ⟨g, 0, none⟩) L.length cap vb 0 1 1 (L.map iv) [iv x] w (by omega) (by omega) (by omega) (by omega) hlm rfl (fun e => by cases e) (fun a ha j v hj => by injection ha with ha; subst ha; rw [Go.WideShapes.add_plain]; exact hcs' j v hj) hvs h1v).mono fun e w' ⟨h1, h2⟩ => ⟨_, h1, ?_, ?_⟩
        · obtain ⟨zs, hz, hzl⟩ := zero_row (grownCap w (L.length + 1) cap 3 - (L.length + 1))
          have hlen : ((L.take L.length ++ x :: L.drop L.length).map iv).length = L.length + 1 := by simp
          have hgo : Blk w' w.heap.size IntT ((L.take L.length ++ x :: L.drop L.length).map iv ++ zs).toArray := by
            rw [h2, show Builtin.zeroCells (Value.int .i64 0).cells (grownCap w (L.length + 1) cap (renInsert.t 3) - (L.length + 1)) = zs.toArray from hz]
            have := Blk.new w.drew IntT ((L.map iv ++ [iv x]).toArray ++ zs.toArray)
            show Blk (w.drew.alloc (.cells ((L.map iv ++ [iv x]).toArray ++ zs.toArray) IntT)) w.drew.heap.size IntT _
            rw [show (L.take L.length ++ x :: L.drop L.length).map iv ++ zs = L.map iv ++ [iv x] ++ zs by simp]
            simpa using this
          have hl : ((L.take L.length ++ x :: L.drop L.length).map iv ++ zs).length = grownCap w (L.length + 1) cap 3 := by rw [List.length_append, hlen, hzl]; omega
          have ho := own_of_app (base := B) hgo hB (n := L.length + 1) hlen (by rw [hl]; exact q2)
          rw [hl] at ho
          exact ho
        · rw [h2]
          exact (Below.refl B w).drew.alloc hB _
namespace Sp
def insI (n : Int) (L : List Int) : List Int := if n ∈ L then L else L.take (posI n L) ++ n :: L.drop (posI n L)
theorem posI_le (n : Int) (L : List Int) : posI n L ≤ L.length := List.countP_le_length
end Sp
set_option maxRecDepth 100000 in
set_option maxHeartbeats 1600000 in
theorem idsWith_any (u : Value) (L : List Int) (n : Int) (w : World) (h : IV w u L) (hs : L.Pairwise (· < ·)) :
    Calls Tryz.prog 45 #[u, .int .i64 n] w fun e w' => ∃ u', e = .returned u' ∧ w'.ownsRow w.heap.size IntT 1 u' (Sp.insI n L).length ((Sp.insI n L).map iv) ∧ Below w.heap.size w w' := by
  have H := Lib.hid h
  have HS := Lib.hid (searchI_any n h hs)
  have hpl := Sp.posI_le n L
  have hln := h.len
  by_cases hc : n ∈ L
  · have hcc : L.contains n = true := by simpa using hc
    have HI := Lib.hid (show Sp.insI n L = L from if_pos hc)
    clear h hs hc
    go_enter Tryz.func45, Tryz.ntmps45
    go_wp2_with (first
      | (go_at_call 91; refine HS.out.mono ?_; rintro e w1 ⟨rfl, hb1⟩; rw [hcc]; have HB1 := Lib.hid hb1; clear hb1)
      | (go_at_call 72; refine (cloneI_any (H.out.go HB1.out)).mono ?_; rintro e w2 ⟨u', rfl, ho, hb2⟩; have HO := Lib.hid ho; have HB2 := Lib.hid hb2; clear ho hb2))
    go_ret
    refine ⟨u', rfl, ?_, HB1.out.trans (HB2.out.mono HB1.out.size)⟩
    rw [HI.out]
    exact own_base HO.out HB1.out.size
  · have hcc : L.contains n = false := by simpa using hc
    have HI := Lib.hid (show Sp.insI n L = L.take (Sp.posI n L) ++ n :: L.drop (Sp.posI n L) from if_neg hc)
    clear h hs hc
    go_enter Tryz.func45, Tryz.ntmps45
    go_wp2_with (first
      | (go_at_call 91; refine HS.out.mono ?_; rintro e w1 ⟨rfl, hb1⟩; rw [hcc]; have HB1 := Lib.hid hb1; clear hb1)
      | (go_at_call 72; refine (cloneI_any (H.out.go HB1.out)).mono ?_; rintro e w2 ⟨u', rfl, ho, hb2⟩; have HO := Lib.hid ho; have HB2 := Lib.hid hb2; clear ho hb2)
      | (go_at_call 92; refine (insI_any (B := w1.heap.size) n (Sp.posI n L) hpl (own_chg2 (S := NoM) HO.out (Chg.of_below ((Below.refl w2.heap.size w2).alloc (Nat.le_refl _) (.cells #[.int .i64 n] IntT))) (fun _ _ h => h)) (by rw [World.size_alloc]; have := HB2.out.size; omega) w2.heap.size (Blk.new w2 IntT #[.int .i64 n]) (fun j hj e => by have := own_lt HO.out j hj; omega) hln).mono ?_; rintro e w3 ⟨u3, rfl, ho, hb3⟩; have HO3 := Lib.hid ho; have HB3 := Lib.hid hb3; clear ho hb3))
    go_ret
    have hlen : (Sp.insI n L).length = L.length + 1 := by rw [HI.out]; simp only [List.length_append, List.length_take, List.length_cons, List.length_drop]; omega
    refine ⟨u3, rfl, ?_, ?_⟩
    · rw [hlen, HI.out]
      exact own_base HO3.out HB1.out.size
    · exact (HB1.out.trans (HB2.out.mono HB1.out.size)).trans ((((Below.refl w2.heap.size w2).alloc (Nat.le_refl _) (.cells #[.int .i64 n] IntT)).mono (by have := HB1.out.size; have := HB2.out.size; omega)).trans (HB3.out.mono HB1.out.size))
end Go.Proofs.YtlpmjeiogdlifaaGreat
namespace Go.Proofs.YtlpmjeiogdlifaaGreat
open Go.RowKit
attribute [local go_sem low] mk_extract
attribute [local go_sem] After.cell After.frozen mk_extract_end ByteArray.mk_append_mk
def SeqQ {α : Type} (f : α → Option Addr → Nat → List Value) (S : Option Addr → α → Prop) : List α → List Value → Prop
  | [], xs => xs = []
  | x :: l, xs => ∃ V c ys, xs = f x V c ++ ys ∧ S V x ∧ SeqQ f S l ys
section
variable {α : Type} {f : α → Option Addr → Nat → List Value} {S S' : Option Addr → α → Prop} {K : Nat}
theorem SeqQ.imp (hS : ∀ V x, S V x → S' V x) : ∀ {l : List α} {xs : List Value}, SeqQ f S l xs → SeqQ f S' l xs
  | [], _, h => h
  | _ :: _, _, ⟨V, c, ys, e, hs, h⟩ => ⟨V, c, ys, e, hS V _ hs, h.imp hS⟩
theorem SeqQ.len (hf : ∀ x V c, (f x V c).length = K) : ∀ {l : List α} {xs : List Value}, SeqQ f S l xs → xs.length = l.length * K
  | [], xs, h => by
    have h : xs = [] := h
    rw [h, List.length_nil, List.length_nil, Nat.zero_mul]
  | x :: l, xs, ⟨V, c, ys, e, _, h⟩ => by
    have := h.len hf
    rw [e, List.length_append, this, hf, List.length_cons, Nat.succ_mul]
    omega
theorem SeqQ.app {m : List α} {ys : List Value} (hq : SeqQ f S m ys) : ∀ {l : List α} {xs : List Value}, SeqQ f S l xs → SeqQ f S (l ++ m) (xs ++ ys)
  | [], xs, h => by
    have h : xs = [] := h
    rw [h]; exact hq
  | _ :: _, xs, ⟨V, c, zs, e, hr, h⟩ => ⟨V, c, zs ++ ys, by rw [e, List.append_assoc], hr, SeqQ.app hq h⟩
theorem SeqQ.snoc {l : List α} {xs : List Value} (h : SeqQ f S l xs) {x : α} {V : Option Addr} {c : Nat} (ht : S V x) : SeqQ f S (l ++ [x]) (xs ++ f x V c) :=
  SeqQ.app (m := [x]) (ys := f x V c) ⟨V, c, [], by simp, ht, rfl⟩ h
theorem SeqQ.one (h1 : ∀ x V c, ∀ u ∈ f x V c, u.oneCell' = true) : ∀ {l : List α} {xs : List Value}, SeqQ f S l xs → ∀ u ∈ xs, u.oneCell' = true
  | [], xs, h, u, hu => by
    have h : xs = [] := h
    rw [h] at hu; simp at hu
  | x :: l, xs, ⟨V, c, ys, e, _, h⟩, u, hu => by
    rw [e] at hu
    rcases List.mem_append.1 hu with hu | hu
    · exact h1 x V c u hu
    · exact h.one h1 u hu
theorem SeqQ.at_ (hf : ∀ x V c, (f x V c).length = K) (d : α) : ∀ {l : List α} {xs : List Value}, SeqQ f S l xs → ∀ k, k < l.length → ∃ V c, S V (l.getD k d) ∧ ∀ j u, (f (l.getD k d) V c)[j]? = some u → xs[k * K + j]? = some u
  | [], _, _, k, hk => absurd hk (by simp)
  | x :: l, xs, ⟨V, c, ys, e, ht, h⟩, 0, _ => ⟨V, c, ht, fun j u hu => by
      rw [e, Nat.zero_mul, Nat.zero_add, List.getElem?_append_left]
      · exact hu
      · exact (List.getElem?_eq_some_iff.1 hu).1⟩
  | x :: l, xs, ⟨V, c, ys, e, ht, h⟩, k + 1, hk => by
    obtain ⟨V', c', ht', hc⟩ := h.at_ hf d k (by simpa using hk)
    refine ⟨V', c', by simpa using ht', fun j u hu => ?_⟩
    have := hc j u (by simpa using hu)
    rw [e, List.getElem?_append_right (by rw [hf, Nat.succ_mul]; omega), hf, Nat.succ_mul, show k * K + K + j - K = k * K + j by omega]
    exact this
theorem SeqQ.read {w : World} {b off : Nat} (hf : ∀ x V c, (f x V c).length = K) (d : α) (l : List α) (h : ∀ k, k < l.length → ∃ V c, (∀ j u, (f (l.getD k d) V c)[j]? = some u → w.cell? ⟨b, off + k * K + j, none⟩ = some u) ∧ S V (l.getD k d)) :
    ∃ xs, SeqQ f S l xs ∧ ∀ j u, xs[j]? = some u → w.cell? ⟨b, off + j, none⟩ = some u := by
  have : ∀ n, n ≤ l.length → ∃ xs, SeqQ f S (l.take n) xs ∧ ∀ j u, xs[j]? = some u → w.cell? ⟨b, off + j, none⟩ = some u := by
    intro n
    induction n with
    | zero => intro _; exact ⟨[], rfl, fun j u hu => by simp at hu⟩
    | succ n ih =>
      intro hn
      obtain ⟨xs, h1, h2⟩ := ih (by omega)
      obtain ⟨V, c, hi, ht⟩ := h n (by omega)
      refine ⟨xs ++ f (l.getD n d) V c, ?_, fun j u hu => ?_⟩
      · rw [List.take_succ_eq_append_getElem (show n < l.length by omega)]
        rw [show l[n] = l.getD n d by simp [List.getD, show n < l.length by omega]]
        exact h1.snoc ht
      · have hl := h1.len hf
        rw [List.length_take, Nat.min_eq_left (by omega)] at hl
        rcases Nat.lt_or_ge j xs.length with hj | hj
        · rw [List.getElem?_append_left hj] at hu
          exact h2 j u hu
        · rw [List.getElem?_append_right hj] at hu
          have := hi (j - xs.length) u hu
          rw [show off + n * K + (j - xs.length) = off + j by omega] at this
          exact this
  have := this l.length (Nat.le_refl _)
  rwa [List.take_length] at this
end
def SI (w : World) (M : Nat → Prop) : Option Addr → Sp.Item → Prop := fun V x => Txts w M V x.vals
def SF (w : World) (M : Nat → Prop) : Option Addr → Sp.Free → Prop := fun V x => Ints w M V x.ids ∧ 0 ≤ x.txn ∧ x.txn < 18446744073709551616
def freeV (x : Sp.Free) (V : Option Addr) (c : Nat) : List Value := [.int .u64 x.txn, .slice V x.ids.length c]
theorem itemV_ten (x : Sp.Item) (V : Option Addr) (c : Nat) : (itemV x V c).length = 10 := rfl
theorem freeV_two (x : Sp.Free) (V : Option Addr) (c : Nat) : (freeV x V c).length = 2 := rfl
theorem itemV_ones (x : Sp.Item) (V : Option Addr) (c : Nat) : ∀ u ∈ itemV x V c, u.oneCell' = true := by
  intro u hu
  simp only [itemV, List.mem_cons, List.not_mem_nil, or_false] at hu
  rcases hu with rfl | rfl | rfl | rfl | rfl | rfl | rfl | rfl | rfl | rfl <;> rfl
theorem freeV_ones (x : Sp.Free) (V : Option Addr) (c : Nat) : ∀ u ∈ freeV x V c, u.oneCell' = true := by
  intro u hu
  simp only [freeV, List.mem_cons, List.not_mem_nil, or_false] at hu
  rcases hu with rfl | rfl <;> rfl
theorem itemAt_of {w : World} {b o : Nat} {x : Sp.Item} {V : Option Addr} {c : Nat} (hc : ∀ j u, (itemV x V c)[j]? = some u → w.cell? ⟨b, o + j, none⟩ = some u) : ItemAt w b o x V c :=
  ⟨hc 0 _ rfl, hc 1 _ rfl, hc 2 _ rfl, hc 3 _ rfl, hc 4 _ rfl, hc 5 _ rfl, hc 6 _ rfl, hc 7 _ rfl, hc 8 _ rfl, hc 9 _ rfl⟩
theorem itemAt_cells {w : World} {b o : Nat} {x : Sp.Item} {V : Option Addr} {c : Nat} (h : ItemAt w b o x V c) : ∀ j u, (itemV x V c)[j]? = some u → w.cell? ⟨b, o + j, none⟩ = some u := by
  intro j u hj
  match j, hj with
  | 0, hj => exact h.c0.trans hj
  | 1, hj => exact h.c1.trans hj
  | 2, hj => exact h.c2.trans hj
  | 3, hj => exact h.c3.trans hj
  | 4, hj => exact h.c4.trans hj
  | 5, hj => exact h.c5.trans hj
  | 6, hj => exact h.c6.trans hj
  | 7, hj => exact h.c7.trans hj
  | 8, hj => exact h.c8.trans hj
  | 9, hj => exact h.c9.trans hj
  | j + 10, hj => simp [itemV] at hj
theorem Items.seq {w : World} {M : Nat → Prop} {A : Option Addr} {l : List Sp.Item} (h : Items w M A l) : ∃ xs, SeqQ itemV (SI w M) l xs ∧ ∀ a, A = some a → ∀ j u, xs[j]? = some u → w.cell? (a.add j) = some u := by
  rcases h.2 with rfl | ⟨b, off, rfl, hb, hm, hc⟩
  · exact ⟨[], rfl, fun a _ j u hu => by simp at hu⟩
  · obtain ⟨xs, h1, h2⟩ := SeqQ.read (w := w) (b := b) (off := off) (S := SI w M) itemV_ten Sp.item0 l (fun k hk => by
      obtain ⟨V, c, hi, ht⟩ := hc k hk
      exact ⟨V, c, itemAt_cells hi, ht⟩)
    refine ⟨xs, h1, fun a ha j u hu => ?_⟩
    injection ha with ha
    subst ha
    rw [Go.WideShapes.add_plain]
    exact h2 j u hu
theorem Frees.seq {w : World} {M : Nat → Prop} {A : Option Addr} {l : List Sp.Free} (h : Frees w M A l) : ∃ xs, SeqQ freeV (SF w M) l xs ∧ ∀ a, A = some a → ∀ j u, xs[j]? = some u → w.cell? (a.add j) = some u := by
  rcases h.2 with rfl | ⟨b, off, rfl, hb, hm, hc⟩
  · exact ⟨[], rfl, fun a _ j u hu => by simp at hu⟩
  · obtain ⟨xs, h1, h2⟩ := SeqQ.read (w := w) (b := b) (off := off) (S := SF w M) freeV_two Sp.free0 l (fun k hk => by
      obtain ⟨V, c, ⟨c0, c1⟩, ht, h3, h4⟩ := hc k hk
      refine ⟨V, c, fun j u hj => ?_, ht, h3, h4⟩
      match j, hj with
      | 0, hj => exact c0.trans hj
      | 1, hj => exact c1.trans hj
      | j + 2, hj => simp [freeV] at hj)
    refine ⟨xs, h1, fun a ha j u hu => ?_⟩
    injection ha with ha
    subst ha
    rw [Go.WideShapes.add_plain]
    exact h2 j u hu
theorem own_none {w : World} {base n c : Nat} {e : TypeId} {size : Nat} {xs : List Value} {A : Option Addr} (h : w.ownsRow base e size (.slice A n c) n xs) : (A = none ∧ n = 0 ∧ c = 0) ∨ ∃ g cur, A = some ⟨g, 0, none⟩ ∧ base ≤ g ∧ Blk w g e cur ∧ ∀ j u, xs[j]? = some u → w.cell? ⟨g, 0 + j, none⟩ = some u := by
  rcases h.2 with ⟨h1, h2⟩ | ⟨g, cap, cur, hv, hg, hh, _, _, _, ht⟩
  · simp only [Value.slice.injEq] at h1
    exact .inl ⟨h1.1, h2, h1.2.2⟩
  · simp only [Value.slice.injEq] at hv
    have hb : Blk w g e cur := hh
    refine .inr ⟨g, cur, hv.1, hg, hb, fun j u hu => ?_⟩
    rw [Nat.zero_add]
    refine (hb.cell j).trans ?_
    rw [← ht, List.getElem?_take] at hu
    split at hu
    · rw [← hu, Array.getElem?_toList]
    · cases hu
theorem Items.of_seq {w : World} {base c : Nat} {M : Nat → Prop} {A : Option Addr} {l : List Sp.Item} {xs : List Value} (h : w.ownsRow base ItemT 10 (.slice A l.length c) l.length xs) (hq : SeqQ itemV (SI w M) l xs) (hM : ∀ k, base ≤ k → ¬ M k) (hl : l.length ≤ 100000) : Items w M A l := by
  refine ⟨by omega, ?_⟩
  rcases own_none h with ⟨_, h0, _⟩ | ⟨g, cur, hv, hg, hb, hc⟩
  · exact .inl (List.eq_nil_of_length_eq_zero h0)
  · refine .inr ⟨g, 0, hv, hb.lt, hM g hg, fun k hk => ?_⟩
    obtain ⟨V, c', ht, hx⟩ := hq.at_ itemV_ten Sp.item0 k hk
    refine ⟨V, c', itemAt_of fun j u hu => ?_, ht⟩
    rw [Nat.add_assoc]
    exact hc _ u (hx j u hu)
theorem Frees.of_seq {w : World} {base c : Nat} {M : Nat → Prop} {A : Option Addr} {l : List Sp.Free} {xs : List Value} (h : w.ownsRow base FreeT 2 (.slice A l.length c) l.length xs) (hq : SeqQ freeV (SF w M) l xs) (hM : ∀ k, base ≤ k → ¬ M k) (hl : l.length ≤ 100000) : Frees w M A l := by
  refine ⟨by omega, ?_⟩
  rcases own_none h with ⟨_, h0, _⟩ | ⟨g, cur, hv, hg, hb, hc⟩
  · exact .inl (List.eq_nil_of_length_eq_zero h0)
  · refine .inr ⟨g, 0, hv, hb.lt, hM g hg, fun k hk => ?_⟩
    obtain ⟨V, c', ⟨ht, h3, h4⟩, hx⟩ := hq.at_ freeV_two Sp.free0 k hk
    exact ⟨V, c', ⟨hc _ _ (hx 0 _ rfl), by rw [Nat.add_assoc]; exact hc _ _ (hx 1 _ rfl)⟩, ht, h3, h4⟩
theorem Row.of_own {w : World} {base n c : Nat} {e : TypeId} {M : Nat → Prop} {A : Option Addr} {xs : List Value} (h : w.ownsRow base e 1 (.slice A n c) n xs) (hM : ∀ k, base ≤ k → ¬ M k) (hn : n ≤ 100000) : Row w M A xs := by
  have hl : xs.length = n := by simpa using h.1
  refine ⟨by omega, ?_⟩
  rcases own_none h with ⟨_, h0, _⟩ | ⟨g, cur, hv, hg, hb, hc⟩
  · exact .inl (List.eq_nil_of_length_eq_zero (by omega))
  · exact .inr ⟨g, 0, hv, hb.lt, hM g hg, hc⟩
end Go.Proofs.YtlpmjeiogdlifaaGreat
