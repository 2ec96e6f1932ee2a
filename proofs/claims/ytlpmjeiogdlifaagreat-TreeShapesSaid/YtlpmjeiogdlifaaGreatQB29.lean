/- The document's stores: a page set in place of one. The document's stores: down: which child. The document's stores: a page that is laid behind all others: what is held. The document's stores: what is held while a page is added. The document's stores: an own page is read; touched. Rows of items in memory, as a page has them; parts of rows. -/
import Derived.Test.YtlpmjeiogdlifaaGreatQB11
import Derived.Test.YtlpmjeiogdlifaaGreatQB13
import Derived.Test.YtlpmjeiogdlifaaGreatQB28
import Derived.Deep.AppendLies
set_option linter.unusedSimpArgs false
set_option linter.unusedVariables false
namespace Go.Proofs.YtlpmjeiogdlifaaGreat
open Go.RowKit
attribute [local go_sem low] mk_extract
attribute [local go_sem] After.cell After.frozen mk_extract_end ByteArray.mk_append_mk
theorem info_page : (Tryz.prog.info? 59).map (fun i => (i.zero, i.size, i.bytes)) = some (some (.agg #[.int .i64 0, .slice none 0 0, .slice none 0 0, .slice none 0 0, .string ⟨#[]⟩, .slice none 0 0, .slice none 0 0, .int .i64 0, .int .u64 0, .int .i64 0, .int .i64 0, .int .i64 0, .int .i64 0, .int .i64 0]), 14, 200) := by kernel_rfl
theorem pageV_one (p : Sp.Page) (r : Refs) : ∀ u ∈ pageV p r, u.oneCell' = true := by
  intro u hu
  simp only [pageV, mtV, List.mem_append, List.mem_cons, List.not_mem_nil, or_false] at hu
  rcases hu with rfl | rfl | rfl | rfl | rfl | rfl | rfl | rfl | rfl | rfl | rfl | rfl | rfl | rfl <;> rfl
theorem pageV_all (p : Sp.Page) (r : Refs) : (pageV p r).toArray.all (·.oneCell') = true := by
  rw [Array.all_eq_true_iff_forall_mem]
  intro u hu
  exact pageV_one p r u (by simpa using hu)
theorem PgCells.one {w : World} {M : Nat → Prop} : ∀ {P : List Sp.Page} {xs : List Value}, PgCells w M P xs → ∀ u ∈ xs, u.oneCell' = true
  | [], xs, h, u, hu => by
    have h : xs = [] := h
    rw [h] at hu; simp at hu
  | p :: P, xs, ⟨r, ys, e, _, h⟩, u, hu => by
    rw [e] at hu
    rcases List.mem_append.1 hu with hu | hu
    · exact pageV_one p r u hu
    · exact h.one u hu
theorem PgCells.set {w : World} {M : Nat → Prop} {q : Sp.Page} {s : Refs} (hq : PageRd w M q s) : ∀ {P : List Sp.Page} {xs : List Value} {k : Nat}, PgCells w M P xs → k < P.length → PgCells w M (P.set k q) (xs.take (k * 14) ++ pageV q s ++ xs.drop (k * 14 + 14))
  | [], _, _, _, h => by simp at h
  | p :: P, xs, 0, ⟨r, ys, e, _, h⟩, _ => by
    have hl : (pageV p r).length = 14 := by simp [pageV, mtV]
    refine ⟨s, ys, ?_, hq, h⟩
    rw [e, Nat.zero_mul, List.take_zero, List.nil_append, Nat.zero_add, ← hl, List.drop_left]
  | p :: P, xs, k + 1, ⟨r, ys, e, hr, h⟩, hk => by
    have hl : (pageV p r).length = 14 := by simp [pageV, mtV]
    refine ⟨r, ys.take (k * 14) ++ pageV q s ++ ys.drop (k * 14 + 14), ?_, hr, h.set hq (by simpa using hk)⟩
    rw [e, show (k + 1) * 14 = (pageV p r).length + k * 14 by omega, List.take_append, show (pageV p r).length + k * 14 + 14 = (pageV p r).length + (k * 14 + 14) by omega, List.drop_append]
    rw [List.take_of_length_le (by omega), List.drop_eq_nil_of_le (by omega), Nat.add_sub_cancel_left, Nat.add_sub_cancel_left]
    simp
theorem own_blk {w : World} {base n : Nat} {e : TypeId} {size g cap : Nat} {xs : List Value} (h : w.ownsRow base e size (.slice (some ⟨g, 0, none⟩) n cap) n xs) :
    ∃ cur, Blk w g e cur ∧ n * size ≤ cur.size ∧ cur.toList.take (n * size) = xs ∧ ∀ (w' : World) (cur' : Array Value), Blk w' g e cur' → cur'.size = cur.size → w'.ownsRow base e size (.slice (some ⟨g, 0, none⟩) n cap) n (cur'.toList.take (n * size)) := by
  obtain ⟨h1, h2⟩ := h
  rcases h2 with ⟨h', _⟩ | ⟨g', cap', cur, hv, hb, hB, hn, hm, hs, ht⟩
  · cases h'
  · simp only [Value.slice.injEq, Option.some.injEq, Addr.mk.injEq] at hv
    obtain ⟨⟨rfl, _⟩, _, rfl⟩ := hv
    have hle : n * size ≤ cur.size := by
      rw [hs]; exact Nat.mul_le_mul_right _ hn
    refine ⟨cur, hB, hle, ht, fun w' cur' hB' hs' => ⟨?_, .inr ⟨g, cap, cur', rfl, hb, hB', hn, hm, hs'.trans hs, rfl⟩⟩⟩
    rw [List.length_take, Array.length_toList, hs']
    omega
theorem own_nil (w : World) (base : Nat) (e : TypeId) (size : Nat) : w.ownsRow base e size (.slice none 0 0) 0 [] := ⟨by simp, .inl ⟨rfl, rfl⟩⟩
theorem own_some {w : World} {base n : Nat} {e : TypeId} {size : Nat} {v : Value} {xs : List Value} (h : w.ownsRow base e size v n xs) (hn : 0 < n) : ∃ g cap, v = .slice (some ⟨g, 0, none⟩) n cap ∧ g < w.heap.size ∧ ∀ j u, xs[j]? = some u → w.cell? ⟨g, j, none⟩ = some u := by
  obtain ⟨h1, h2⟩ := h
  rcases h2 with ⟨h', h0⟩ | ⟨g, cap, cur, hv, hb, hB, hnc, hm, hs, ht⟩
  · rw [h'] at *
    omega
  · have hB : Blk w g e cur := hB
    refine ⟨g, cap, hv, hB.lt, fun j u hu => (hB.cell j).trans ?_⟩
    rw [← ht, List.getElem?_take] at hu
    split at hu
    · rw [← hu, Array.getElem?_toList]
    · cases hu
theorem grown_row {w2 w3 : World} {e : TypeId} {size n : Nat} {v' : Value} {xs : List Value} (hn : 0 < n) (hown' : w3.ownsRow w2.heap.size e size v' (0 + n) ([] ++ xs)) (hgr' : w2.grownBy w3 (Value.slice none 0 0).ownBlock) :
    ∃ g' cap' cur, v' = .slice (some ⟨g', 0, none⟩) n cap' ∧ w2.heap.size ≤ g' ∧ Hid (Blk w3 g' e cur) ∧ Hid (n * size ≤ cur.size) ∧ Hid (cur.toList.take (n * size) = xs) ∧
      Hid (∀ (w' : World) (cur' : Array Value), Blk w' g' e cur' → cur'.size = cur.size → w'.ownsRow w2.heap.size e size (.slice (some ⟨g', 0, none⟩) n cap') n (cur'.toList.take (n * size))) ∧ Hid (Below w2.heap.size w2 w3) := by
  replace hown' : w3.ownsRow w2.heap.size e size v' n xs := by simpa using hown'
  obtain ⟨g', cap', rfl, hg', hcg'⟩ := own_some hown' hn
  obtain ⟨cur, hcur, hle, htk, hset⟩ := own_blk hown'
  have hge : w2.heap.size ≤ g' := by
    obtain ⟨_, h2⟩ := hown'
    rcases h2 with ⟨h', _⟩ | ⟨g2, _, _, hv, hb, _⟩
    · cases h'
    · simp only [Value.slice.injEq, Option.some.injEq, Addr.mk.injEq] at hv
      omega
  exact ⟨g', cap', cur, rfl, hge, Lib.hid hcur, Lib.hid hle, Lib.hid htk, Lib.hid hset, Lib.hid (Chg.of_grown (S := NoM) hgr' (fun k hk => by simp [Value.ownBlock] at hk)).to_below⟩
theorem wpList_gen {P : Program} {ops rest : _} {a : Act} {w : World} {Q : Exit → Act → World → Prop} (R : World → Prop) (hR : R w) (h : ∀ W, R W → wpList P ops Q rest a W) : wpList P ops Q rest a w := h w hR
structure SetW (w w4 : World) (s : Nat) (v' : Value) (fp vi vp : Value) (P : List Sp.Page) : Prop where
  bs : Blk w4 s StoreT #[fp, .int .i64 ((P.length + 2 : Nat) : Int), .int .i64 400, .slice none 0 0, .slice none 0 0, vi, vp]
  oi : w4.ownsRow 0 3 1 vi P.length (idsV P.length)
  op : ∃ xs, w4.ownsRow 0 PageT 14 v' P.length xs ∧ PgCells w4 (OneM s) P xs
  nb : ∀ k, v'.ownBlock = some k → k ≠ s
  ck : Chg (OneM s) w w4
theorem SetW.done {w w4 : World} {s : Nat} {v' fp vi vp : Value} {P : List Sp.Page} (h : SetW w w4 s v' fp vi vp P) : StoreAt (w4.setCell ⟨s, 6, none⟩ v') s fp vi v' P ∧ Chg (OneM s) w (w4.setCell ⟨s, 6, none⟩ v') := by
  have hk := Chg.set1 w4 s 6 v'
  obtain ⟨xs, h1, h2⟩ := h.op
  refine ⟨⟨h.bs.set_ 6 v', own_chg2 h.oi hk fun k hk h' => ?_, xs, own_chg2 h1 hk fun k hk h' => h.nb k hk h', h2.chg hk⟩, h.ck.trans hk⟩
  exact own_not h.oi (t := StoreT) (by decide) k hk _ (h'.symm ▸ h.bs)
theorem chg_setRow1' (w : World) (k : Nat) (cs : Array Value) : Chg (OneM k) w (w.setRow k cs) :=
  ⟨rfl, rfl, rfl, by simp, fun i _ hs => setRow_other w k i cs (fun e => hs e)⟩
theorem setw_of {w w2 w3 : World} {s g' cap' : Nat} {fp vi vp : Value} {P : List Sp.Page} {xs : List Value} {cur : Array Value} {k : Nat} {p : Sp.Page} {r : Refs} (S : StoreAt w2 s fp vi vp P) (hb3 : Below w2.heap.size w2 w3) (hcur : Blk w3 g' PageT cur) (hle : P.length * 14 ≤ cur.size) (htk : cur.toList.take (P.length * 14) = xs)
    (hset : ∀ (w' : World) (cur' : Array Value), Blk w' g' PageT cur' → cur'.size = cur.size → w'.ownsRow w2.heap.size PageT 14 (.slice (some ⟨g', 0, none⟩) P.length cap') P.length (cur'.toList.take (P.length * 14)))
    (HX : PgCells w2 (OneM s) P xs) (HP : PageRd w2 (OneM s) p r) (HK : Chg (OneM s) w w2) (hg : w2.heap.size ≤ g') (hk : k < P.length) (X : Array Value) (hX : X.toList = cur.toList.take (k * 14) ++ pageV p r ++ cur.toList.drop (k * 14 + 14)) :
    SetW w (w3.setRow g' X) s (.slice (some ⟨g', 0, none⟩) P.length cap') fp vi vp (P.set k p) := by
  have hsg : s ≠ g' := by have := S.bs.lt; omega
  have hb4 : Below w2.heap.size w2 (w3.setRow g' X) := below_setRow hb3 hg X
  have hl : (pageV p r).length = 14 := by simp [pageV, mtV]
  have hcl : cur.toList.length = cur.size := Array.length_toList
  have hxs : X.size = cur.size := by
    rw [← Array.length_toList, hX]
    simp only [List.length_append, List.length_take, List.length_drop, Array.length_toList, hl]
    omega
  have hX2 : X.toList.take (P.length * 14) = xs.take (k * 14) ++ pageV p r ++ xs.drop (k * 14 + 14) := by
    rw [hX, ← htk]
    generalize P.length = n at *
    generalize cur.toList = L at *
    generalize pageV p r = q at *
    obtain ⟨d, hd⟩ : ∃ d, n * 14 = k * 14 + 14 + d := ⟨n * 14 - (k * 14 + 14), by omega⟩
    rw [List.append_assoc, List.append_assoc, List.take_append, List.take_append, List.take_take, List.length_take, hl, List.take_drop, List.take_take, hd]
    rw [show min (k * 14 + 14 + d) (k * 14) = k * 14 by omega, show min (k * 14) (k * 14 + 14 + d) = k * 14 by omega, show min (k * 14) L.length = k * 14 by omega]
    rw [show k * 14 + 14 + d - k * 14 - 14 = d by omega, show k * 14 + 14 + d - k * 14 = 14 + d by omega, List.take_of_length_le (l := q) (by omega)]
  have h1 := S.go hb4
  have hro := hset (w3.setRow g' X) X hcur.row hxs
  rw [hX2] at hro
  refine ⟨?_, ?_, ⟨_, ?_, (HX.chg (Chg.of_below hb4)).set (HP.chg (Chg.of_below hb4)) hk⟩, ?_, HK.trans (Chg.of_below hb4)⟩
  · rw [List.length_set]; exact h1.bs
  · rw [List.length_set]; exact h1.oi
  · rw [List.length_set]; exact ⟨hro.1, by
      rcases hro.2 with h | ⟨g, cap, cur, h1, h2, h3⟩
      · exact .inl h
      · exact .inr ⟨g, cap, cur, h1, Nat.zero_le _, h3⟩⟩
  · intro j hj
    have : g' = j := by simpa [Value.ownBlock] using hj
    omega
set_option maxRecDepth 100000 in
set_option maxHeartbeats 1600000 in
theorem set_any (s : Nat) (fp vi vp : Value) (P : List Sp.Page) (k : Nat) (p : Sp.Page) (r : Refs) (w : World) (h : StoreAt w s fp vi vp P) (h3 : k < P.length) (hn : P.length ≤ 400) (hp : PageRd w (OneM s) p r) (hip : Sp.isPage p = true) :
    Calls Tryz.prog 149 #[.pointer (some ⟨s, 0, none⟩), .int .i64 ((k : Int) + 2), .agg (pageV p r).toArray] w fun e w' => e = .returned (.int .i64 0) ∧ ∃ vp', StoreAt w' s fp vi vp' (P.set k p) ∧ Chg (OneM s) w w' := by
  have hal : Below w.heap.size w (w.alloc (.cells (pageV p r).toArray PageT)) := (Below.refl _ _).alloc (Nat.le_refl _) _
  have S := Lib.hid (h.go hal)
  have HP := Lib.hid (hp.chg (Chg.of_below hal))
  have HB := Lib.hid (Blk.new w PageT (pageV p r).toArray)
  have HI := Lib.hid hip
  have HK := Lib.hid (show Chg (OneM s) w (w.alloc (.cells (pageV p r).toArray PageT)) from Chg.of_below hal)
  have hsw := h.bs.lt
  obtain ⟨i0, hi0, hz0, hz1, hz2⟩ := info_parts info_page
  obtain ⟨xs, hop, hcs⟩ := h.op
  obtain ⟨g, cap, rfl, hgw, hcg⟩ := own_some hop (by omega)
  have hxl := hcs.len
  clear h hp hip
  have hpl : (if 2 ≤ (k : Int) + 2 ∧ (k : Int) + 2 < ((P.length + 2 : Nat) : Int) then (k : Int) + 2 - 2 else -1) = (k : Int) := by
    rw [if_pos ⟨by omega, by omega⟩]
    omega
  have HX := Lib.hid (hcs.chg (Chg.of_below hal))
  have HO := Lib.hid (own_chg2 (S := NoM) hop (Chg.of_below hal) (fun _ _ h => h))
  have HCG := Lib.hid (fun j u (hu : xs[j]? = some u) => (hal.cell (p := ⟨g, j, none⟩) hgw).trans (hcg j u hu))
  have hgw2 : g < (w.alloc (.cells (pageV p r).toArray PageT)).heap.size := by simp; omega
  clear hop hcs hcg hal
  simp only [pageV] at HB
  have HPE := Lib.hid (show (pageV p r) = [.int .i64 p.kind, .slice r.I p.items.length r.i, .slice r.K p.keys.length r.k, .slice r.D p.kids.length r.d, .string ⟨p.text.toArray⟩, .slice r.V p.vals.length r.v, .slice r.F p.free.length r.f, .int .i64 p.next,
   .int .u64 p.mt.txn, .int .i64 p.mt.main.page, .int .i64 p.mt.main.count, .int .i64 p.mt.main.flags, .int .i64 p.mt.free, .int .i64 p.mt.last] from rfl)
  simp only [pageV, mtV, List.cons_append, List.nil_append] at *
  go_enter Tryz.func149, Tryz.ntmps149
  go_upto_region 4 with (first
    | (go_at_call 193; refine (place_no s fp vi (.slice (some ⟨g, 0, none⟩) P.length cap) P ((k : Int) + 2) _ S.out hn).mono ?_; rintro e w2 ⟨rfl, rfl⟩; rw [hpl])
    | (go_at_call 55; refine (dIs_any (M := OneM s) p r _ HP.out).mono ?_; rintro e w2 ⟨rfl, hb2⟩; rw [HI.out]; replace S := Lib.hid (S.out.go hb2); replace HX := Lib.hid (HX.out.chg (Chg.of_below hb2)); replace HCG := Lib.hid (fun j u (hu : xs[j]? = some u) => (hb2.cell (p := ⟨g, j, none⟩) hgw2).trans (HCG.out j u hu)); replace HP := Lib.hid (HP.out.chg (Chg.of_below hb2)); replace HB := Lib.hid (HB.out.below hb2 HB.out.lt); replace HK := Lib.hid (HK.out.trans (Chg.of_below hb2)); clear hb2)
    | (refine wpList_row PageT _ rfl w.heap.size rfl rfl PageT _ (0, 0) _ HB.out Tryz.underlying59 rfl rfl ?_))
  have c6 : w2.cell? ⟨s, 6, none⟩ = some (.slice (some ⟨g, 0, none⟩) P.length cap) := S.out.bs.cell 6
  have HN1 := Lib.hid (fun (j : Nat) (u : Value) (hu : xs[j]? = some u) => show w2.cell? ((⟨g, 0, none⟩ : Addr).add j) = some u by rw [Go.WideShapes.add_plain, Nat.zero_add]; exact HCG.out j u hu)
  have HN2 := Lib.hid HX.out.one
  have HN3 := Lib.hid (show 0 + P.length ≤ maxLen by simp only [maxLen]; omega)
  have HN4 := Lib.hid (show (0 + P.length) * 200 ≤ 140737488355328 by omega)
  go_wp2_with (first
    | (at_builtin; refine wpList_append_own _ rfl _ _ 93 rfl w2.heap.size PageT i0 _ 14 200 Tryz.underlying93 hi0 hz0 hz1 hz2 rfl (by decide) _ 0 [] rfl (own_nil _ _ _ _) ⟨g, 0, none⟩ P.length cap xs rfl hxl HN1.out HN2.out HN3.out HN4.out (Nat.le_refl _) ?_; rintro v' w3 hown' hgr' hnil
       obtain ⟨g', cap', cur, rfl, hge, hcur, hle, htk, hset, hb3⟩ := grown_row (by omega) hown' hgr'
       have hsg : s ≠ g' := by have := HB.out.lt; omega
       have hwg : w.heap.size ≠ g' := by have := HB.out.lt; omega
       replace HB := Lib.hid (HB.out.below hb3.out HB.out.lt)
       clear hown' hgr' hnil)
    | (refine wpList_row PageT _ rfl w.heap.size rfl rfl PageT _ (0, 0) _ HB.out Tryz.underlying59 rfl rfl ?_)
    | (refine wpList_store_at rfl PageT _ _ rfl g' (k * 14) #[.int .i64 p.kind, .slice r.I p.items.length r.i, .slice r.K p.keys.length r.k, .slice r.D p.kids.length r.d, .string ⟨p.text.toArray⟩, .slice r.V p.vals.length r.v, .slice r.F p.free.length r.f, .int .i64 p.next,
   .int .u64 p.mt.txn, .int .i64 p.mt.main.page, .int .i64 p.mt.main.count, .int .i64 p.mt.main.flags, .int .i64 p.mt.free, .int .i64 p.mt.last] rfl rfl PageT cur hcur.out rfl (by have := hle.out; simp only [List.size_toArray, List.length_cons, List.length_nil]; omega) (pageV_all p r) ?_; refine wpList_gen (fun W => SetW w W s (.slice (some ⟨g', 0, none⟩) P.length cap') fp vi (.slice (some ⟨g, 0, none⟩) P.length cap) (P.set k p)) (setw_of (w2 := w2) S.out hb3.out hcur.out hle.out htk.out hset.out HX.out HP.out HK.out hge h3 _ (by simp [pageV, mtV])) ?_; rintro w4 T4; have d6 := T4.bs.cell 6; have f6 := T4.bs.frozen 6; replace T4 := Lib.hid T4; clear hb3 hcur hle htk hset HB))
  go_ret
  exact ⟨rfl, _, T4.out.done.1, T4.out.done.2⟩
end Go.Proofs.YtlpmjeiogdlifaaGreat
namespace Go.Proofs.YtlpmjeiogdlifaaGreat
open Go.RowKit
attribute [local go_sem low] mk_extract
attribute [local go_sem] After.cell After.frozen mk_extract_end ByteArray.mk_append_mk
theorem lt_le (x key : Txt) : (Op.bytesLess x key = true ∨ (x == key) = true) ↔ Sp.lt key x = false := by
  show (Sp.lt x key = true ∨ (x == key) = true) ↔ Sp.lt key x = false
  rw [beq_iff_eq]
  constructor
  · rintro (h | rfl)
    · rcases hq : Sp.lt key x with _ | _
      · rfl
      · exact absurd (Sp.lt_trans h hq) (by rw [Sp.lt_irr]; exact Bool.false_ne_true)
    · exact Sp.lt_irr _
  · intro h
    by_cases hx : x = key
    · exact .inr hx
    · exact .inl (by
        rcases Sp.lt_tri x key with h' | h' | h'
        · exact h'
        · exact absurd h' hx
        · rw [h'] at h; cases h)
set_option maxRecDepth 100000 in
set_option maxHeartbeats 1600000 in
theorem down_any (p : Sp.Page) (r : Refs) (key : Txt) {M : Nat → Prop} (w : World) (hk : Txts w M r.K p.keys) (h1 : 1 ≤ p.keys.length) (hn : p.keys.length ≤ 1000) :
    Calls Tryz.prog 148 #[.agg (pageV p r).toArray, .string ⟨key.toArray⟩] w fun e w' => e = .returned (.int .i64 (Sp.dn p.keys key p.keys.length : Nat)) ∧ Below w.heap.size w w' := by
  have hal : Below w.heap.size w (w.alloc (.cells (pageV p r).toArray PageT)) := (Below.refl _ _).alloc (Nat.le_refl _) _
  obtain ⟨b, off, hA, hb, hc⟩ := hk.at_ (k := 0) (by omega)
  have HA := Lib.hid hA
  have HK := Lib.hid (fun j hj => (hal.cell (p := ⟨b, off + j, none⟩) hb).trans (hc j hj))
  have HB := Lib.hid hal
  have c2 : (w.alloc (.cells (pageV p r).toArray PageT)).cell? ⟨w.heap.size, 2, none⟩ = some (.slice (some ⟨b, off, none⟩) p.keys.length r.k) := by
    rw [← hA]; exact (Blk.new w PageT (pageV p r).toArray).cell 2
  clear hk hc hA hal
  go_enter Tryz.func148, Tryz.ntmps148
  go_wp2_with fail
  go_loopw [5, 6] (fun kv i wr => ∃ j : Nat, 1 ≤ j ∧ j ≤ p.keys.length ∧ kv = .int .i64 (Sp.dn p.keys key j : Nat) ∧ i = .int .i64 (j : Int) ∧ wr = w.alloc (.cells (pageV p r).toArray PageT)) (fun _ i _ => p.keys.length - (intOf i).toNat)
  case atStart => exact ⟨1, by omega, h1, rfl, rfl, rfl⟩
  case round =>
    obtain ⟨j, hj1, hj, rfl, rfl, rfl⟩ := hrel
    by_cases hlt : j < p.keys.length
    · have hcj := HK.out j hlt
      have HD : Hid (Sp.dn p.keys key (j + 1) = if j ≠ 0 ∧ Sp.lt key (p.keys.getD j []) = false then j else Sp.dn p.keys key j) := Lib.hid rfl
      generalize p.keys.getD j [] = x at *
      generalize Sp.dn p.keys key j = d at *
      have HQ : Hid ((Op.bytesLess x key = true ∨ (x == key) = true) ↔ Sp.lt key x = false) := Lib.hid (lt_le x key)
      go_wp2_with fail
      · rename_i hc
        have hc2 := HQ.out.1 hc
        refine ⟨⟨j + 1, by omega, by omega, ?_, by go_num, trivial⟩, by simp [intOf]; omega⟩
        rw [HD.out, if_pos ⟨by omega, hc2⟩]
      · rename_i hc
        have hc2 : ¬ Sp.lt key x = false := fun h => by
          have := HQ.out.2 h
          rw [hc.1, hc.2] at this
          simp at this
        refine ⟨⟨j + 1, by omega, by omega, ?_, by go_num, trivial⟩, by simp [intOf]; omega⟩
        rw [HD.out, if_neg (fun h => hc2 h.2)]
    · obtain rfl : j = p.keys.length := by omega
      clear hlt
      go_wp2_with fail
      go_ret
      exact ⟨rfl, HB.out⟩
end Go.Proofs.YtlpmjeiogdlifaaGreat
namespace Go.Proofs.YtlpmjeiogdlifaaGreat
open Go.RowKit
attribute [local go_sem low] mk_extract
attribute [local go_sem] After.cell After.frozen mk_extract_end ByteArray.mk_append_mk
structure DrS (w W : World) (s b ni : Nat) (fp lv vi vp : Value) (P : List Sp.Page) (p : Sp.Page) (r : Refs) : Prop where
  bs : Blk W s StoreT #[fp, lv, .int .i64 400, .slice none 0 0, .slice none 0 0, vi, vp]
  oi : W.ownsRow 0 3 1 vi ni (idsV ni)
  op : ∃ xs, W.ownsRow 0 PageT 14 vp P.length xs ∧ PgCells W (OneM s) P xs
  bp : Blk W b PageT (pageV p r).toArray
  pr : PageRd W (OneM s) p r
  ck : Chg (OneM s) w W
  hb : w.heap.size ≤ b
theorem own_baseU {w : World} {base base' : Nat} {e : TypeId} {size n : Nat} {v : Value} {xs : List Value} (h : w.ownsRow base e size v n xs) (hb : base' ≤ base) : w.ownsRow base' e size v n xs := by
  obtain ⟨h1, h2⟩ := h
  rcases h2 with h2 | ⟨g, cap, cur, hv, hg, r⟩
  · exact ⟨h1, .inl h2⟩
  · exact ⟨h1, .inr ⟨g, cap, cur, hv, by omega, r⟩⟩
theorem DrS.ids {w W W' : World} {s b ni : Nat} {fp lv vi vp : Value} {P : List Sp.Page} {p : Sp.Page} {r : Refs} (h : DrS w W s b ni fp lv vi vp P p r) (hb : Below W.heap.size W W') {v : Value} (hv : W'.ownsRow W.heap.size 3 1 v (ni + 1) (idsV (ni + 1))) :
    DrS w (W'.setCell ⟨s, 5, none⟩ v) s b (ni + 1) fp lv v vp P p r := by
  have hs := h.bs.lt
  have hk := Chg.set1 W' s 5 v
  obtain ⟨xs, h1, h2⟩ := h.op
  refine ⟨(h.bs.below hb hs).set_ 5 v, own_baseU (own_chg2 hv hk fun k hk h' => ?_) (Nat.zero_le _), ⟨xs, ?_, ?_⟩, ?_, ?_, (h.ck.trans (Chg.of_below hb)).trans hk, h.hb⟩
  · have h' : k = s := h'
    exact own_not hv (t := StoreT) (by decide) k hk _ (h'.symm ▸ (h.bs.below hb hs))
  · refine own_chg2 (own_chg2 (S := NoM) h1 (Chg.of_below hb) (fun _ _ h => h)) hk fun k hk h' => ?_
    have h' : k = s := h'
    exact own_not h1 (t := StoreT) (by decide) k hk _ (h'.symm ▸ h.bs)
  · exact (h2.chg (Chg.of_below hb)).chg hk
  · refine (h.bp.below hb h.bp.lt).chg hk fun e => ?_
    have e : b = s := e
    exact Blk.not_ h.bs (t' := PageT) (by decide) _ (e ▸ h.bp)
  · exact (h.pr.chg (Chg.of_below hb)).chg hk
theorem DrS.page {w W W' : World} {s b ni : Nat} {fp lv vi vp : Value} {P : List Sp.Page} {p : Sp.Page} {r : Refs} (h : DrS w W s b ni fp lv vi vp P p r) (hb : Below W.heap.size W W') {v : Value} {xs : List Value} (hx : PgCells W (OneM s) P xs) (hv : W'.ownsRow W.heap.size PageT 14 v (P.length + 1) (xs ++ pageV p r)) :
    DrS w (W'.setCell ⟨s, 6, none⟩ v) s b ni fp lv vi v (P ++ [p]) p r := by
  have hs := h.bs.lt
  have hk := Chg.set1 W' s 6 v
  refine ⟨(h.bs.below hb hs).set_ 6 v, ?_, ⟨_, own_baseU (own_chg2 (by rw [List.length_append]; exact hv) hk fun k hk h' => ?_) (Nat.zero_le _), ?_⟩, ?_, ?_, (h.ck.trans (Chg.of_below hb)).trans hk, h.hb⟩
  · refine own_chg2 (own_chg2 (S := NoM) h.oi (Chg.of_below hb) (fun _ _ h => h)) hk fun k hk h' => ?_
    have h' : k = s := h'
    exact own_not h.oi (t := StoreT) (by decide) k hk _ (h'.symm ▸ h.bs)
  · have h' : k = s := h'
    exact own_not hv (t := StoreT) (by decide) k hk _ (h'.symm ▸ (h.bs.below hb hs))
  · have hq : PgCells (W'.setCell ⟨s, 6, none⟩ v) (OneM s) [p] (pageV p r) := ⟨r, [], by simp, (h.pr.chg (Chg.of_below hb)).chg hk, rfl⟩
    exact hq.app ((hx.chg (Chg.of_below hb)).chg hk)
  · refine (h.bp.below hb h.bp.lt).chg hk fun e => ?_
    have e : b = s := e
    exact Blk.not_ h.bs (t' := PageT) (by decide) _ (e ▸ h.bp)
  · exact (h.pr.chg (Chg.of_below hb)).chg hk
theorem own_cap {w : World} {base n : Nat} {e : TypeId} {size g cap : Nat} {xs : List Value} (h : w.ownsRow base e size (.slice (some ⟨g, 0, none⟩) n cap) n xs) : n ≤ cap ∧ cap ≤ maxLen := by
  obtain ⟨h1, h2⟩ := h
  rcases h2 with ⟨h', _⟩ | ⟨g', cap', cur, hv, hb, hB, hn, hm, hs, ht⟩
  · cases h'
  · simp only [Value.slice.injEq, Option.some.injEq, Addr.mk.injEq] at hv
    obtain ⟨_, _, rfl⟩ := hv
    exact ⟨hn, hm⟩
theorem grown_below {W w' : World} (hgr : W.grownBy w' (Value.slice none 0 0).ownBlock) : Below W.heap.size W w' := (Chg.of_grown (S := NoM) hgr (fun k hk => by simp [Value.ownBlock] at hk)).to_below
theorem grown_own {W w' : World} {base n : Nat} {e : TypeId} {size : Nat} {v : Value} {xs : List Value} (own : W.ownsRow base e size v n xs) (hb : base ≤ W.heap.size) (hgr : W.grownBy w' v.ownBlock) : Below base W w' :=
  (Chg.of_grown (S := fun k => v.ownBlock = some k) hgr (fun k hk => .inl hk)).below hb (fun k hk e => by
    rcases own.2 with ⟨rfl, _⟩ | ⟨g, cap, cur, rfl, hbg, _⟩
    · simp [Value.ownBlock] at e
    · have : g = k := by simpa [Value.ownBlock] using e
      omega)
theorem DrS.opn {w W : World} {s b ni : Nat} {fp lv vi vp : Value} {P : List Sp.Page} {p p' : Sp.Page} {r : Refs} (h : DrS w W s b ni fp lv vi vp (P ++ [p']) p r) : ∃ xs, W.ownsRow 0 PageT 14 vp (P.length + 1) xs ∧ PgCells W (OneM s) (P ++ [p']) xs := by
  have := h.op
  rwa [List.length_append] at this
theorem cell_one_keep {w0 W2 : World} {t : TypeId} {u : Value} (h : Below (w0.alloc (.cells #[u] t)).heap.size (w0.alloc (.cells #[u] t)) W2) : ∀ j u', [u][j]? = some u' → W2.cell? ((⟨w0.heap.size, 0, none⟩ : Addr).add j) = some u' := by
  intro j u' hu
  have hlt : w0.heap.size < (w0.alloc (.cells #[u] t)).heap.size := by simp
  obtain ⟨rfl, rfl⟩ : j = 0 ∧ u = u' := by
    cases j with
    | zero => exact ⟨rfl, by simpa using hu⟩
    | succ j => simp at hu
  rw [Go.WideShapes.add_plain]
  exact (h.cell (p := ⟨w0.heap.size, 0 + 0, none⟩) hlt).trans ((Blk.new w0 t #[u]).cell 0)
theorem cell_one_keepD {w0 W2 : World} {t : TypeId} {u : Value} (h : Below (w0.alloc (.cells #[u] t)).drew.heap.size (w0.alloc (.cells #[u] t)).drew W2) : ∀ j u', [u][j]? = some u' → W2.cell? ((⟨w0.heap.size, 0, none⟩ : Addr).add j) = some u' :=
  cell_one_keep ⟨h.os, h.tape, h.output, h.size, h.block⟩
theorem cells_new (w0 : World) (t : TypeId) (l : List Value) : ∀ j u, l[j]? = some u → (w0.alloc (.cells l.toArray t)).cell? ((⟨w0.heap.size, 0, none⟩ : Addr).add j) = some u := by
  intro j u hu
  rw [Go.WideShapes.add_plain, Nat.zero_add]
  exact ((Blk.new w0 t l.toArray).cell j).trans (by simpa using hu)
theorem cells_new_keep {w0 W2 : World} {t : TypeId} {l : List Value} (h : Below (w0.alloc (.cells l.toArray t)).heap.size (w0.alloc (.cells l.toArray t)) W2) : ∀ j u, l[j]? = some u → W2.cell? ((⟨w0.heap.size, 0, none⟩ : Addr).add j) = some u := by
  intro j u hu
  have hlt : w0.heap.size < (w0.alloc (.cells l.toArray t)).heap.size := by simp
  have h1 := cells_new w0 t l j u hu
  rw [Go.WideShapes.add_plain] at h1 ⊢
  exact (h.cell (p := ⟨w0.heap.size, 0 + j, none⟩) hlt).trans h1
theorem cells_new_keepD {w0 W2 : World} {t : TypeId} {l : List Value} (h : Below (w0.alloc (.cells l.toArray t)).drew.heap.size (w0.alloc (.cells l.toArray t)).drew W2) : ∀ j u, l[j]? = some u → W2.cell? ((⟨w0.heap.size, 0, none⟩ : Addr).add j) = some u :=
  cells_new_keep ⟨h.os, h.tape, h.output, h.size, h.block⟩
theorem cells_newD (w0 : World) (t : TypeId) (l : List Value) : ∀ j u, l[j]? = some u → (w0.alloc (.cells l.toArray t)).drew.cell? ((⟨w0.heap.size, 0, none⟩ : Addr).add j) = some u := cells_new w0 t l
theorem pageV_form (p : Sp.Page) (r : Refs) : ∃ q0 q1 q2 q3 q4 q5 q6 q7 q8 q9 q10 q11 q12 q13, pageV p r = [q0, q1, q2, q3, q4, q5, q6, q7, q8, q9, q10, q11, q12, q13] := ⟨_, _, _, _, _, _, _, _, _, _, _, _, _, _, rfl⟩
theorem cells_keep {w W : World} {g off : Nat} {xs : List Value} (h : Below w.heap.size w W) (hg : g < w.heap.size) (hc : ∀ j u, xs[j]? = some u → w.cell? ⟨g, off + j, none⟩ = some u) : ∀ j u, xs[j]? = some u → W.cell? ((⟨g, off, none⟩ : Addr).add j) = some u := fun j u hu => by
  rw [Go.WideShapes.add_plain]
  exact (h.cell (p := ⟨g, off + j, none⟩) hg).trans (hc j u hu)
end Go.Proofs.YtlpmjeiogdlifaaGreat
namespace Go.Proofs.YtlpmjeiogdlifaaGreat
open Go.RowKit
attribute [local go_sem low] mk_extract
attribute [local go_sem] After.cell After.frozen mk_extract_end ByteArray.mk_append_mk
structure StL (w : World) (s : Nat) (fp lv vi vp : Value) (P : List Sp.Page) : Prop where
  bs : Blk w s StoreT #[fp, lv, .int .i64 400, .slice none 0 0, .slice none 0 0, vi, vp]
  oi : w.ownsRow 0 3 1 vi P.length (idsV P.length)
  op : ∃ xs, w.ownsRow 0 PageT 14 vp P.length xs ∧ PgCells w (OneM s) P xs
def StF (w : World) (s : Nat) (fp : Value) (P : List Sp.Page) : Prop := ∃ vi vp, StoreAt w s fp vi vp P ∧ (P = [] → vi = .slice none 0 0 ∧ vp = .slice none 0 0)
section
variable {w w' : World} {s : Nat} {fp lv vi vp : Value} {P : List Sp.Page}
theorem StoreAt.l (h : StoreAt w s fp vi vp P) : StL w s fp (.int .i64 ((P.length + 2 : Nat) : Int)) vi vp P := ⟨h.bs, h.oi, h.op⟩
theorem StL.at_ (h : StL w s fp (.int .i64 ((P.length + 2 : Nat) : Int)) vi vp P) : StoreAt w s fp vi vp P := ⟨h.bs, h.oi, h.op⟩
theorem StL.go (h : StL w s fp lv vi vp P) (hb : Below w.heap.size w w') : StL w' s fp lv vi vp P := by
  obtain ⟨xs, h1, h2⟩ := h.op
  exact ⟨h.bs.below hb h.bs.lt, own_chg2 (S := NoM) h.oi (Chg.of_below hb) (fun _ _ h => h), ⟨xs, own_chg2 (S := NoM) h1 (Chg.of_below hb) (fun _ _ h => h), h2.chg (Chg.of_below hb)⟩⟩
theorem StL.last (h : StL w s fp lv vi vp P) (u : Value) : StL (w.setCell ⟨s, 1, none⟩ u) s fp u vi vp P := by
  have hk := Chg.set1 w s 1 u
  obtain ⟨xs, h1, h2⟩ := h.op
  refine ⟨h.bs.set_ 1 u, own_chg2 h.oi hk fun k hk h' => ?_, xs, own_chg2 h1 hk fun k hk h' => ?_, h2.chg hk⟩
  · have h' : k = s := h'
    exact own_not h.oi (t := StoreT) (by decide) k hk _ (h'.symm ▸ h.bs)
  · have h' : k = s := h'
    exact own_not h1 (t := StoreT) (by decide) k hk _ (h'.symm ▸ h.bs)
theorem StF.go (h : StF w s fp P) (hb : Below w.heap.size w w') : StF w' s fp P := by
  obtain ⟨vi, vp, h1, h2⟩ := h
  exact ⟨vi, vp, h1.go hb, h2⟩
theorem StF.of (h : StoreAt w s fp vi vp P) (hP : P ≠ []) : StF w s fp P := ⟨vi, vp, h, fun e => absurd e hP⟩
end
structure AddS (w W : World) (s b : Nat) (fp lv vi vp : Value) (P : List Sp.Page) (p : Sp.Page) (r : Refs) : Prop where
  st : StL W s fp lv vi vp P
  bp : Blk W b PageT (pageV p r).toArray
  pr : PageRd W (OneM s) p r
  ck : Chg (OneM s) w W
theorem AddS.go {w W W' : World} {s b : Nat} {fp lv vi vp : Value} {P : List Sp.Page} {p : Sp.Page} {r : Refs} (h : AddS w W s b fp lv vi vp P p r) (hb : Below W.heap.size W W') : AddS w W' s b fp lv vi vp P p r :=
  ⟨h.st.go hb, h.bp.below hb h.bp.lt, h.pr.go hb, h.ck.trans (Chg.of_below hb)⟩
theorem AddS.last {w W : World} {s b : Nat} {fp lv vi vp : Value} {P : List Sp.Page} {p : Sp.Page} {r : Refs} (h : AddS w W s b fp lv vi vp P p r) (u : Value) : AddS w (W.setCell ⟨s, 1, none⟩ u) s b fp u vi vp P p r :=
  ⟨h.st.last u, h.bp.chg (Chg.set1 W s 1 u) (fun e => by
    have e : b = s := e
    exact Blk.not_ h.st.bs (t' := PageT) (by decide) _ (e ▸ h.bp)), h.pr.chg (Chg.set1 W s 1 u), h.ck.trans (Chg.set1 W s 1 u)⟩
end Go.Proofs.YtlpmjeiogdlifaaGreat
namespace Go.Proofs.YtlpmjeiogdlifaaGreat
open Go.RowKit
attribute [local go_sem low] mk_extract
attribute [local go_sem] After.cell After.frozen mk_extract_end ByteArray.mk_append_mk
set_option maxRecDepth 100000 in
set_option maxHeartbeats 1600000 in
theorem touch_own (s : Nat) (fp : Value) (P : List Sp.Page) (k : Nat) (w : World) (h : StF w s fp P) (hk : k < P.length) (hn : P.length ≤ 120) :
    Calls Tryz.prog 145 #[.pointer (some ⟨s, 0, none⟩), .int .i64 ((k : Int) + 2)] w fun e w' => e = .returned (.tuple #[.int .i64 ((k : Int) + 2), .int .i64 0]) ∧ w = w' := by
  obtain ⟨vi, vp, h1, h0⟩ := h
  have S := Lib.hid h1
  have hpl : (if 2 ≤ (k : Int) + 2 ∧ (k : Int) + 2 < ((P.length + 2 : Nat) : Int) then (k : Int) + 2 - 2 else -1) = (k : Int) := by
    rw [if_pos ⟨by omega, by omega⟩]
    omega
  clear h1 h0
  go_enter Tryz.func145, Tryz.ntmps145
  go_wp2_with (go_at_call 193; refine (place_no s fp vi vp P ((k : Int) + 2) _ S.out (by omega)).mono ?_; rintro e w2 ⟨rfl, rfl⟩; rw [hpl])
  exact bodyPost_ret (v := .tuple #[.int .i64 ((k : Int) + 2), .int .i64 0]) (by simp [results, Tryz.results145, go_sem]) rfl ⟨rfl, rfl⟩
def pgZ : Array Value := #[.int .i64 0, .slice none 0 0, .slice none 0 0, .slice none 0 0, .string ⟨#[]⟩, .slice none 0 0, .slice none 0 0, .int .i64 0, .int .u64 0, .int .i64 0, .int .i64 0, .int .i64 0, .int .i64 0, .int .i64 0]
set_option maxRecDepth 100000 in
set_option maxHeartbeats 1600000 in
theorem read_own (s : Nat) (fp : Value) (P : List Sp.Page) (k : Nat) (p : Sp.Page) (w : World) (h : StF w s fp P) (hp : P[k]? = some p) (hn : P.length ≤ 120) (hq : p.kind ≠ 0) :
    Calls Tryz.prog 146 #[.pointer (some ⟨s, 0, none⟩), .int .i64 ((k : Int) + 2)] w fun e w' => ∃ r, e = .returned (.tuple #[.agg (pageV p r).toArray, .int .i64 0]) ∧ PageRd w' (OneM s) p r ∧ Below w.heap.size w w' := by
  obtain ⟨vi, vp, h1, h0⟩ := h
  have hk : k < P.length := (List.getElem?_eq_some_iff.1 hp).1
  obtain ⟨xs, hop, hcs⟩ := h1.op
  obtain ⟨g, cap, rfl, hgw, hcg⟩ := own_some hop (by omega)
  obtain ⟨r, hr, hx⟩ := hcs.at_ hp
  have hal : Below w.heap.size w (w.alloc (.cells pgZ PageT)) := (Below.refl _ _).alloc (Nat.le_refl _) _
  have S := Lib.hid (h1.go hal)
  have HP := Lib.hid hr
  have HZ := Lib.hid (Blk.new w PageT pgZ)
  have HC := Lib.hid (fun j u (hu : (pageV p r)[j]? = some u) => (hal.cell (p := ⟨g, k * 14 + j, none⟩) hgw).trans (hcg _ u (hx j u hu)))
  have c6 : (w.alloc (.cells pgZ PageT)).cell? ⟨s, 6, none⟩ = some (.slice (some ⟨g, 0, none⟩) P.length cap) := S.out.bs.cell 6
  have c2 : (w.alloc (.cells pgZ PageT)).cell? ⟨s, 2, none⟩ = some (.int .i64 400) := S.out.bs.cell 2
  have ck : (w.alloc (.cells pgZ PageT)).cell? ⟨g, k * 14, none⟩ = some (.int .i64 p.kind) := HC.out 0 _ rfl
  have HAL := Lib.hid hal
  have hpl : (if 2 ≤ (k : Int) + 2 ∧ (k : Int) + 2 < ((P.length + 2 : Nat) : Int) then (k : Int) + 2 - 2 else -1) = (k : Int) := by
    rw [if_pos ⟨by omega, by omega⟩]
    omega
  have hq1 : (p.kind == 0) = false := beq_eq_false_iff_ne.2 hq
  have h400 : ¬ (400 ≤ (k : Int) + 2) := by omega
  have hlt2 : ¬ ((k : Int) + 2 < 2) := by omega
  clear h1 h0 hal hp hop hcs hcg hx hr hq
  simp only [pgZ] at *
  go_enter Tryz.func146, Tryz.ntmps146
  go_wp2_with (first
    | (go_at_call 193; refine (place_no s fp vi _ P ((k : Int) + 2) _ S.out (by omega)).mono ?_; rintro e w2 ⟨rfl, rfl⟩; rw [hpl])
    | (refine wpList_at PageT _ rfl g (k * 14) rfl rfl (pageV p r).toArray _ (fun j v hv => HC.out j v (by simpa using hv)) Tryz.underlying59 rfl (by kernel_rfl) ?_)
    | (refine wpList_store_row rfl PageT _ _ rfl w.heap.size _ rfl rfl PageT _ HZ.out (by kernel_rfl) rfl (pageV_all p r) ?_))
  obtain ⟨⟨z0, z1, z2, z3, z4, z5, z6, z7, z8, z9, z10, z11, z12, z13⟩, _⟩ := (HZ.out.row (ds := #[.int .i64 p.kind, .slice r.I p.items.length r.i, .slice r.K p.keys.length r.k, .slice r.D p.kids.length r.d, .string ⟨p.text.toArray⟩, .slice r.V p.vals.length r.v, .slice r.F p.free.length r.f, .int .i64 p.next, .int .u64 p.mt.txn, .int .i64 p.mt.main.page, .int .i64 p.mt.main.count, .int .i64 p.mt.main.flags, .int .i64 p.mt.free, .int .i64 p.mt.last])).at14
  refine bodyPost_ret (v := .tuple #[.agg (pageV p r).toArray, .int .i64 0]) (by simp [results, Tryz.results146, go_sem, pageV, mtV, z0, z1, z2, z3, z4, z5, z6, z7, z8, z9, z10, z11, z12, z13]) rfl ⟨r, rfl, ?_, below_setRow HAL.out (Nat.le_refl _) _⟩
  exact HP.out.go (below_setRow HAL.out (Nat.le_refl _) _)
end Go.Proofs.YtlpmjeiogdlifaaGreat
namespace Go.Proofs.YtlpmjeiogdlifaaGreat
open Go.RowKit
attribute [local go_sem low] mk_extract
attribute [local go_sem] After.cell After.frozen mk_extract_end ByteArray.mk_append_mk
def ItP (w : World) (M : Nat → Prop) : List Sp.Item → List Value → Prop
  | [], xs => xs = []
  | x :: l, xs => ∃ V c ys, xs = itemV x V c ++ ys ∧ Txts w M V x.vals ∧ ItP w M l ys
theorem itemV_len (x : Sp.Item) (V : Option Addr) (c : Nat) : (itemV x V c).length = 10 := rfl
theorem itemV_one (x : Sp.Item) (V : Option Addr) (c : Nat) : ∀ u ∈ itemV x V c, u.oneCell' = true := by
  intro u hu
  simp only [itemV, List.mem_cons, List.not_mem_nil, or_false] at hu
  rcases hu with rfl | rfl | rfl | rfl | rfl | rfl | rfl | rfl | rfl | rfl <;> rfl
theorem ItP.chg {w w' : World} {M : Nat → Prop} (hk : Chg M w w') : ∀ {l : List Sp.Item} {xs : List Value}, ItP w M l xs → ItP w' M l xs
  | [], _, h => h
  | _ :: _, _, ⟨V, c, ys, e, ht, h⟩ => ⟨V, c, ys, e, ht.chg hk, h.chg hk⟩
theorem ItP.len {w : World} {M : Nat → Prop} : ∀ {l : List Sp.Item} {xs : List Value}, ItP w M l xs → xs.length = l.length * 10
  | [], xs, h => by
    have h : xs = [] := h
    rw [h]; rfl
  | x :: l, xs, ⟨V, c, ys, e, _, h⟩ => by
    have := h.len
    rw [e, List.length_append, this, itemV_len, List.length_cons]
    omega
theorem ItP.app {w : World} {M : Nat → Prop} {m : List Sp.Item} {ys : List Value} (hq : ItP w M m ys) : ∀ {l : List Sp.Item} {xs : List Value}, ItP w M l xs → ItP w M (l ++ m) (xs ++ ys)
  | [], xs, h => by
    have h : xs = [] := h
    rw [h]; exact hq
  | _ :: _, xs, ⟨V, c, zs, e, hr, h⟩ => ⟨V, c, zs ++ ys, by rw [e, List.append_assoc], hr, hq.app h⟩
theorem ItP.snoc {w : World} {M : Nat → Prop} {l : List Sp.Item} {xs : List Value} (h : ItP w M l xs) {x : Sp.Item} {V : Option Addr} {c : Nat} (ht : Txts w M V x.vals) : ItP w M (l ++ [x]) (xs ++ itemV x V c) :=
  ItP.app (m := [x]) (ys := itemV x V c) ⟨V, c, [], by simp, ht, rfl⟩ h
theorem ItP.one {w : World} {M : Nat → Prop} : ∀ {l : List Sp.Item} {xs : List Value}, ItP w M l xs → ∀ u ∈ xs, u.oneCell' = true
  | [], xs, h, u, hu => by
    have h : xs = [] := h
    rw [h] at hu; simp at hu
  | x :: l, xs, ⟨V, c, ys, e, _, h⟩, u, hu => by
    rw [e] at hu
    rcases List.mem_append.1 hu with hu | hu
    · exact itemV_one x V c u hu
    · exact h.one u hu
theorem ItP.at_ {w : World} {M : Nat → Prop} : ∀ {l : List Sp.Item} {xs : List Value}, ItP w M l xs → ∀ k, k < l.length → ∃ V c, Txts w M V (l.getD k Sp.item0).vals ∧ ∀ j u, (itemV (l.getD k Sp.item0) V c)[j]? = some u → xs[k * 10 + j]? = some u
  | [], _, _, k, hk => absurd hk (by simp)
  | x :: l, xs, ⟨V, c, ys, e, ht, h⟩, 0, _ => ⟨V, c, ht, fun j u hu => by
      rw [e, Nat.zero_mul, Nat.zero_add, List.getElem?_append_left]
      · exact hu
      · exact (List.getElem?_eq_some_iff.1 hu).1⟩
  | x :: l, xs, ⟨V, c, ys, e, ht, h⟩, k + 1, hk => by
    obtain ⟨V', c', ht', hc⟩ := h.at_ k (by simpa using hk)
    refine ⟨V', c', by simpa using ht', fun j u hu => ?_⟩
    have := hc j u (by simpa using hu)
    rw [e, List.getElem?_append_right (by rw [itemV_len]; omega), itemV_len, show (k + 1) * 10 + j - 10 = k * 10 + j by omega]
    exact this
theorem ItP.items {w : World} {M : Nat → Prop} {l : List Sp.Item} {xs : List Value} (h : ItP w M l xs) {g off : Nat} (hg : g < w.heap.size) (hm : ¬ M g) (hc : ∀ j u, xs[j]? = some u → w.cell? ⟨g, off + j, none⟩ = some u) (hl : l.length ≤ 1000) : Items w M (some ⟨g, off, none⟩) l := by
  refine ⟨by omega, .inr ⟨g, off, rfl, hg, hm, fun k hk => ?_⟩⟩
  obtain ⟨V, c, ht, hx⟩ := h.at_ k hk
  have hcell : ∀ j u, (itemV (l.getD k Sp.item0) V c)[j]? = some u → w.cell? ⟨g, off + k * 10 + j, none⟩ = some u := fun j u hu => by
    rw [Nat.add_assoc]
    exact hc _ u (hx j u hu)
  exact ⟨V, c, ⟨hcell 0 _ rfl, hcell 1 _ rfl, hcell 2 _ rfl, hcell 3 _ rfl, hcell 4 _ rfl, hcell 5 _ rfl, hcell 6 _ rfl, hcell 7 _ rfl, hcell 8 _ rfl, hcell 9 _ rfl⟩, ht⟩
theorem getD_take {α : Type} (l : List α) (d : α) {h k : Nat} (hk : k < (l.take h).length) : (l.take h).getD k d = l.getD k d := by
  have hk2 := hk
  rw [List.length_take] at hk2
  simp [List.getD, List.getElem?_take, show k < h by omega]
theorem Items.take {w : World} {M : Nat → Prop} {A : Option Addr} {l : List Sp.Item} (h : Items w M A l) (n : Nat) : Items w M A (l.take n) := by
  refine ⟨Nat.le_trans (by rw [List.length_take]; omega) h.1, ?_⟩
  rcases h.2 with rfl | ⟨b, off, e, hb, hm, hc⟩
  · exact .inl (by simp)
  · refine .inr ⟨b, off, e, hb, hm, fun k hk => ?_⟩
    rw [getD_take l _ hk]
    exact hc k (by rw [List.length_take] at hk; omega)
theorem Items.drop {w : World} {M : Nat → Prop} {b off : Nat} {l : List Sp.Item} (h : Items w M (some ⟨b, off, none⟩) l) (n : Nat) : Items w M (some ⟨b, off + n * 10, none⟩) (l.drop n) := by
  refine ⟨Nat.le_trans (by rw [List.length_drop]; omega) h.1, ?_⟩
  rcases h.2 with rfl | ⟨b', off', e, hb, hm, hc⟩
  · exact .inl (by simp)
  · obtain ⟨rfl, rfl⟩ : b = b' ∧ off = off' := by simpa using e
    refine .inr ⟨b, off + n * 10, rfl, hb, hm, fun k hk => ?_⟩
    obtain ⟨V, c, h1, h2⟩ := hc (n + k) (by rw [List.length_drop] at hk; omega)
    have e1 : (l.drop n).getD k Sp.item0 = l.getD (n + k) Sp.item0 := by simp [List.getD]
    rw [e1]
    refine ⟨V, c, ?_, h2⟩
    rw [show off + n * 10 + k * 10 = off + (n + k) * 10 by omega]
    exact h1
theorem Row.take {w : World} {M : Nat → Prop} {A : Option Addr} {cs : List Value} (h : Row w M A cs) (n : Nat) : Row w M A (cs.take n) := by
  refine ⟨Nat.le_trans (by rw [List.length_take]; omega) h.1, ?_⟩
  rcases h.2 with rfl | ⟨b, off, e, hb, hm, hc⟩
  · exact .inl (by simp)
  · refine .inr ⟨b, off, e, hb, hm, fun j u hu => hc j u ?_⟩
    rw [List.getElem?_take] at hu
    split at hu
    · exact hu
    · cases hu
theorem Row.drop {w : World} {M : Nat → Prop} {b off : Nat} {cs : List Value} (h : Row w M (some ⟨b, off, none⟩) cs) (n : Nat) : Row w M (some ⟨b, off + n, none⟩) (cs.drop n) := by
  refine ⟨Nat.le_trans (by rw [List.length_drop]; omega) h.1, ?_⟩
  rcases h.2 with rfl | ⟨b', off', e, hb, hm, hc⟩
  · exact .inl (by simp)
  · obtain ⟨rfl, rfl⟩ : b = b' ∧ off = off' := by simpa using e
    refine .inr ⟨b, off + n, rfl, hb, hm, fun j u hu => ?_⟩
    rw [Nat.add_assoc]
    exact hc _ u (by rw [List.getElem?_drop] at hu; exact hu)
theorem Txts.take {w : World} {M : Nat → Prop} {A : Option Addr} {l : List Txt} (h : Txts w M A l) (n : Nat) : Txts w M A (l.take n) := by
  have := Row.take h n
  unfold Txts
  rwa [List.map_take]
theorem Txts.drop {w : World} {M : Nat → Prop} {b off : Nat} {l : List Txt} (h : Txts w M (some ⟨b, off, none⟩) l) (n : Nat) : Txts w M (some ⟨b, off + n, none⟩) (l.drop n) := by
  have := Row.drop h n
  unfold Txts
  rwa [List.map_drop]
theorem Ints.take {w : World} {M : Nat → Prop} {A : Option Addr} {l : List Int} (h : Ints w M A l) (n : Nat) : Ints w M A (l.take n) := by
  have := Row.take h n
  unfold Ints
  rwa [List.map_take]
theorem Ints.drop {w : World} {M : Nat → Prop} {b off : Nat} {l : List Int} (h : Ints w M (some ⟨b, off, none⟩) l) (n : Nat) : Ints w M (some ⟨b, off + n, none⟩) (l.drop n) := by
  have := Row.drop h n
  unfold Ints
  rwa [List.map_drop]
def refsI (A : Option Addr) (c : Nat) : Refs := ⟨A, none, none, none, none, c, 0, 0, 0, 0⟩
def refsB (K : Option Addr) (k : Nat) (D : Option Addr) (d : Nat) : Refs := ⟨none, K, D, none, none, 0, k, d, 0, 0⟩
theorem leafRd {w : World} {M : Nat → Prop} {A : Option Addr} {l : List Sp.Item} (h : Items w M A l) (c : Nat) : PageRd w M (Sp.leafPg l) (refsI A c) := ⟨h, Row.nil_, Row.nil_, Row.nil_, Frees.nil_, by simp [Sp.leafPg, Sp.mt0]⟩
theorem branchRd {w : World} {M : Nat → Prop} {K D : Option Addr} {ks : List Txt} {is : List Int} (h1 : Txts w M K ks) (h2 : Ints w M D is) (k d : Nat) : PageRd w M (Sp.branchPg ks is) (refsB K k D d) := ⟨Items.nil_, h1, h2, Row.nil_, Frees.nil_, by simp [Sp.branchPg, Sp.mt0]⟩
theorem leafV (l : List Sp.Item) (A : Option Addr) (c : Nat) : pageV (Sp.leafPg l) (refsI A c) = [.int .i64 1, .slice A l.length c, .slice none 0 0, .slice none 0 0, .string ⟨#[]⟩, .slice none 0 0, .slice none 0 0, .int .i64 0, .int .u64 0, .int .i64 0, .int .i64 0, .int .i64 0, .int .i64 0, .int .i64 0] := rfl
theorem branchV (ks : List Txt) (is : List Int) (K : Option Addr) (k : Nat) (D : Option Addr) (d : Nat) : pageV (Sp.branchPg ks is) (refsB K k D d) = [.int .i64 2, .slice none 0 0, .slice K ks.length k, .slice D is.length d, .string ⟨#[]⟩, .slice none 0 0, .slice none 0 0, .int .i64 0, .int .u64 0, .int .i64 0, .int .i64 0, .int .i64 0, .int .i64 0, .int .i64 0] := rfl
end Go.Proofs.YtlpmjeiogdlifaaGreat
