/- PageFrees: a page of free numbers has as many as may be: the walk. PageFrees: whatever the input: true; the input reads as it did. -/
import Derived.Test.YtienlhckcpfknaaQPFrees00
import Derived.SizedLaws
set_option linter.unusedSimpArgs false
set_option linter.unusedVariables false
namespace Go.Proofs.Ytienlhckcpfknaa
open Go.RowKit
attribute [local go_sem low] mk_extract
attribute [local go_sem] After.cell After.frozen mk_extract_end ByteArray.mk_append_mk
namespace Sp
def idsX (c : Int) (n : Nat) : List Int := (List.range n).map fun (j : Nat) => c + (j : Int)
theorem idsX_len (c : Int) (n : Nat) : (idsX c n).length = n := by simp [idsX]
theorem idsX_succ (c : Int) (n : Nat) : idsX c (n + 1) = idsX c n ++ [c + (n : Int)] := by
  unfold idsX
  rw [List.range_succ, List.map_append]
  rfl
def pgF (l : List Free) : Page := ⟨5, [], [], [], [], [], l, 0, mt0⟩
def frL (a b : Nat) (t : Bool) : List Free := (if 0 < a then [⟨5, idsX 2 a⟩] else []) ++ (if 0 < b then [⟨if t then 4 else 5, idsX 50 b⟩] else [])
def gdF (a b : Nat) (t : Bool) : Bool := decide (a + b ≤ 20) && (!t || decide (a = 0) || decide (b = 0))
theorem frL_is : ∀ a, a < 15 → ∀ b, b < 15 → ∀ t, isPage (pgF (frL a b t)) = gdF a b t := by decide +kernel
end Sp
def frC (v : Value) : Array Value := #[.int .i64 5, .slice none 0 0, .slice none 0 0, .slice none 0 0, .string ⟨#[]⟩, .slice none 0 0, v, .int .i64 0, .int .u64 0, .int .i64 0, .int .i64 0, .int .i64 0, .int .i64 0, .int .i64 0]
abbrev FreT : TypeId := 57
/-- What changes: block d, and whatever comes from B on. -/
def Up (d B : Nat) : Nat → Prop := fun k => k = d ∨ B ≤ k
/-- Numbers that are gathered in the struct at block d, its row from block B on, since world w0. -/
structure IdS (w0 : World) (d B : Nat) (t : Int) (l : List Int) (w : World) : Prop where
  hk : Chg (Up d B) w0 w
  sz : B ≤ w0.heap.size
  ex : ∃ v, Blk w d FreT #[.int .u64 t, v] ∧ w.ownsRow B IntT 1 v l.length (l.map iv)
theorem IdS.next {w0 w W2 w' : World} {d B : Nat} {t n : Int} {l : List Int} {v v' : Value} (h : IdS w0 d B t l w) (hdB : d < B) (hL : Blk w d FreT #[.int .u64 t, v]) (ho : w.ownsRow B IntT 1 v l.length (l.map iv))
    (hk : Below w.heap.size w W2) (hown : w'.ownsRow B IntT 1 v' (l.length + 1) (l.map iv ++ [iv n])) (hgr : W2.grownBy w' v.ownBlock) : IdS w0 d B t (l ++ [n]) (w'.setCell ⟨d, 1, none⟩ v') := by
  have hkm : Chg NoM w W2 := .of_below hk
  have ho2 := own_chg ho hkm (fun _ _ => id)
  have hL3 : Blk w' d FreT #[.int .u64 t, v] := (hL.chg hkm id).grown hgr (fun k hk => (ho2.lt k hk).1) hdB
  have h1 : Chg (Up d B) w W2 := hkm.mono (fun _ _ e => e.elim)
  have h2 : Chg (Up d B) w W2 → Chg (Up d B) w w' := fun h => h.grown hgr (fun k hk => .inl (.inr (ho2.lt k hk).1))
  have hs := Chg.set1 w' d 1 v'
  refine ⟨(h.hk.trans (h2 h1)).setCell (p := ⟨d, 1, none⟩) (.inl (.inl rfl)) v', h.sz, v', ?_, ?_⟩
  · simpa using hL3.set_ 1 v'
  · have := own_chg hown hs (fun k hk e => by unfold OneM at e; omega)
    simpa using this
/-- What may change while free numbers are listed: the page's and the two structs' blocks, and whatever comes from B on. -/
def Mb (g B : Nat) : Nat → Prop := fun k => k ≤ g + 2 ∨ B ≤ k
def FrX (w : World) (M : Nat → Prop) : List Sp.Free → List Value → Prop
  | [], xs => xs = []
  | x :: l, xs => ∃ V c ys, xs = frV x V c ++ ys ∧ Ints w M V x.ids ∧ (0 ≤ x.txn ∧ x.txn < 18446744073709551616) ∧ FrX w M l ys
theorem FrX.chg {M : Nat → Prop} {w w' : World} (hk : Chg M w w') : ∀ {l : List Sp.Free} {xs : List Value}, FrX w M l xs → FrX w' M l xs
  | [], _, h => h
  | _ :: _, _, ⟨V, c, ys, e, hi, hr, h⟩ => ⟨V, c, ys, e, hi.chg hk, hr, h.chg hk⟩
theorem FrX.snoc {M : Nat → Prop} {w : World} {x : Sp.Free} {V : Option Addr} {c : Nat} (hi : Ints w M V x.ids) (hr : 0 ≤ x.txn ∧ x.txn < 18446744073709551616) : ∀ {l : List Sp.Free} {xs : List Value}, FrX w M l xs → FrX w M (l ++ [x]) (xs ++ frV x V c)
  | [], xs, h => ⟨V, c, [], by rw [show xs = [] from h]; simp, hi, hr, rfl⟩
  | _ :: _, _, ⟨V', c', ys, e, hi', hr', h⟩ => ⟨V', c', ys ++ frV x V c, by rw [e]; simp, hi', hr', h.snoc hi hr⟩
theorem FrX.len {M : Nat → Prop} {w : World} : ∀ {l : List Sp.Free} {xs : List Value}, FrX w M l xs → xs.length = l.length * 2
  | [], _, h => by rw [show _ = [] from h]; rfl
  | _ :: l, _, ⟨V, c, ys, e, _, _, h⟩ => by
    rw [e, List.length_append, h.len]
    simp [frV]
    omega
theorem FrX.at_ {M : Nat → Prop} {w : World} : ∀ {l : List Sp.Free} {xs : List Value}, FrX w M l xs → ∀ k, k < l.length → ∃ V c, Ints w M V (l.getD k Sp.free0).ids ∧ (0 ≤ (l.getD k Sp.free0).txn ∧ (l.getD k Sp.free0).txn < 18446744073709551616) ∧ ∀ j u, (frV (l.getD k Sp.free0) V c)[j]? = some u → xs[k * 2 + j]? = some u
  | [], _, _, k, hk => absurd hk (by simp)
  | x :: l, _, ⟨V, c, ys, e, hi, hr, h⟩, 0, _ => ⟨V, c, hi, hr, fun j u hu => by
      rw [e, Nat.zero_mul, Nat.zero_add, List.getElem?_append_left]
      · exact hu
      · exact (List.getElem?_eq_some_iff.1 hu).1⟩
  | x :: l, _, ⟨V, c, ys, e, hi, hr, h⟩, k + 1, hk => by
    obtain ⟨V', c', hi', hr', hc⟩ := h.at_ k (by simpa using hk)
    refine ⟨V', c', by simpa using hi', by simpa using hr', fun j u hu => ?_⟩
    have := hc j u (by simpa using hu)
    rw [e, List.getElem?_append_right (by simp [frV]; omega)]
    have e2 : (k + 1) * 2 + j - (frV x V c).length = k * 2 + j := by simp [frV]; omega
    rw [e2]
    exact this
theorem frV_one (x : Sp.Free) (V : Option Addr) (c : Nat) : ∀ u ∈ frV x V c, u.oneCell' = true := fun u hu => by
  simp only [frV, List.mem_cons, List.not_mem_nil, or_false] at hu
  rcases hu with rfl | rfl <;> rfl
/-- The two structs and the list in the making. -/
structure FrQ (W0 : World) (g B : Nat) (x y : Sp.Free) (Ax Ay : Option Addr) (cx cy : Nat) (fl : List Sp.Free) (w : World) : Prop where
  hb : Below W0.heap.size W0 w
  hg : W0.heap.size ≤ g
  sz : B ≤ w.heap.size
  gB : g + 2 < B
  bx : Blk w (g + 1) FreT (frV x Ax cx).toArray
  by_ : Blk w (g + 2) FreT (frV y Ay cy).toArray
  ix : Ints w (Mb g B) Ax x.ids
  iy : Ints w (Mb g B) Ay y.ids
  ex : ∃ v xs, Blk w g PageT (frC v) ∧ w.ownsRow B FreT 2 v fl.length xs ∧ FrX w (Mb g B) fl xs
theorem FrQ.app {W0 w W2 w' : World} {g B : Nat} {x y z : Sp.Free} {Ax Ay Az : Option Addr} {cx cy cz : Nat} {fl : List Sp.Free} {v v' : Value} {xs : List Value} (h : FrQ W0 g B x y Ax Ay cx cy fl w)
    (hL : Blk w g PageT (frC v)) (ho : w.ownsRow B FreT 2 v fl.length xs) (hx : FrX w (Mb g B) fl xs) (hz : Ints w (Mb g B) Az z.ids) (hr : 0 ≤ z.txn ∧ z.txn < 18446744073709551616)
    (hk : Below w.heap.size w W2) (hown : w'.ownsRow B FreT 2 v' (fl.length + 1) (xs ++ frV z Az cz)) (hgr : W2.grownBy w' v.ownBlock) : FrQ W0 g B x y Ax Ay cx cy (fl ++ [z]) (w'.setCell ⟨g, 6, none⟩ v') := by
  have hkm : Chg NoM w W2 := .of_below hk
  have ho2 := own_chg ho hkm (fun _ _ => id)
  have hbk : ∀ k, v.ownBlock = some k → B ≤ k := fun k hk => (ho2.lt k hk).1
  have hc : Chg (fun k => v.ownBlock = some k) w w' := Chg.grown (hkm.mono (fun _ _ e => e.elim)) hgr (fun k hk => .inl hk)
  have hgB := h.gB
  have hL3 : Blk w' g PageT (frC v) := hL.chg hc (fun e => by have := hbk g e; omega)
  have hs := Chg.set1 w' g 6 v'
  have hcs : Chg (fun k => v.ownBlock = some k ∨ k = g) w (w'.setCell ⟨g, 6, none⟩ v') := (hc.mono (fun _ _ e => .inl e)).trans (hs.mono (fun _ _ e => .inr e))
  have hM : Chg (Mb g B) w (w'.setCell ⟨g, 6, none⟩ v') := hcs.mono (fun k _ e => by
    rcases e with e | e
    · exact .inr (hbk k e)
    · exact .inl (by omega))
  have hsize := hcs.size
  have n1 : ¬ (v.ownBlock = some (g + 1) ∨ g + 1 = g) := by
    rintro (e | e)
    · have := hbk _ e; omega
    · omega
  have n2 : ¬ (v.ownBlock = some (g + 2) ∨ g + 2 = g) := by
    rintro (e | e)
    · have := hbk _ e; omega
    · omega
  refine ⟨?_, h.hg, Nat.le_trans h.sz hsize, hgB, h.bx.chg hcs n1, h.by_.chg hcs n2, h.ix.chg hM, h.iy.chg hM, v', xs ++ frV z Az cz, ?_, ?_, ?_⟩
  · refine h.hb.trans (hcs.below h.hb.size (fun k hk e => ?_))
    have := h.hg
    rcases e with e | e
    · have := hbk k e; omega
    · omega
  · simpa [frC] using hL3.set_ 6 v'
  · have := own_chg hown hs (fun k hk e => by unfold OneM at e; omega)
    simpa using this
  · exact (hx.chg hM).snoc (hz.chg hM) hr
theorem FrQ.pg {W0 w : World} {g B : Nat} {x y : Sp.Free} {Ax Ay : Option Addr} {cx cy : Nat} {fl : List Sp.Free} (h : FrQ W0 g B x y Ax Ay cx cy fl w) (hl : fl.length ≤ 1000) : ∃ r, OneS W0 NoM (Sp.pgF fl) r g w := by
  obtain ⟨v, xs, hL, ho, hx⟩ := h.ex
  have hxl := hx.len
  obtain ⟨A, c, rfl⟩ := own_form ho
  have hT := TRow.of_own ho (by omega)
  refine ⟨⟨none, none, none, none, A, 0, 0, 0, 0, c⟩, h.hb, hL, ⟨Items.nil_, Row.nil_, Row.nil_, Row.nil_, ⟨by show fl.length ≤ _; omega, ?_⟩, by simp [Sp.pgF, Sp.mt0]⟩⟩
  rcases (hT.row (M := NoM) (fun _ _ => id)).2 with h0 | ⟨b, off, ha, hb, hm, hc⟩
  · left
    rw [h0] at hxl
    show fl = []
    exact List.eq_nil_of_length_eq_zero (by simp at hxl; omega)
  · refine .inr ⟨b, off, ha, hb, hm, fun k hk => ?_⟩
    obtain ⟨V, c2, hi, hr, hcc⟩ := hx.at_ k hk
    have hcell : ∀ j u, (frV (fl.getD k Sp.free0) V c2)[j]? = some u → w.cell? ⟨b, off + k * 2 + j, none⟩ = some u := fun j u hu => by
      rw [Nat.add_assoc]
      exact hc _ u (hcc j u hu)
    exact ⟨V, c2, ⟨hcell 0 _ rfl, hcell 1 _ rfl⟩, hi.anti (fun k e => e.elim), hr⟩
theorem own_ids {w : World} {B : Nat} {v : Value} {l : List Int} {T : Nat → Prop} (h : w.ownsRow B IntT 1 v l.length (l.map iv)) (hl : l.length ≤ 1000) (hT : ∀ k, B ≤ k → k < w.heap.size → ¬ T k) : ∃ A c, v = .slice A l.length c ∧ Ints w T A l := by
  obtain ⟨A, c, rfl⟩ := own_form h
  refine ⟨A, c, rfl, ?_⟩
  have h1 : Ints w (fun k => k < B) A l := (TRow.of_own h (by simp; omega)).row (fun k hk h => by omega)
  exact Row.to h1 (fun k hk ht => by
    rcases Nat.lt_or_ge k B with h2 | h2
    · exact h2
    · exact absurd ht (hT k h2 hk))
theorem FrQ.start {W0 w3 w4 w5 : World} {g : Nat} {x y : List Int} (hb : Below W0.heap.size W0 w3) (hg : W0.heap.size ≤ g) (hz : w3.heap.size = g + 3) (hG : Blk w3 g PageT (frC (.slice none 0 0))) (hx : IdS w3 (g + 1) (g + 3) 5 x w4) (hy : IdS w4 (g + 2) w4.heap.size 5 y w5)
    (hxl : x.length ≤ 1000) (hyl : y.length ≤ 1000) : ∃ Ax Ay cx cy, FrQ W0 g w5.heap.size ⟨5, x⟩ ⟨5, y⟩ Ax Ay cx cy [] w5 := by
  obtain ⟨vx, bx, ox⟩ := hx.ex
  obtain ⟨vy, by2, oy⟩ := hy.ex
  have s4 := hx.hk.size
  have s5 := hy.hk.size
  obtain ⟨Ax, cx, rfl, ix⟩ := own_ids (T := fun k => k ≤ g + 2 ∨ w4.heap.size ≤ k) ox hxl (fun k h1 h2 => by omega)
  obtain ⟨Ay, cy, rfl, iy⟩ := own_ids (T := Mb g w5.heap.size) oy hyl (fun k h1 h2 => by unfold Mb; omega)
  have ix5 : Ints w5 (fun k => k ≤ g + 2 ∨ w4.heap.size ≤ k) Ax x := ix.chg (hy.hk.mono (fun k _ e => by unfold Up at e; omega))
  refine ⟨Ax, Ay, cx, cy, ?_, hg, Nat.le_refl _, by omega, bx.chg hy.hk (by unfold Up; omega), by2, Row.to ix5 (fun k _ e => by unfold Mb at e; omega), iy, .slice none 0 0, [], (hG.chg hx.hk (by unfold Up; omega)).chg hy.hk (by unfold Up; omega), World.ownsRow_nil _ _ _ _, rfl⟩
  exact (hb.trans (hx.hk.below (B := W0.heap.size) (by omega) (fun k hk e => by unfold Up at e; omega))).trans (hy.hk.below (B := W0.heap.size) (by omega) (fun k hk e => by unfold Up at e; omega))
theorem FrQ.fall {W0 w : World} {g B : Nat} {x y : Sp.Free} {Ax Ay : Option Addr} {cx cy : Nat} (h : FrQ W0 g B x y Ax Ay cx cy [] w) (t : Int) : FrQ W0 g B x ⟨t, y.ids⟩ Ax Ay cx cy [] (w.setCell ⟨g + 2, 0, none⟩ (.int .u64 t)) := by
  have hs := Chg.set1 w (g + 2) 0 (.int .u64 t)
  have hM : Chg (Mb g B) w (w.setCell ⟨g + 2, 0, none⟩ (.int .u64 t)) := hs.mono (fun k _ e => by unfold OneM at e; unfold Mb; omega)
  obtain ⟨v, xs, hL, ho, hx⟩ := h.ex
  have hgB := h.gB
  refine ⟨h.hb.setCell (p := ⟨g + 2, 0, none⟩) (by have := h.hg; show _ ≤ g + 2; omega) _, h.hg, by simpa using h.sz, h.gB, h.bx.chg hs (by unfold OneM; omega), ?_, h.ix.chg hM, h.iy.chg hM, v, xs, hL.chg hs (by unfold OneM; omega), own_chg ho hs (fun k hk e => by unfold OneM at e; omega), hx.chg hM⟩
  simpa [frV] using h.by_.set_ 0 (.int .u64 t)
set_option maxRecDepth 100000 in
set_option maxHeartbeats 6400000 in
theorem frees_walk (a0 a1 : Int) (a2 : Bool) (h00 : 0 ≤ a0) (h01 : a0 ≤ 255) (h10 : 0 ≤ a1) (h11 : a1 ≤ 255) (w : World) :
    Calls Try.prog 8 #[.int .u8 a0, .int .u8 a1, .bool a2] w fun e w' => e = .returned (.bool true) ∧ Below w.heap.size w w' := by
  obtain ⟨i0, hi0, hz0, hz1, hz2⟩ := info_parts info_int
  obtain ⟨i2, hi2, hy0, hy1, hy2⟩ := info_parts info_free
  obtain ⟨A, hA⟩ : ∃ N : Nat, a0 % 15 = (N : Int) := ⟨(a0 % 15).toNat, by omega⟩
  obtain ⟨B, hB⟩ : ∃ N : Nat, a1 % 15 = (N : Int) := ⟨(a1 % 15).toNat, by omega⟩
  have hA15 : A < 15 := by omega
  have hB15 : B < 15 := by omega
  have HA := Lib.hid hA
  have HB := Lib.hid hB
  clear hA hB
  go_enter Try.func8, Try.ntmps8
  go_upto_region 3 with (go_at_call 13; refine (known_any _).mono ?_; rintro e w1 ⟨rfl, hb1⟩)
  have HB1 := Lib.hid hb1
  clear hb1
  go_cut [7] (fun s7 W => s7 = .pointer (some ⟨w1.heap.size, 0, none⟩) ∧ W.heap.size = w1.heap.size + 1 ∧ Below w.heap.size w W ∧ w.heap.size ≤ w1.heap.size ∧ Blk W w1.heap.size PageT (frC (.slice none 0 0)))
  case first =>
    go_wp2_with (refine wpList_new PageT _ _ rfl rfl rfl rfl rfl rfl _ rfl (of_decide_eq_true (by kernel_rfl)) (by kernel_rfl) (by kernel_rfl) (by kernel_rfl) ?_)
    go_meet
    case rel => exact ⟨rfl, by simp, HB1.out.alloc HB1.out.size _, HB1.out.size, Blk.new w1 _ _⟩
  case rest =>
    obtain ⟨rfl, hz, hb, hsz, hbl⟩ := hcut
    obtain ⟨w2, rfl⟩ : ∃ W, W = wc := ⟨_, rfl⟩
    generalize w1.heap.size = g at *
    have HBL := Lib.hid hbl
    have HBW := Lib.hid hb
    have HZ := Lib.hid hz
    clear hbl hb hz HB1
    go_upto_region 4 with fail
    go_cut [8, 9] (fun s8 s9 W => s8 = .int .i64 (A : Int) ∧ s9 = .int .i64 (B : Int) ∧ W = w2)
    case first =>
      go_wp2_with fail
      go_meet
      case rel => exact ⟨by rw [HA.out], by rw [HB.out], rfl⟩
    case rest =>
      obtain ⟨rfl, rfl, rfl⟩ := hcut
      clear HA HB
      go_upto_region 5 with fail
      go_cut [10, 11] (fun s10 s11 W => s10 = .pointer (some ⟨g + 1, 0, none⟩) ∧ s11 = .pointer (some ⟨g + 2, 0, none⟩) ∧ W.heap.size = g + 3 ∧ Below w.heap.size w W ∧ Blk W g PageT (frC (.slice none 0 0)) ∧ Blk W (g + 1) FreT #[.int .u64 5, .slice none 0 0] ∧ Blk W (g + 2) FreT #[.int .u64 5, .slice none 0 0])
      case first =>
        go_wp2_with fail
        go_meet
        case rel =>
          have hz2 := HZ.out
          have hal : Below wc.heap.size wc ((wc.alloc (.cells #[.int .u64 5, .slice none 0 0] FreT)).alloc (.cells #[.int .u64 5, .slice none 0 0] FreT)) := ((Below.refl _ _).alloc (Nat.le_refl _) _).alloc (by simp) _
          have b1 := (Blk.new wc FreT #[.int .u64 5, .slice none 0 0]).alloc (.cells #[.int .u64 5, .slice none 0 0] FreT)
          have b2 := blk_second wc (.cells #[.int .u64 5, .slice none 0 0] FreT) FreT #[.int .u64 5, .slice none 0 0]
          rw [hz2] at b1 b2
          exact ⟨by rw [hz2], by rw [hz2], by simp [hz2], HBW.out.trans (hal.mono HBW.out.size), HBL.out.below hal HBL.out.lt, b1, b2⟩
      case rest =>
        obtain ⟨rfl, rfl, hz, hb, hbg, hbx, hby⟩ := hcut
        obtain ⟨w3, rfl⟩ : ∃ W, W = wc := ⟨_, rfl⟩
        have HZ3 := Lib.hid hz
        have HB3 := Lib.hid hb
        have HG3 := Lib.hid hbg
        have HX3 := Lib.hid hbx
        have HY3 := Lib.hid hby
        clear hz hb hbg hbx hby HBL HBW HZ
        go_wp2_with fail
        go_loopw [12] (fun i wr => ∃ k : Nat, k ≤ A ∧ i = .int .i64 k ∧ IdS w3 (g + 1) (g + 3) 5 (Sp.idsX 2 k) wr) (fun i _ => A - (intOf i).toNat)
        case atStart => exact ⟨0, Nat.zero_le _, rfl, Chg.refl _ _, by rw [HZ3.out]; exact Nat.le_refl _, .slice none 0 0, HX3.out, World.ownsRow_nil _ _ _ _⟩
        case round =>
          obtain ⟨k, hk, rfl, hs⟩ := hrel
          have R := Lib.hid hs
          clear hs
          by_cases hkn : k < A
          · obtain ⟨v, hL, ho⟩ := R.out.ex
            have hv : wr.cell? ⟨g + 1, 1, none⟩ = some v := hL.cell 1
            have fv := hL.frozen 1
            have HL := Lib.hid hL
            have HO := Lib.hid ho
            have HLL := Lib.hid (Sp.idsX_len 2 k)
            have hgl := hL.lt
            have hgl2 := Nat.le_trans R.out.sz R.out.hk.size
            clear hL ho
            go_wp2_with (at_builtin; refine wpList_append_own _ rfl _ _ 24 rfl (g + 3) IntT i0 _ 1 8 Try.underlying24 hi0 hz0 hz1 hz2 rfl (by decide) v (Sp.idsX 2 k).length ((Sp.idsX 2 k).map iv) rfl ?c0 ⟨wr.heap.size, 0, none⟩ 1 1 [iv (2 + (k : Int))] rfl rfl ?c1 ?c2 ?c3 ?c4 ?c5 ?_)
            case c0 => exact HO.out.alloc _
            case c1 => exact cell_one_new _ _ _
            case c2 => exact fun u hu => by rw [List.mem_singleton.1 hu]; rfl
            case c3 => rw [HLL.out]; simp only [maxLen]; omega
            case c4 => rw [HLL.out]; omega
            case c5 => simp; omega
            intro v' w' hown' hgr' _
            obtain ⟨A', c', hv'⟩ := own_form hown'
            subst hv'
            have hk2 : Below wr.heap.size wr (wr.alloc (.cells #[iv (2 + (k : Int))] IntT)) := (Below.refl _ _).alloc (Nat.le_refl _) _
            have hnx := IdS.next (n := 2 + (k : Int)) R.out (by omega) HL.out HO.out hk2 hown' hgr'
            rw [← Sp.idsX_succ] at hnx
            have HNX := Lib.hid hnx
            have hL3 := (HL.out.chg (.of_below hk2 : Chg NoM _ _) id).grown hgr' (fun i hi => (HO.out.lt i hi).1) (by omega)
            have hv3 : w'.cell? ⟨g + 1, 1, none⟩ = some v := hL3.cell 1
            have fv3 := hL3.frozen 1
            clear hnx hL3 hown' hgr' hk2
            go_wp2_with fail
            go_roundw
            case rel => exact ⟨k + 1, by omega, by go_num, HNX.out⟩
            case measure => simp [intOf]; omega
          · have hkk : k = A := by omega
            subst hkk
            go_wp2_with fail
            obtain ⟨w4, rfl⟩ : ∃ W, W = wr := ⟨_, rfl⟩
            have hz4 : g + 3 ≤ w4.heap.size := by have := R.out.hk.size; have := HZ3.out; omega
            have hby4 : Blk w4 (g + 2) FreT #[.int .u64 5, .slice none 0 0] := HY3.out.chg R.out.hk (by unfold Up; omega)
            have HY4 := Lib.hid hby4
            clear hby4
            go_loopw [13] (fun i wr => ∃ k : Nat, k ≤ B ∧ i = .int .i64 k ∧ IdS w4 (g + 2) w4.heap.size 5 (Sp.idsX 50 k) wr) (fun i _ => B - (intOf i).toNat)
            case atStart => exact ⟨0, Nat.zero_le _, rfl, Chg.refl _ _, Nat.le_refl _, .slice none 0 0, HY4.out, World.ownsRow_nil _ _ _ _⟩
            case round =>
              have X := R
              clear R
              obtain ⟨m, hm, rfl, hs⟩ := hrel
              obtain ⟨k0, rfl⟩ : ∃ k0, k0 = k := ⟨_, rfl⟩
              obtain ⟨k, rfl⟩ : ∃ k, k = m := ⟨_, rfl⟩
              have R := Lib.hid hs
              clear hs
              by_cases hkn : k < B
              · obtain ⟨v, hL, ho⟩ := R.out.ex
                have hv : wr.cell? ⟨g + 2, 1, none⟩ = some v := hL.cell 1
                have fv := hL.frozen 1
                have HL := Lib.hid hL
                have HO := Lib.hid ho
                have HLL := Lib.hid (Sp.idsX_len 50 k)
                have hgl := hL.lt
                have hgl2 := Nat.le_trans R.out.sz R.out.hk.size
                clear hL ho
                go_wp2_with (at_builtin; refine wpList_append_own _ rfl _ _ 24 rfl w4.heap.size IntT i0 _ 1 8 Try.underlying24 hi0 hz0 hz1 hz2 rfl (by decide) v (Sp.idsX 50 k).length ((Sp.idsX 50 k).map iv) rfl ?c0 ⟨wr.heap.size, 0, none⟩ 1 1 [iv (50 + (k : Int))] rfl rfl ?c1 ?c2 ?c3 ?c4 ?c5 ?_)
                case c0 => exact HO.out.alloc _
                case c1 => exact cell_one_new _ _ _
                case c2 => exact fun u hu => by rw [List.mem_singleton.1 hu]; rfl
                case c3 => rw [HLL.out]; simp only [maxLen]; omega
                case c4 => rw [HLL.out]; omega
                case c5 => simp; omega
                intro v' w' hown' hgr' _
                obtain ⟨A', c', hv'⟩ := own_form hown'
                subst hv'
                have hk2 : Below wr.heap.size wr (wr.alloc (.cells #[iv (50 + (k : Int))] IntT)) := (Below.refl _ _).alloc (Nat.le_refl _) _
                have hnx := IdS.next (n := 50 + (k : Int)) R.out (by omega) HL.out HO.out hk2 hown' hgr'
                rw [← Sp.idsX_succ] at hnx
                have HNX := Lib.hid hnx
                have hL3 := (HL.out.chg (.of_below hk2 : Chg NoM _ _) id).grown hgr' (fun i hi => (HO.out.lt i hi).1) (by omega)
                have hv3 : w'.cell? ⟨g + 2, 1, none⟩ = some v := hL3.cell 1
                have fv3 := hL3.frozen 1
                clear hnx hL3 hown' hgr' hk2
                go_wp2_with fail
                go_roundw
                case rel => exact ⟨k + 1, by omega, by go_num, HNX.out⟩
                case measure => simp [intOf]; omega
              · have hkk : k = B := by omega
                subst hkk
                obtain ⟨Ax, Ay, cx, cy, hq⟩ := FrQ.start HB3.out hsz HZ3.out HG3.out X.out R.out (by rw [Sp.idsX_len]; omega) (by rw [Sp.idsX_len]; omega)
                have Q := Lib.hid hq
                clear hq R X HB3 HZ3 HG3 HX3 HY3 HY4 hz4
                obtain ⟨w5, rfl⟩ : ∃ W, W = wr := ⟨_, rfl⟩
                generalize w5.heap.size = b at *
                go_upto_if 52 with fail
                go_cut [7] (fun s7 W => s7 = .pointer (some ⟨g, 0, none⟩) ∧ FrQ w g b ⟨5, Sp.idsX 2 k0⟩ ⟨if a2 then 4 else 5, Sp.idsX 50 k⟩ Ax Ay cx cy [] W)
                case first =>
                  rcases a2 with _ | _
                  · go_wp2_with fail
                    go_meet
                    case rel => exact ⟨rfl, Q.out⟩
                  · have qy : w5.cell? ⟨g + 2, 0, none⟩ = some (.int .u64 5) := Q.out.by_.cell 0
                    have fy := Q.out.by_.frozen 0
                    go_wp2_with fail
                    go_meet
                    case rel => exact ⟨rfl, Q.out.fall 4⟩
                case rest =>
                  obtain ⟨rfl, hq⟩ := hcut
                  obtain ⟨w6, rfl⟩ : ∃ W, W = wc := ⟨_, rfl⟩
                  replace Q := Lib.hid hq
                  clear hq
                  go_upto_if 55 with fail
                  go_cut [7] (fun s7 W => s7 = .pointer (some ⟨g, 0, none⟩) ∧ FrQ w g b ⟨5, Sp.idsX 2 k0⟩ ⟨if a2 then 4 else 5, Sp.idsX 50 k⟩ Ax Ay cx cy (if 0 < k0 then [⟨5, Sp.idsX 2 k0⟩] else []) W)
                  case first =>
                    by_cases h0 : 0 < k0
                    · obtain ⟨v, xs, hL, ho, hx⟩ := Q.out.ex
                      have hv : w6.cell? ⟨g, 6, none⟩ = some v := hL.cell 6
                      have fv := hL.frozen 6
                      have HL := Lib.hid hL
                      have HO := Lib.hid ho
                      have HX := Lib.hid hx
                      have hgl := hL.lt
                      have hgl2 := Q.out.sz
                      have hgB := Q.out.gB
                      clear hL ho hx
                      have HN1 := Lib.hid (news_of w6 (frV ⟨5, Sp.idsX 2 k0⟩ Ax cx).toArray FreT)
                      have HN2 := Lib.hid (show ([] : List Sp.Free).length + 1 ≤ maxLen by simp [maxLen])
                      have HN3 := Lib.hid (show (([] : List Sp.Free).length + 1) * 32 ≤ 140737488355328 by simp)
                      have HN4 := Lib.hid (show b ≤ (w6.alloc (.cells (frV ⟨5, Sp.idsX 2 k0⟩ Ax cx).toArray FreT)).heap.size by simp; omega)
                      go_wp2_with (first
                        | (refine wpList_row FreT _ rfl (g + 1) rfl rfl FreT #[.int .u64 5, .slice Ax (Sp.idsX 2 k0).length cx] (0, 0) _ Q.out.bx Try.underlying57 rfl rfl ?_)
                        | (at_builtin; refine wpList_append_own _ rfl _ _ 25 rfl b FreT i2 _ 2 32 Try.underlying25 hi2 hy0 hy1 hy2 rfl (by decide) v ([] : List Sp.Free).length xs rfl (HO.out.alloc _) ⟨w6.heap.size, 0, none⟩ 1 1 (frV ⟨5, Sp.idsX 2 k0⟩ Ax cx) rfl rfl HN1.out (frV_one _ _ _) HN2.out HN3.out HN4.out ?_))
                      intro v' w' hown' hgr' hnil'
                      obtain ⟨A', c', hv'⟩ := own_form hown'
                      subst hv'
                      have hk2 : Below w6.heap.size w6 (w6.alloc (.cells (frV ⟨5, Sp.idsX 2 k0⟩ Ax cx).toArray FreT)) := (Below.refl _ _).alloc (Nat.le_refl _) _
                      have hnx := FrQ.app (z := ⟨5, Sp.idsX 2 k0⟩) Q.out HL.out HO.out HX.out Q.out.ix (by simp) hk2 hown' hgr'
                      have HNX := Lib.hid hnx
                      have hL3 := (HL.out.chg (.of_below hk2 : Chg NoM _ _) id).grown hgr' (fun i hi => (HO.out.lt i hi).1) (by omega)
                      have hv3 : w'.cell? ⟨g, 6, none⟩ = some v := hL3.cell 6
                      have fv3 := hL3.frozen 6
                      clear hnx hL3 hown' hgr' hk2
                      go_wp2_with fail
                      go_meet
                      case rel => exact ⟨rfl, by rw [if_pos h0]; exact HNX.out⟩
                    · go_wp2_with fail
                      go_meet
                      case rel => exact ⟨rfl, by rw [if_neg h0]; exact Q.out⟩
                  case rest =>
                    obtain ⟨rfl, hq⟩ := hcut
                    obtain ⟨w7, rfl⟩ : ∃ W, W = wc := ⟨_, rfl⟩
                    replace Q := Lib.hid hq
                    clear hq
                    go_upto_if 63 with fail
                    go_cut [7] (fun s7 W => s7 = .pointer (some ⟨g, 0, none⟩) ∧ FrQ w g b ⟨5, Sp.idsX 2 k0⟩ ⟨if a2 then 4 else 5, Sp.idsX 50 k⟩ Ax Ay cx cy (Sp.frL k0 k a2) W)
                    case first =>
                      by_cases hb0 : 0 < k
                      · rcases a2 with _ | _
                        · have hq := Q.out
                          rw [if_neg (by simp : ¬ (false = true))] at hq
                          by_cases h0 : 0 < k0
                          · rw [if_pos h0] at hq
                            replace Q := Lib.hid hq
                            clear hq
                            obtain ⟨v, xs, hL, ho, hx⟩ := Q.out.ex
                            have hv : w7.cell? ⟨g, 6, none⟩ = some v := hL.cell 6
                            have fv := hL.frozen 6
                            have HL := Lib.hid hL
                            have HO := Lib.hid ho
                            have HX := Lib.hid hx
                            have hgl := hL.lt
                            have hgl2 := Q.out.sz
                            have hgB := Q.out.gB
                            clear hL ho hx
                            have HN1 := Lib.hid (news_of w7 (frV ⟨5, Sp.idsX 50 k⟩ Ay cy).toArray FreT)
                            have HN2 := Lib.hid (show ([⟨5, Sp.idsX 2 k0⟩] : List Sp.Free).length + 1 ≤ maxLen by simp [maxLen])
                            have HN3 := Lib.hid (show (([⟨5, Sp.idsX 2 k0⟩] : List Sp.Free).length + 1) * 32 ≤ 140737488355328 by simp)
                            have HN4 := Lib.hid (show b ≤ (w7.alloc (.cells (frV ⟨5, Sp.idsX 50 k⟩ Ay cy).toArray FreT)).heap.size by simp; omega)
                            go_wp2_with (first
                              | (refine wpList_row FreT _ rfl (g + 2) rfl rfl FreT #[.int .u64 5, .slice Ay (Sp.idsX 50 k).length cy] (0, 0) _ Q.out.by_ Try.underlying57 rfl rfl ?_)
                              | (at_builtin; refine wpList_append_own _ rfl _ _ 25 rfl b FreT i2 _ 2 32 Try.underlying25 hi2 hy0 hy1 hy2 rfl (by decide) v ([⟨5, Sp.idsX 2 k0⟩] : List Sp.Free).length xs rfl (HO.out.alloc _) ⟨w7.heap.size, 0, none⟩ 1 1 (frV ⟨5, Sp.idsX 50 k⟩ Ay cy) rfl rfl HN1.out (frV_one _ _ _) HN2.out HN3.out HN4.out ?_))
                            intro v' w' hown' hgr' hnil'
                            obtain ⟨A', c', hv'⟩ := own_form hown'
                            subst hv'
                            have hk2 : Below w7.heap.size w7 (w7.alloc (.cells (frV ⟨5, Sp.idsX 50 k⟩ Ay cy).toArray FreT)) := (Below.refl _ _).alloc (Nat.le_refl _) _
                            have hnx := FrQ.app (z := ⟨5, Sp.idsX 50 k⟩) Q.out HL.out HO.out HX.out Q.out.iy (by simp) hk2 hown' hgr'
                            have HNX := Lib.hid hnx
                            have hL3 := (HL.out.chg (.of_below hk2 : Chg NoM _ _) id).grown hgr' (fun i hi => (HO.out.lt i hi).1) (by omega)
                            have hv3 : w'.cell? ⟨g, 6, none⟩ = some v := hL3.cell 6
                            have fv3 := hL3.frozen 6
                            clear hnx hL3 hown' hgr' hk2
                            go_wp2_with fail
                            go_meet
                            case rel => exact ⟨rfl, by show FrQ _ _ _ _ _ _ _ _ _ _ _; simp only [Sp.frL, hb0, h0, if_true, if_false, Bool.false_eq_true]; exact HNX.out⟩
                          · rw [if_neg h0] at hq
                            replace Q := Lib.hid hq
                            clear hq
                            obtain ⟨v, xs, hL, ho, hx⟩ := Q.out.ex
                            have hv : w7.cell? ⟨g, 6, none⟩ = some v := hL.cell 6
                            have fv := hL.frozen 6
                            have HL := Lib.hid hL
                            have HO := Lib.hid ho
                            have HX := Lib.hid hx
                            have hgl := hL.lt
                            have hgl2 := Q.out.sz
                            have hgB := Q.out.gB
                            clear hL ho hx
                            have HN1 := Lib.hid (news_of w7 (frV ⟨5, Sp.idsX 50 k⟩ Ay cy).toArray FreT)
                            have HN2 := Lib.hid (show ([] : List Sp.Free).length + 1 ≤ maxLen by simp [maxLen])
                            have HN3 := Lib.hid (show (([] : List Sp.Free).length + 1) * 32 ≤ 140737488355328 by simp)
                            have HN4 := Lib.hid (show b ≤ (w7.alloc (.cells (frV ⟨5, Sp.idsX 50 k⟩ Ay cy).toArray FreT)).heap.size by simp; omega)
                            go_wp2_with (first
                              | (refine wpList_row FreT _ rfl (g + 2) rfl rfl FreT #[.int .u64 5, .slice Ay (Sp.idsX 50 k).length cy] (0, 0) _ Q.out.by_ Try.underlying57 rfl rfl ?_)
                              | (at_builtin; refine wpList_append_own _ rfl _ _ 25 rfl b FreT i2 _ 2 32 Try.underlying25 hi2 hy0 hy1 hy2 rfl (by decide) v ([] : List Sp.Free).length xs rfl (HO.out.alloc _) ⟨w7.heap.size, 0, none⟩ 1 1 (frV ⟨5, Sp.idsX 50 k⟩ Ay cy) rfl rfl HN1.out (frV_one _ _ _) HN2.out HN3.out HN4.out ?_))
                            intro v' w' hown' hgr' hnil'
                            obtain ⟨A', c', hv'⟩ := own_form hown'
                            subst hv'
                            have hk2 : Below w7.heap.size w7 (w7.alloc (.cells (frV ⟨5, Sp.idsX 50 k⟩ Ay cy).toArray FreT)) := (Below.refl _ _).alloc (Nat.le_refl _) _
                            have hnx := FrQ.app (z := ⟨5, Sp.idsX 50 k⟩) Q.out HL.out HO.out HX.out Q.out.iy (by simp) hk2 hown' hgr'
                            have HNX := Lib.hid hnx
                            have hL3 := (HL.out.chg (.of_below hk2 : Chg NoM _ _) id).grown hgr' (fun i hi => (HO.out.lt i hi).1) (by omega)
                            have hv3 : w'.cell? ⟨g, 6, none⟩ = some v := hL3.cell 6
                            have fv3 := hL3.frozen 6
                            clear hnx hL3 hown' hgr' hk2
                            go_wp2_with fail
                            go_meet
                            case rel => exact ⟨rfl, by show FrQ _ _ _ _ _ _ _ _ _ _ _; simp only [Sp.frL, hb0, h0, if_true, if_false, Bool.false_eq_true]; exact HNX.out⟩
                        · have hq := Q.out
                          rw [if_pos rfl] at hq
                          by_cases h0 : 0 < k0
                          · rw [if_pos h0] at hq
                            replace Q := Lib.hid hq
                            clear hq
                            obtain ⟨v, xs, hL, ho, hx⟩ := Q.out.ex
                            have hv : w7.cell? ⟨g, 6, none⟩ = some v := hL.cell 6
                            have fv := hL.frozen 6
                            have HL := Lib.hid hL
                            have HO := Lib.hid ho
                            have HX := Lib.hid hx
                            have hgl := hL.lt
                            have hgl2 := Q.out.sz
                            have hgB := Q.out.gB
                            clear hL ho hx
                            have HN1 := Lib.hid (news_of w7 (frV ⟨4, Sp.idsX 50 k⟩ Ay cy).toArray FreT)
                            have HN2 := Lib.hid (show ([⟨5, Sp.idsX 2 k0⟩] : List Sp.Free).length + 1 ≤ maxLen by simp [maxLen])
                            have HN3 := Lib.hid (show (([⟨5, Sp.idsX 2 k0⟩] : List Sp.Free).length + 1) * 32 ≤ 140737488355328 by simp)
                            have HN4 := Lib.hid (show b ≤ (w7.alloc (.cells (frV ⟨4, Sp.idsX 50 k⟩ Ay cy).toArray FreT)).heap.size by simp; omega)
                            go_wp2_with (first
                              | (refine wpList_row FreT _ rfl (g + 2) rfl rfl FreT #[.int .u64 4, .slice Ay (Sp.idsX 50 k).length cy] (0, 0) _ Q.out.by_ Try.underlying57 rfl rfl ?_)
                              | (at_builtin; refine wpList_append_own _ rfl _ _ 25 rfl b FreT i2 _ 2 32 Try.underlying25 hi2 hy0 hy1 hy2 rfl (by decide) v ([⟨5, Sp.idsX 2 k0⟩] : List Sp.Free).length xs rfl (HO.out.alloc _) ⟨w7.heap.size, 0, none⟩ 1 1 (frV ⟨4, Sp.idsX 50 k⟩ Ay cy) rfl rfl HN1.out (frV_one _ _ _) HN2.out HN3.out HN4.out ?_))
                            intro v' w' hown' hgr' hnil'
                            obtain ⟨A', c', hv'⟩ := own_form hown'
                            subst hv'
                            have hk2 : Below w7.heap.size w7 (w7.alloc (.cells (frV ⟨4, Sp.idsX 50 k⟩ Ay cy).toArray FreT)) := (Below.refl _ _).alloc (Nat.le_refl _) _
                            have hnx := FrQ.app (z := ⟨4, Sp.idsX 50 k⟩) Q.out HL.out HO.out HX.out Q.out.iy (by simp) hk2 hown' hgr'
                            have HNX := Lib.hid hnx
                            have hL3 := (HL.out.chg (.of_below hk2 : Chg NoM _ _) id).grown hgr' (fun i hi => (HO.out.lt i hi).1) (by omega)
                            have hv3 : w'.cell? ⟨g, 6, none⟩ = some v := hL3.cell 6
                            have fv3 := hL3.frozen 6
                            clear hnx hL3 hown' hgr' hk2
                            go_wp2_with fail
                            go_meet
                            case rel => exact ⟨rfl, by show FrQ _ _ _ _ _ _ _ _ _ _ _; simp only [Sp.frL, hb0, h0, if_true, if_false, Bool.false_eq_true]; exact HNX.out⟩
                          · rw [if_neg h0] at hq
                            replace Q := Lib.hid hq
                            clear hq
                            obtain ⟨v, xs, hL, ho, hx⟩ := Q.out.ex
                            have hv : w7.cell? ⟨g, 6, none⟩ = some v := hL.cell 6
                            have fv := hL.frozen 6
                            have HL := Lib.hid hL
                            have HO := Lib.hid ho
                            have HX := Lib.hid hx
                            have hgl := hL.lt
                            have hgl2 := Q.out.sz
                            have hgB := Q.out.gB
                            clear hL ho hx
                            have HN1 := Lib.hid (news_of w7 (frV ⟨4, Sp.idsX 50 k⟩ Ay cy).toArray FreT)
                            have HN2 := Lib.hid (show ([] : List Sp.Free).length + 1 ≤ maxLen by simp [maxLen])
                            have HN3 := Lib.hid (show (([] : List Sp.Free).length + 1) * 32 ≤ 140737488355328 by simp)
                            have HN4 := Lib.hid (show b ≤ (w7.alloc (.cells (frV ⟨4, Sp.idsX 50 k⟩ Ay cy).toArray FreT)).heap.size by simp; omega)
                            go_wp2_with (first
                              | (refine wpList_row FreT _ rfl (g + 2) rfl rfl FreT #[.int .u64 4, .slice Ay (Sp.idsX 50 k).length cy] (0, 0) _ Q.out.by_ Try.underlying57 rfl rfl ?_)
                              | (at_builtin; refine wpList_append_own _ rfl _ _ 25 rfl b FreT i2 _ 2 32 Try.underlying25 hi2 hy0 hy1 hy2 rfl (by decide) v ([] : List Sp.Free).length xs rfl (HO.out.alloc _) ⟨w7.heap.size, 0, none⟩ 1 1 (frV ⟨4, Sp.idsX 50 k⟩ Ay cy) rfl rfl HN1.out (frV_one _ _ _) HN2.out HN3.out HN4.out ?_))
                            intro v' w' hown' hgr' hnil'
                            obtain ⟨A', c', hv'⟩ := own_form hown'
                            subst hv'
                            have hk2 : Below w7.heap.size w7 (w7.alloc (.cells (frV ⟨4, Sp.idsX 50 k⟩ Ay cy).toArray FreT)) := (Below.refl _ _).alloc (Nat.le_refl _) _
                            have hnx := FrQ.app (z := ⟨4, Sp.idsX 50 k⟩) Q.out HL.out HO.out HX.out Q.out.iy (by simp) hk2 hown' hgr'
                            have HNX := Lib.hid hnx
                            have hL3 := (HL.out.chg (.of_below hk2 : Chg NoM _ _) id).grown hgr' (fun i hi => (HO.out.lt i hi).1) (by omega)
                            have hv3 : w'.cell? ⟨g, 6, none⟩ = some v := hL3.cell 6
                            have fv3 := hL3.frozen 6
                            clear hnx hL3 hown' hgr' hk2
                            go_wp2_with fail
                            go_meet
                            case rel => exact ⟨rfl, by show FrQ _ _ _ _ _ _ _ _ _ _ _; simp only [Sp.frL, hb0, h0, if_true, if_false, Bool.false_eq_true]; exact HNX.out⟩
                      · go_wp2_with fail
                        go_meet
                        case rel =>
                          have hq := Q.out
                          have e : Sp.frL k0 k a2 = (if 0 < k0 then [⟨5, Sp.idsX 2 k0⟩] else []) := by unfold Sp.frL; rw [if_neg hb0, List.append_nil]
                          rw [← e] at hq
                          exact ⟨rfl, hq⟩
                    case rest =>
                      obtain ⟨rfl, hq⟩ := hcut
                      obtain ⟨w10, rfl⟩ : ∃ W, W = wc := ⟨_, rfl⟩
                      obtain ⟨r, ho⟩ := hq.pg (by unfold Sp.frL; by_cases h1 : 0 < k0 <;> by_cases h2 : 0 < k <;> simp [h1, h2])
                      have S := Lib.hid ho
                      clear ho hq Q
                      have hrng := S.out.rp.rng
                      have hgd := Sp.frL_is k0 hA15 k hB15 a2
                      have HGD := Lib.hid hgd
                      clear hgd
                      go_upto_region 20 with fail
                      go_cut [14] (fun s14 W => s14 = .bool (Sp.isPage (Sp.pgF (Sp.frL k0 k a2))) ∧ W = w10)
                      case first =>
                        have hgdd : Sp.gdF k0 k a2 = (decide (k0 + k ≤ 20) && (!a2 || decide (k0 = 0) || decide (k = 0))) := rfl
                        have HGG := Lib.hid hgdd
                        clear hgdd
                        by_cases hs : k0 + k ≤ 20
                        · have hsd : decide ((k0 : Int) + (k : Int) ≤ 20) = true := by rw [decide_eq_true_eq]; omega
                          rcases a2 with _ | _
                          · go_wp2_with fail
                            go_meet
                            case rel => exact ⟨congrArg Value.bool (by rw [HGD.out, HGG.out, decide_eq_true hs]; rfl), rfl⟩
                          · by_cases h1 : k0 = 0
                            · have b1 : ((k0 : Int) == 0) = true := by rw [beq_iff_eq]; omega
                              have H1 := Lib.hid h1
                              clear h1
                              go_wp2_with fail
                              go_meet
                              case rel => exact ⟨congrArg Value.bool (by rw [HGD.out, HGG.out, decide_eq_true hs, decide_eq_true H1.out]; rfl), rfl⟩
                            · have b1 : ((k0 : Int) == 0) = false := by rw [beq_eq_false_iff_ne]; omega
                              by_cases h2 : k = 0
                              · have b2 : ((k : Int) == 0) = true := by rw [beq_iff_eq]; omega
                                have H2 := Lib.hid h2
                                clear h2
                                go_wp2_with fail
                                go_meet
                                case rel => exact ⟨congrArg Value.bool (by rw [HGD.out, HGG.out, decide_eq_true hs, decide_eq_false h1, decide_eq_true H2.out]; rfl), rfl⟩
                              · have b2 : ((k : Int) == 0) = false := by rw [beq_eq_false_iff_ne]; omega
                                go_wp2_with fail
                                go_meet
                                case rel => exact ⟨congrArg Value.bool (by rw [HGD.out, HGG.out, decide_eq_true hs, decide_eq_false h1, decide_eq_false h2]; rfl), rfl⟩
                        · have hsd : decide ((k0 : Int) + (k : Int) ≤ 20) = false := by rw [decide_eq_false_iff_not]; omega
                          go_wp2_with fail
                          go_meet
                          case rel => exact ⟨congrArg Value.bool (by rw [HGD.out, HGG.out, decide_eq_false hs]; rfl), rfl⟩
                      case rest =>
                        obtain ⟨rfl, rfl⟩ := hcut
                        clear HGD
                        generalize Sp.frL k0 k a2 = fl at *
                        go_upto_region 21 with fail
                        rcases hgb : Sp.isPage (Sp.pgF fl) with _ | _
                        · have HP := Lib.hid hgb
                          clear hgb
                          go_cut [15, 16] (fun s15 s16 W => s16 = .iface 44 (.int .i64 12) ∧ OneS w NoM (Sp.pgF fl) r g W)
                          case first =>
                            go_wp2_with (first
                              | (refine wpList_row PageT _ rfl g rfl rfl PageT _ (0, 0) _ S.out.bp Try.underlying32 rfl rfl ?_)
                              | (go_at_call 20; refine (bytes_any (M := NoM) (Sp.pgF fl) r _ S.out.rp).mono ?_; rintro e w7 ⟨rfl, hb2⟩; rw [Sp.bytes_no HP.out]; replace S := Lib.hid (S.out.go hb2); clear hb2)
                              | (go_at_call 14; refine (read_any [] _ (by simp)).mono ?_; rintro e w8 ⟨x, rfl, hx, hb2⟩; rw [kn_readV0]; replace S := Lib.hid (S.out.go hb2); clear hb2 hx)
                              | (refine wpList_new PageT _ _ rfl rfl rfl rfl rfl rfl _ rfl (of_decide_eq_true (by kernel_rfl)) (by kernel_rfl) (by kernel_rfl) (by kernel_rfl) ?_))
                            go_meet
                            case rel => exact ⟨rfl, S.out.go ((Below.refl _ _).alloc (Nat.le_refl _) _)⟩
                          case rest =>
                            obtain ⟨rfl, hs⟩ := hcut
                            obtain ⟨w9, rfl⟩ : ∃ W, W = wc := ⟨_, rfl⟩
                            replace S := Lib.hid hs
                            clear hs
                            go_wp2_with (first
                              | (refine wpList_row PageT _ rfl g rfl rfl PageT _ (0, 0) _ S.out.bp Try.underlying32 rfl rfl ?_)
                              | (go_at_call 16; refine (isPage_any (M := NoM) (Sp.pgF fl) r _ S.out.rp).mono ?_; rintro e w7 ⟨rfl, hb2⟩; rw [HP.out]; replace S := Lib.hid (S.out.go hb2); clear hb2)
                              | (go_at_call 22; refine (errIs_same 12 _).mono ?_; rintro e w7 ⟨rfl, rfl⟩))
                            go_ret
                            exact ⟨rfl, S.out.hb⟩
                        · have HP := Lib.hid hgb
                          have HOK := Lib.hid (Sp.readOk_bytes hgb hrng)
                          have HPB := Lib.hid (Sp.parse_bytes hgb hrng)
                          have hbl := Sp.bytes_le hgb
                          clear hgb
                          go_cut [15, 16] (fun s15 s16 W => ∃ k x, s15 = .pointer (some ⟨k, 0, none⟩) ∧ s16 = .nilIface ∧ TwoS w NoM (Sp.pgF fl) (Sp.pgF fl) r x g k W)
                          case first =>
                            go_wp2_with (first
                              | (refine wpList_row PageT _ rfl g rfl rfl PageT _ (0, 0) _ S.out.bp Try.underlying32 rfl rfl ?_)
                              | (go_at_call 20; refine (bytes_any (M := NoM) (Sp.pgF fl) r _ S.out.rp).mono ?_; rintro e w7 ⟨rfl, hb2⟩; replace S := Lib.hid (S.out.go hb2); clear hb2)
                              | (go_at_call 14; refine (read_any (Sp.bytes (Sp.pgF fl)) _ (by omega)).mono ?_; rintro e w8 ⟨x, rfl, hx, hb2⟩; rw [readV_yes HOK.out, HPB.out]; replace S := Lib.hid (S.out.go hb2); have X := Lib.hid (hx NoM (fun _ _ h => h)); clear hb2 hx)
                              | (refine wpList_new PageT _ _ rfl rfl rfl rfl rfl rfl _ rfl (of_decide_eq_true (by kernel_rfl)) (by kernel_rfl) (by kernel_rfl) (by kernel_rfl) ?_))
                            go_meet
                            case rel =>
                              have hx := X.out
                              rw [readPg_yes HOK.out, HPB.out] at hx
                              exact ⟨_, x, rfl, rfl, TwoS.read S.out hx⟩
                          case rest =>
                            obtain ⟨k', x, rfl, rfl, ht⟩ := hcut
                            obtain ⟨w9, rfl⟩ : ∃ W, W = wc := ⟨_, rfl⟩
                            have T := Lib.hid ht
                            clear ht S
                            go_wp2_with (first
                              | (refine wpList_row PageT _ rfl g rfl rfl PageT _ (0, 0) _ T.out.s.bp Try.underlying32 rfl rfl ?_)
                              | (refine wpList_row PageT (.tmp 15) rfl k' rfl ?_ PageT (pageV (Sp.pgF fl) x).toArray (0, 0) _ T.out.bx Try.underlying32 rfl (by kernel_rfl) ?_)
                              | (go_at_call 16; refine (isPage_any (M := NoM) (Sp.pgF fl) r _ T.out.s.rp).mono ?_; rintro e w7 ⟨rfl, hb2⟩; rw [HP.out]; replace T := Lib.hid (T.out.go hb2); clear hb2)
                              | (go_at_call 18; refine (samePage_any (M := NoM) (N := NoM) (Sp.pgF fl) (Sp.pgF fl) r x _ T.out.s.rp T.out.rx).mono ?_; rintro e w7 ⟨rfl, hb2⟩; rw [show Sp.samePage (Sp.pgF fl) (Sp.pgF fl) = true from decide_eq_true rfl]; replace T := Lib.hid (T.out.go hb2); clear hb2))
                            go_ret
                            exact ⟨rfl, T.out.s.hb⟩
end Go.Proofs.Ytienlhckcpfknaa
namespace Go.Proofs.Ytienlhckcpfknaa.pageFrees
open Go.ChangeShapes Go.WideShapes Go.ChangeAt Go.RowKit
set_option maxRecDepth 100000 in
theorem lifted (os : Os) (started : os.Started) (H : Type) (enc : TypeId × Value → H) :
    ReturnsInHanded {} Try.checked os 8 .any (Rows.pageFreesSpec.pre6 enc Try.prog Try.f8 Rows.pageFreesRow.domain false) (Rows.pageFreesSpec.post enc Try.prog Try.f8 false true false false) := by
  refine returnsInHanded_of_change (C := Try.checked) ownKn started (by kernel_rfl) Try.func8
    (ChangeSpec.witness6 (enc := enc) (C := Try.checked) false ⟨#[], #[.int .u8 0, .int .u8 0, .bool false], []⟩ 8 (by kernel_rfl) (by kernel_rfl) (by kernel_rfl) (by kernel_rfl)) ?_
  intro W base args ds gs before hval0 hW hcnd _
  have hval : ∀ (j : Nat) t v, Try.f8.params[j]? = some t → args[j]? = some v → Value.okWide Try.prog W .any base t v := hval0
  have hW' := hW
  obtain ⟨p, q, hA0, hV, rfl, hfz, hnd⟩ := hW
  have hA : DataW.TrodAll enc Try.prog W 0 (fun _ => true) true Try.f8.params.toList args.toList ds p := hA0
  rw [Try.params8] at hA hval
  obtain ⟨v0, vs0, d0, ds0, p0, q0, hargs, rfl, rfl, h0, rr0⟩ := trodAll_cons hA
  obtain ⟨v1, vs1, d1, ds1, p1, q1, rfl, rfl, rfl, h1, rr1⟩ := trodAll_cons rr0
  obtain ⟨v2, vs2, d2, ds2, p2, q2, rfl, rfl, rfl, h2, rr2⟩ := trodAll_cons rr1
  obtain ⟨rfl, rfl, rfl⟩ := trodAll_nil rr2
  obtain rfl : args = #[v0, v1, v2] := by cases args; simp_all
  obtain ⟨rfl, rfl⟩ := trodVars_none hV
  obtain ⟨a0, rfl, rfl, rfl, w0⟩ := open_int Try.underlying5 (hval 0 5 v0 rfl rfl) h0
  obtain ⟨a1, rfl, rfl, rfl, w1⟩ := open_int Try.underlying5 (hval 1 5 v1 rfl rfl) h1
  obtain ⟨a2, rfl, rfl, rfl⟩ := open_bool Try.underlying4 (hval 2 4 v2 rfl rfl) h2
  clear hA0 hval0
  simp only [List.append_nil] at hW'
  refine (frees_walk a0 a1 a2 (bounds_u8 w0).1 (bounds_u8 w0).2 (bounds_u8 w1).1 (bounds_u8 w1).2 W).mono fun e W' ⟨he, hg⟩ => ?_
  subst he
  exact ⟨_, rfl, post_of_below (pa := []) (pv := []) hW' (fun _ _ _ => (trodAll_cons_mk (shut_bool Try.underlying4 _) trodAll_mk0)) (fun sp hsp => (trodAll_cons_mk (shut_int Try.underlying5 w0) (trodAll_cons_mk (shut_int Try.underlying5 w1) (trodAll_cons_mk (shut_bool Try.underlying4 a2) trodAll_mk0)))) (fun _ _ => rfl) (by simp)
    hg (ok_one (by kernel_rfl) rfl (okWide_bool_mk Try.underlying4 _))⟩
theorem over : Rows.pageFreesRow.holds Try.pinned (OpenSpec.ofChange Rows.pageFreesSpec) :=
  OpenClaim.holds_of_wide 8 Try.f8 rfl rfl rfl rfl rfl rfl rfl ⟨rfl, rfl, rfl, rfl, rfl⟩ rfl rfl rfl rfl rfl (by kernel_rfl) Try.func8 (by kernel_rfl)
    (of_decide_eq_true (by kernel_rfl)) (by unfold Func.isWrapper; first | (rw [if_pos (by decide +kernel)]; kernel_rfl) | (rw [if_neg (by decide +kernel)]; exact ⟨rfl, rfl⟩))
    (fun os started H enc _ => lifted os started H enc)
theorem proved : Rows.PageFreesSaid :=
  over
#print axioms proved
end Go.Proofs.Ytienlhckcpfknaa.pageFrees
