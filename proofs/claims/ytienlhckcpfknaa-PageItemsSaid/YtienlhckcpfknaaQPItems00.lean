/- PageItems: each kind of item as it may be, and as it may not: the walk. PageItems: whatever the input: true; the input reads as it did. -/
import Derived.Test.YtienlhckcpfknaaQB08
set_option linter.unusedSimpArgs false
set_option linter.unusedVariables false
namespace Go.Proofs.Ytienlhckcpfknaa
open Go.RowKit
attribute [local go_sem low] mk_extract
attribute [local go_sem] After.cell After.frozen mk_extract_end ByteArray.mk_append_mk
namespace Sp
def itG : Nat → Item
  | 0 => ⟨[107], 1, [], 0, 0, [], 0, ⟨0, 0, 0⟩⟩
  | 1 => ⟨[107], 1, [49, 50, 51, 52, 53, 54, 55, 56, 57, 48, 49, 50], 0, 0, [], 0, ⟨0, 0, 0⟩⟩
  | 2 => ⟨[107], 2, [], 2, 13, [], 0, ⟨0, 0, 0⟩⟩
  | 3 => ⟨[107], 3, [], 0, 0, [[97], [98], [99]], 0, ⟨0, 0, 0⟩⟩
  | 4 => ⟨[107], 3, [], 0, 0, [], 9, ⟨0, 0, 0⟩⟩
  | _ => ⟨[107], 4, [], 0, 0, [], 0, ⟨5, 3, 1⟩⟩
def itB : Nat → Item
  | 0 => ⟨[107], 0, [], 0, 0, [], 0, ⟨0, 0, 0⟩⟩
  | 1 => ⟨[107], 1, [49, 50, 51, 52, 53, 54, 55, 56, 57, 48, 49, 50, 51], 0, 0, [], 0, ⟨0, 0, 0⟩⟩
  | 2 => ⟨[107], 2, [], 1, 13, [], 0, ⟨0, 0, 0⟩⟩
  | 3 => ⟨[107], 2, [], 2, 12, [], 0, ⟨0, 0, 0⟩⟩
  | 4 => ⟨[107], 2, [], 2, 1001, [], 0, ⟨0, 0, 0⟩⟩
  | 5 => ⟨[107], 3, [], 0, 0, [], 0, ⟨0, 0, 0⟩⟩
  | 6 => ⟨[107], 3, [], 0, 0, [[98], [97]], 0, ⟨0, 0, 0⟩⟩
  | 7 => ⟨[107], 3, [], 0, 0, [[97]], 4, ⟨0, 0, 0⟩⟩
  | 8 => ⟨[107], 4, [], 0, 0, [], 0, ⟨0, 0, 2⟩⟩
  | _ => ⟨[107], 1, [], 0, 0, [], 0, ⟨0, 1, 0⟩⟩
def pgI (x : Item) : Page := ⟨1, [x], [], [], [], [], [], 0, mt0⟩
theorem itG_is : ∀ i, i < 6 → isPage (pgI (itG i)) = true := by decide +kernel
theorem itB_is : ∀ i, i < 10 → isPage (pgI (itB i)) = false := by decide +kernel
end Sp
def gA (h : Nat) : Nat → Option Addr
  | 3 => some ⟨h, 0, none⟩
  | _ => none
def bA (h : Nat) : Nat → Option Addr
  | 6 => some ⟨h, 0, none⟩
  | 7 => some ⟨h + 1, 0, none⟩
  | _ => none
def goC (h : Nat) : Array Value := #[.string ⟨#[107]⟩, .int .i64 1, .string ⟨#[]⟩, .int .i64 0, .int .i64 0, .slice none 0 0, .int .i64 0, .int .i64 0, .int .i64 0, .int .i64 0, .string ⟨#[107]⟩, .int .i64 1, .string ⟨#[49, 50, 51, 52, 53, 54, 55, 56, 57, 48, 49, 50]⟩, .int .i64 0, .int .i64 0, .slice none 0 0, .int .i64 0, .int .i64 0, .int .i64 0, .int .i64 0, .string ⟨#[107]⟩, .int .i64 2, .string ⟨#[]⟩, .int .i64 2, .int .i64 13, .slice none 0 0, .int .i64 0, .int .i64 0, .int .i64 0, .int .i64 0, .string ⟨#[107]⟩, .int .i64 3, .string ⟨#[]⟩, .int .i64 0, .int .i64 0, .slice (some ⟨h, 0, none⟩) 3 3, .int .i64 0, .int .i64 0, .int .i64 0, .int .i64 0, .string ⟨#[107]⟩, .int .i64 3, .string ⟨#[]⟩, .int .i64 0, .int .i64 0, .slice none 0 0, .int .i64 9, .int .i64 0, .int .i64 0, .int .i64 0, .string ⟨#[107]⟩, .int .i64 4, .string ⟨#[]⟩, .int .i64 0, .int .i64 0, .slice none 0 0, .int .i64 0, .int .i64 5, .int .i64 3, .int .i64 1]
theorem go_cells (h i : Nat) (hi : i < 6) : ∀ j v, (itemV (Sp.itG i) (gA h i) (Sp.itG i).vals.length)[j]? = some v → (goC h)[i * 10 + j]? = some v := by
  rcases (by omega : i = 0 ∨ i = 1 ∨ i = 2 ∨ i = 3 ∨ i = 4 ∨ i = 5) with rfl | rfl | rfl | rfl | rfl | rfl
  all_goals
    intro j v hv
    match j, hv with
    | 0, hv => exact hv
    | 1, hv => exact hv
    | 2, hv => exact hv
    | 3, hv => exact hv
    | 4, hv => exact hv
    | 5, hv => exact hv
    | 6, hv => exact hv
    | 7, hv => exact hv
    | 8, hv => exact hv
    | 9, hv => exact hv
    | j + 10, hv => exact absurd hv (by simp [itemV])
def baC (h : Nat) : Array Value := #[.string ⟨#[107]⟩, .int .i64 0, .string ⟨#[]⟩, .int .i64 0, .int .i64 0, .slice none 0 0, .int .i64 0, .int .i64 0, .int .i64 0, .int .i64 0, .string ⟨#[107]⟩, .int .i64 1, .string ⟨#[49, 50, 51, 52, 53, 54, 55, 56, 57, 48, 49, 50, 51]⟩, .int .i64 0, .int .i64 0, .slice none 0 0, .int .i64 0, .int .i64 0, .int .i64 0, .int .i64 0, .string ⟨#[107]⟩, .int .i64 2, .string ⟨#[]⟩, .int .i64 1, .int .i64 13, .slice none 0 0, .int .i64 0, .int .i64 0, .int .i64 0, .int .i64 0, .string ⟨#[107]⟩, .int .i64 2, .string ⟨#[]⟩, .int .i64 2, .int .i64 12, .slice none 0 0, .int .i64 0, .int .i64 0, .int .i64 0, .int .i64 0, .string ⟨#[107]⟩, .int .i64 2, .string ⟨#[]⟩, .int .i64 2, .int .i64 1001, .slice none 0 0, .int .i64 0, .int .i64 0, .int .i64 0, .int .i64 0, .string ⟨#[107]⟩, .int .i64 3, .string ⟨#[]⟩, .int .i64 0, .int .i64 0, .slice none 0 0, .int .i64 0, .int .i64 0, .int .i64 0, .int .i64 0, .string ⟨#[107]⟩, .int .i64 3, .string ⟨#[]⟩, .int .i64 0, .int .i64 0, .slice (some ⟨h, 0, none⟩) 2 2, .int .i64 0, .int .i64 0, .int .i64 0, .int .i64 0, .string ⟨#[107]⟩, .int .i64 3, .string ⟨#[]⟩, .int .i64 0, .int .i64 0, .slice (some ⟨h + 1, 0, none⟩) 1 1, .int .i64 4, .int .i64 0, .int .i64 0, .int .i64 0, .string ⟨#[107]⟩, .int .i64 4, .string ⟨#[]⟩, .int .i64 0, .int .i64 0, .slice none 0 0, .int .i64 0, .int .i64 0, .int .i64 0, .int .i64 2, .string ⟨#[107]⟩, .int .i64 1, .string ⟨#[]⟩, .int .i64 0, .int .i64 0, .slice none 0 0, .int .i64 0, .int .i64 0, .int .i64 1, .int .i64 0]
theorem ba_cells (h i : Nat) (hi : i < 10) : ∀ j v, (itemV (Sp.itB i) (bA h i) (Sp.itB i).vals.length)[j]? = some v → (baC h)[i * 10 + j]? = some v := by
  rcases (by omega : i = 0 ∨ i = 1 ∨ i = 2 ∨ i = 3 ∨ i = 4 ∨ i = 5 ∨ i = 6 ∨ i = 7 ∨ i = 8 ∨ i = 9) with rfl | rfl | rfl | rfl | rfl | rfl | rfl | rfl | rfl | rfl
  all_goals
    intro j v hv
    match j, hv with
    | 0, hv => exact hv
    | 1, hv => exact hv
    | 2, hv => exact hv
    | 3, hv => exact hv
    | 4, hv => exact hv
    | 5, hv => exact hv
    | 6, hv => exact hv
    | 7, hv => exact hv
    | 8, hv => exact hv
    | 9, hv => exact hv
    | j + 10, hv => exact absurd hv (by simp [itemV])
/-- What lies where, behind both rows of items. -/
structure ItS (W0 : World) (h : Nat) (w : World) : Prop where
  hb : Below W0.heap.size W0 w
  hh : W0.heap.size ≤ h
  b0 : Blk w h StrT #[.string ⟨#[97]⟩, .string ⟨#[98]⟩, .string ⟨#[99]⟩]
  b1 : Blk w (h + 1) 53 (goC h)
structure ItT (W0 : World) (h : Nat) (w : World) : Prop where
  s : ItS W0 h w
  b2 : Blk w (h + 2) StrT #[.string ⟨#[98]⟩, .string ⟨#[97]⟩]
  b3 : Blk w (h + 3) StrT #[.string ⟨#[97]⟩]
  b4 : Blk w (h + 4) 54 (baC (h + 2))
theorem ItS.below {W0 : World} {h : Nat} {w w' : World} (k : ItS W0 h w) (hb : Below w.heap.size w w') : ItS W0 h w' :=
  ⟨k.hb.trans (hb.mono k.hb.size), k.hh, k.b0.below hb k.b0.lt, k.b1.below hb k.b1.lt⟩
theorem ItT.below {W0 : World} {h : Nat} {w w' : World} (k : ItT W0 h w) (hb : Below w.heap.size w w') : ItT W0 h w' :=
  ⟨k.s.below hb, k.b2.below hb k.b2.lt, k.b3.below hb k.b3.lt, k.b4.below hb k.b4.lt⟩
theorem txts_blk {w : World} {g n : Nat} {l : List Txt} (h : Blk w g StrT (l.map tv).toArray) (hl : l.length ≤ 1000) (M : Nat → Prop) (hM : ¬ M g) : Txts w M (some ⟨g, 0, none⟩) l :=
  ⟨by simp; omega, .inr ⟨g, 0, rfl, h.lt, hM, fun j u hu => by rw [Nat.zero_add, h.cell j]; simpa using hu⟩⟩
theorem ItT.good {W0 : World} {h : Nat} {w : World} (k : ItT W0 h w) (i : Nat) (hi : i < 6) : ∃ x A, Sp.isPage (Sp.pgI x) = true ∧ Txts w NoM A x.vals ∧ (∀ j v, (itemV x A x.vals.length).toArray[j]? = some v → w.cell? ⟨h + 1, i * 10 + j, none⟩ = some v) := by
  refine ⟨Sp.itG i, gA h i, Sp.itG_is i hi, ?_, fun j v hv => ?_⟩
  · rcases (by omega : i = 0 ∨ i = 1 ∨ i = 2 ∨ i = 3 ∨ i = 4 ∨ i = 5) with rfl | rfl | rfl | rfl | rfl | rfl
    · exact Row.nil_
    · exact Row.nil_
    · exact Row.nil_
    · exact txts_blk (l := [[97], [98], [99]]) (n := 0) k.s.b0 (by decide) NoM id
    · exact Row.nil_
    · exact Row.nil_
  · rw [k.s.b1.cell]
    exact go_cells h i hi j v (by simpa using hv)
theorem ItT.bad {W0 : World} {h : Nat} {w : World} (k : ItT W0 h w) (i : Nat) (hi : i < 10) : ∃ x A, Sp.isPage (Sp.pgI x) = false ∧ Txts w NoM A x.vals ∧ (∀ j v, (itemV x A x.vals.length).toArray[j]? = some v → w.cell? ⟨h + 4, i * 10 + j, none⟩ = some v) := by
  refine ⟨Sp.itB i, bA (h + 2) i, Sp.itB_is i hi, ?_, fun j v hv => ?_⟩
  · rcases (by omega : i = 0 ∨ i = 1 ∨ i = 2 ∨ i = 3 ∨ i = 4 ∨ i = 5 ∨ i = 6 ∨ i = 7 ∨ i = 8 ∨ i = 9) with rfl | rfl | rfl | rfl | rfl | rfl | rfl | rfl | rfl | rfl
    · exact Row.nil_
    · exact Row.nil_
    · exact Row.nil_
    · exact Row.nil_
    · exact Row.nil_
    · exact Row.nil_
    · exact txts_blk (l := [[98], [97]]) (n := 0) k.b2 (by decide) NoM id
    · exact txts_blk (l := [[97]]) (n := 0) k.b3 (by decide) NoM id
    · exact Row.nil_
    · exact Row.nil_
  · rw [k.b4.cell]
    exact ba_cells (h + 2) i hi j v (by simpa using hv)
/-- A leaf of one item. -/
def refI (b : Nat) : Refs := ⟨some ⟨b, 0, none⟩, none, none, none, none, 1, 0, 0, 0, 0⟩
theorem pgI_rd {w : World} {b : Nat} {x : Sp.Item} {A : Option Addr} (h : Blk w b ItemT (itemV x A x.vals.length).toArray) (ht : Txts w NoM A x.vals) : PageRd w NoM (Sp.pgI x) (refI b) := by
  refine ⟨⟨by simp [Sp.pgI], .inr ⟨b, 0, rfl, h.lt, id, fun k hk => ?_⟩⟩, Row.nil_, Row.nil_, Row.nil_, Frees.nil_, by simp [Sp.pgI, Sp.mt0]⟩
  have hk0 : k = 0 := by
    have : k < 1 := hk
    omega
  subst hk0
  exact ⟨A, x.vals.length, ⟨(h.cell _).trans rfl, (h.cell _).trans rfl, (h.cell _).trans rfl, (h.cell _).trans rfl, (h.cell _).trans rfl, (h.cell _).trans rfl, (h.cell _).trans rfl, (h.cell _).trans rfl, (h.cell _).trans rfl, (h.cell _).trans rfl⟩, ht⟩
structure IpS (x : Sp.Item) (b g : Nat) (w : World) : Prop where
  pg : Blk w g PageT (pageV (Sp.pgI x) (refI b)).toArray
  rd : PageRd w NoM (Sp.pgI x) (refI b)
theorem IpS.below {x : Sp.Item} {b g : Nat} {w w' : World} (k : IpS x b g w) (hb : Below w.heap.size w w') : IpS x b g w' := ⟨k.pg.below hb k.pg.lt, k.rd.go hb⟩
structure IqS (W0 : World) (x y : Sp.Item) (b g c d : Nat) (w : World) : Prop where
  hb : Below W0.heap.size W0 w
  p : IpS x b g w
  q : IpS y c d w
theorem IqS.below {W0 : World} {x y : Sp.Item} {b g c d : Nat} {w w' : World} (k : IqS W0 x y b g c d w) (hb : Below w.heap.size w w') : IqS W0 x y b g c d w' := ⟨k.hb.trans (hb.mono k.hb.size), k.p.below hb, k.q.below hb⟩
theorem items_b4 {w W : World} {h : Nat} (S : ItS w h W) (hz : W.heap.size = h + 1 + 1) : Value.pointer (some ⟨(((W.alloc (.cells #[.string ⟨#[98]⟩, .string ⟨#[97]⟩] StrT)).alloc (.cells #[.string ⟨#[97]⟩] StrT))).heap.size, 0, none⟩) = .pointer (some ⟨h + 4, 0, none⟩) ∧ (((W.alloc (.cells #[.string ⟨#[98]⟩, .string ⟨#[97]⟩] StrT)).alloc (.cells #[.string ⟨#[97]⟩] StrT)).alloc (.cells (baC W.heap.size) 54)).heap.size = h + 5 ∧ ItT w h (((W.alloc (.cells #[.string ⟨#[98]⟩, .string ⟨#[97]⟩] StrT)).alloc (.cells #[.string ⟨#[97]⟩] StrT)).alloc (.cells (baC W.heap.size) 54)) := by
  have c2 := ((Blk.new W StrT #[.string ⟨#[98]⟩, .string ⟨#[97]⟩]).alloc (.cells #[.string ⟨#[97]⟩] StrT)).alloc (.cells (baC W.heap.size) 54)
  have c3 := (Blk.new (W.alloc (.cells #[.string ⟨#[98]⟩, .string ⟨#[97]⟩] StrT)) StrT #[.string ⟨#[97]⟩]).alloc (.cells (baC W.heap.size) 54)
  have c4 := Blk.new ((W.alloc (.cells #[.string ⟨#[98]⟩, .string ⟨#[97]⟩] StrT)).alloc (.cells #[.string ⟨#[97]⟩] StrT)) 54 (baC W.heap.size)
  simp only [World.size_alloc] at c2 c3 c4
  have hb : Below W.heap.size W (((W.alloc (.cells #[.string ⟨#[98]⟩, .string ⟨#[97]⟩] StrT)).alloc (.cells #[.string ⟨#[97]⟩] StrT)).alloc (.cells (baC W.heap.size) 54)) :=
    (((Below.refl _ _).alloc (Nat.le_refl _) _).alloc (by simp) _).alloc (by simp; omega) _
  generalize hW : ((W.alloc (.cells #[.string ⟨#[98]⟩, .string ⟨#[97]⟩] StrT)).alloc (.cells #[.string ⟨#[97]⟩] StrT)).alloc (.cells (baC W.heap.size) 54) = V at *
  have hv : V.heap.size = h + 5 := by rw [← hW]; simp [hz]
  rw [hz] at c2 c3 c4
  exact ⟨by simp [hz], hv, S.below hb, c2, c3, c4⟩
theorem items_pg {W : World} {n : Nat} {x : Sp.Item} {A : Option Addr} (hz : W.heap.size = n) (ht : Txts W NoM A x.vals) (p : Value) (hp : p = .pointer (some ⟨n + 1, 0, none⟩)) : p = .pointer (some ⟨n + 1, 0, none⟩) ∧ ((W.alloc (.cells (itemV x A x.vals.length).toArray ItemT)).alloc (.cells (pageV (Sp.pgI x) (refI W.heap.size)).toArray PageT)).heap.size = n + 2 ∧ Below W.heap.size W ((W.alloc (.cells (itemV x A x.vals.length).toArray ItemT)).alloc (.cells (pageV (Sp.pgI x) (refI W.heap.size)).toArray PageT)) ∧ IpS x n (n + 1) ((W.alloc (.cells (itemV x A x.vals.length).toArray ItemT)).alloc (.cells (pageV (Sp.pgI x) (refI W.heap.size)).toArray PageT)) := by
  subst hz
  have hb : Below W.heap.size W ((W.alloc (.cells (itemV x A x.vals.length).toArray ItemT)).alloc (.cells (pageV (Sp.pgI x) (refI W.heap.size)).toArray PageT)) := ((Below.refl _ _).alloc (Nat.le_refl _) _).alloc (by simp) _
  exact ⟨hp, by simp, hb, blk_second W _ _ _, pgI_rd ((Blk.new W _ _).alloc _) (ht.go hb)⟩
set_option maxRecDepth 100000 in
set_option maxHeartbeats 1600000 in
theorem items_walk (a0 : Int) (h0 : 0 ≤ a0) (h1 : a0 ≤ 255) (w : World) :
    Calls Try.prog 6 #[.int .u8 a0] w fun e w' => e = .returned (.bool true) ∧ Below w.heap.size w w' := by
  go_enter Try.func6, Try.ntmps6
  go_upto_region 3 with (go_at_call 13; refine (known_any _).mono ?_; rintro e w1 ⟨rfl, hb1⟩)
  have HB1 := Lib.hid hb1
  clear hb1
  go_cut [3] (fun s3 W => s3 = .pointer (some ⟨w1.heap.size + 1, 0, none⟩) ∧ W.heap.size = w1.heap.size + 1 + 1 ∧ ItS w w1.heap.size W)
  case first =>
    go_wp2_with (first
      | (refine wpList_built rfl 53 _ rfl (goC w1.heap.size) (by kernel_rfl) ?_)
      | (refine wpList_new 53 _ _ rfl rfl rfl rfl rfl rfl _ rfl (of_decide_eq_true (by kernel_rfl)) (by kernel_rfl) (by kernel_rfl) (by kernel_rfl) ?_))
    go_meet
    case rel => exact ⟨by simp, by simp, (HB1.out.alloc HB1.out.size _).alloc (by have := HB1.out.size; simp; omega) _, HB1.out.size, (Blk.new w1 _ _).alloc _, blk_second w1 _ _ _⟩
  case rest =>
    obtain ⟨rfl, hz, hs⟩ := hcut
    have S := Lib.hid hs
    have HZ := Lib.hid hz
    clear hs hz
    generalize w1.heap.size = h at *
    clear HB1
    obtain ⟨w2, rfl⟩ : ∃ W, W = wc := ⟨_, rfl⟩
    go_upto_region 4 with fail
    go_cut [4] (fun s4 W => s4 = .pointer (some ⟨h + 4, 0, none⟩) ∧ W.heap.size = h + 5 ∧ ItT w h W)
    case first =>
      have S1 := Lib.hid (S.out.hb)
      go_wp2_with (first
        | (refine wpList_built rfl 54 _ rfl (baC w2.heap.size) (by kernel_rfl) ?_)
        | (refine wpList_new 54 _ _ rfl rfl rfl rfl rfl rfl _ rfl (of_decide_eq_true (by kernel_rfl)) (by kernel_rfl) (by kernel_rfl) (by kernel_rfl) ?_))
      go_meet
      case rel => exact items_b4 S.out HZ.out
    case rest =>
      obtain ⟨rfl, hz, hs⟩ := hcut
      obtain ⟨w4, rfl⟩ : ∃ W, W = wc := ⟨_, rfl⟩
      have T := Lib.hid hs
      have HY := Lib.hid hz
      clear hs hz S HZ
      have hd1 : 0 ≤ a0 / 2 % 6 ∧ a0 / 2 % 6 < 6 := by omega
      have hd2 : 0 ≤ a0 / 2 % 10 ∧ a0 / 2 % 10 < 10 := by omega
      obtain ⟨x, A, hx, hxt, hxc⟩ := T.out.good (a0 / 2 % 6).toNat (by omega)
      obtain ⟨y, B, hy, hyt, hyc⟩ := T.out.bad (a0 / 2 % 10).toNat (by omega)
      have HX := Lib.hid hx
      have HXT := Lib.hid hxt
      have HXC := Lib.hid hxc
      have HY2 := Lib.hid hy
      have HYT := Lib.hid hyt
      have HYC := Lib.hid hyc
      clear hx hxt hxc hy hyt hyc hd1 hd2
      go_upto_region 5 with fail
      go_cut [5] (fun s5 W => s5 = .pointer (some ⟨h + 6, 0, none⟩) ∧ W.heap.size = h + 7 ∧ Below w4.heap.size w4 W ∧ IpS x (h + 5) (h + 6) W)
      case first =>
        go_wp2_with (first
          | (refine wpList_at 51 _ rfl (h + 1) ((a0 / 2 % 6).toNat * 10) rfl rfl #[.string ⟨x.key.toArray⟩, .int .i64 x.kind, .string ⟨x.val.toArray⟩, .int .i64 x.run, .int .i64 x.len, .slice A x.vals.length x.vals.length, .int .i64 x.dup, .int .i64 x.root.page, .int .i64 x.root.count, .int .i64 x.root.flags] _ HXC.out Try.underlying51 rfl rfl ?_)
          | (refine wpList_new PageT _ _ rfl rfl rfl rfl rfl rfl _ rfl (of_decide_eq_true (by kernel_rfl)) (by kernel_rfl) (by kernel_rfl) (by kernel_rfl) ?_))
        go_meet
        case rel =>
          have hq := items_pg HY.out HXT.out _ rfl
          exact ⟨by simp [HY.out], hq.2⟩
      case rest =>
        obtain ⟨rfl, hz, hb5, hp5⟩ := hcut
        obtain ⟨w5, rfl⟩ : ∃ W, W = wc := ⟨_, rfl⟩
        have HZ := Lib.hid hz
        have HB5 := Lib.hid hb5
        have HP5 := Lib.hid hp5
        have HYC := Lib.hid (fun j v hv => (hb5.cell (p := ⟨h + 4, (a0 / 2 % 10).toNat * 10 + j, none⟩) (by have := HY.out; show h + 4 < _; omega)).trans (HYC.out j v hv))
        have HYT := Lib.hid (HYT.out.go hb5)
        clear hz hb5 hp5
        go_upto_region 6 with fail
        go_cut [6] (fun s6 W => s6 = .pointer (some ⟨h + 8, 0, none⟩) ∧ Below w5.heap.size w5 W ∧ IpS y (h + 7) (h + 8) W)
        case first =>
          go_wp2_with (first
            | (refine wpList_at 51 _ rfl (h + 4) ((a0 / 2 % 10).toNat * 10) rfl rfl #[.string ⟨y.key.toArray⟩, .int .i64 y.kind, .string ⟨y.val.toArray⟩, .int .i64 y.run, .int .i64 y.len, .slice B y.vals.length y.vals.length, .int .i64 y.dup, .int .i64 y.root.page, .int .i64 y.root.count, .int .i64 y.root.flags] _ HYC.out Try.underlying51 rfl rfl ?_)
            | (refine wpList_new PageT _ _ rfl rfl rfl rfl rfl rfl _ rfl (of_decide_eq_true (by kernel_rfl)) (by kernel_rfl) (by kernel_rfl) (by kernel_rfl) ?_))
          go_meet
          case rel =>
            have hq := items_pg HZ.out HYT.out _ rfl
            exact ⟨by simp [HZ.out], hq.2.2⟩
        case rest =>
          obtain ⟨rfl, hb6, hp6⟩ := hcut
          obtain ⟨w6, rfl⟩ : ∃ W, W = wc := ⟨_, rfl⟩
          have J := Lib.hid (⟨(T.out.s.hb.trans (HB5.out.mono T.out.s.hb.size)).trans (hb6.mono (Nat.le_trans T.out.s.hb.size HB5.out.size)), HP5.out.below hb6, hp6⟩ : IqS w x y (h + 5) (h + 6) (h + 7) (h + 8) w6)
          clear hb6 hp6 T HB5 HP5 HYC HYT HXC HXT HZ HY
          obtain ⟨b0, s0, hbx⟩ : ∃ b0 s0, Sp.bytes (Sp.pgI x) = b0 :: s0 := by
            have := Sp.bytes_len HX.out
            rcases hq : Sp.bytes (Sp.pgI x) with _ | ⟨b0, s0⟩
            · rw [hq] at this; simp at this
            · exact ⟨b0, s0, rfl⟩
          have HBX := Lib.hid hbx
          clear hbx
          go_upto_region 7 with fail
          go_wp2_with (first
            | (refine wpList_row PageT _ rfl (h + 6) rfl rfl PageT _ (0, 0) _ J.out.p.pg Try.underlying32 rfl rfl ?_)
            | (refine wpList_row PageT _ rfl (h + 8) rfl rfl PageT _ (0, 0) _ J.out.q.pg Try.underlying32 rfl rfl ?_)
            | (go_at_call_of 16 x; refine (isPage_any (M := NoM) (Sp.pgI x) (refI (h + 5)) _ J.out.p.rd).mono ?_; rintro e w7 ⟨rfl, hb2⟩; rw [HX.out]; replace J := Lib.hid (J.out.below hb2); clear hb2)
            | (go_at_call_of 16 y; refine (isPage_any (M := NoM) (Sp.pgI y) (refI (h + 7)) _ J.out.q.rd).mono ?_; rintro e w7 ⟨rfl, hb2⟩; rw [HY2.out]; replace J := Lib.hid (J.out.below hb2); clear hb2)
            | (go_at_call_of 20 x; refine (bytes_any (M := NoM) (Sp.pgI x) (refI (h + 5)) _ J.out.p.rd).mono ?_; rintro e w7 ⟨rfl, hb2⟩; rw [HBX.out]; replace J := Lib.hid (J.out.below hb2); clear hb2)
            | (go_at_call_of 20 y; refine (bytes_any (M := NoM) (Sp.pgI y) (refI (h + 7)) _ J.out.q.rd).mono ?_; rintro e w7 ⟨rfl, hb2⟩; rw [Sp.bytes_no HY2.out]; replace J := Lib.hid (J.out.below hb2); clear hb2))
          go_ret
          exact ⟨rfl, J.out.hb⟩
end Go.Proofs.Ytienlhckcpfknaa
namespace Go.Proofs.Ytienlhckcpfknaa.pageItems
open Go.ChangeShapes Go.WideShapes Go.ChangeAt Go.RowKit
set_option maxRecDepth 100000 in
theorem lifted (os : Os) (started : os.Started) (H : Type) (enc : TypeId × Value → H) :
    ReturnsInHanded {} Try.checked os 6 .any (Rows.pageItemsSpec.pre6 enc Try.prog Try.f6 Rows.pageItemsRow.domain false) (Rows.pageItemsSpec.post enc Try.prog Try.f6 false true false false) := by
  refine returnsInHanded_of_change (C := Try.checked) ownKn started (by kernel_rfl) Try.func6
    (ChangeSpec.witness6 (enc := enc) (C := Try.checked) false ⟨#[], #[.int .u8 0], []⟩ 8 (by kernel_rfl) (by kernel_rfl) (by kernel_rfl) (by kernel_rfl)) ?_
  intro W base args ds gs before hval0 hW hcnd _
  have hval : ∀ (j : Nat) t v, Try.f6.params[j]? = some t → args[j]? = some v → Value.okWide Try.prog W .any base t v := hval0
  have hW' := hW
  obtain ⟨p, q, hA0, hV, rfl, hfz, hnd⟩ := hW
  have hA : DataW.TrodAll enc Try.prog W 0 (fun _ => true) true Try.f6.params.toList args.toList ds p := hA0
  rw [Try.params6] at hA hval
  obtain ⟨v0, vs0, d0, ds0, p0, q0, hargs, rfl, rfl, h0, r0⟩ := trodAll_cons hA
  obtain ⟨rfl, rfl, rfl⟩ := trodAll_nil r0
  obtain rfl : args = #[v0] := by cases args; simp_all
  obtain ⟨rfl, rfl⟩ := trodVars_none hV
  obtain ⟨a0, rfl, rfl, rfl, w0⟩ := open_int Try.underlying5 (hval 0 5 v0 rfl rfl) h0
  clear hA0 hval0
  simp only [List.append_nil] at hW'
  refine (items_walk a0 (bounds_u8 w0).1 (bounds_u8 w0).2 W).mono fun e W' ⟨he, hg⟩ => ?_
  subst he
  exact ⟨_, rfl, post_of_below (pa := []) (pv := []) hW' (fun _ _ _ => (trodAll_cons_mk (shut_bool Try.underlying4 _) trodAll_mk0)) (fun sp _ => (trodAll_cons_mk (shut_int Try.underlying5 w0) trodAll_mk0)) (fun _ _ => rfl) rfl
    hg (ok_one (by kernel_rfl) rfl (okWide_bool_mk Try.underlying4 _))⟩
theorem over : Rows.pageItemsRow.holds Try.pinned (OpenSpec.ofChange Rows.pageItemsSpec) :=
  OpenClaim.holds_of_wide 6 Try.f6 rfl rfl rfl rfl rfl rfl rfl ⟨rfl, rfl, rfl, rfl, rfl⟩ rfl rfl rfl rfl rfl (by kernel_rfl) Try.func6 (by kernel_rfl)
    (of_decide_eq_true (by kernel_rfl)) (by unfold Func.isWrapper; first | (rw [if_pos (by decide +kernel)]; kernel_rfl) | (rw [if_neg (by decide +kernel)]; exact ⟨rfl, rfl⟩))
    (fun os started H enc _ => lifted os started H enc)
theorem proved : Rows.PageItemsSaid :=
  over
#print axioms proved
end Go.Proofs.Ytienlhckcpfknaa.pageItems
