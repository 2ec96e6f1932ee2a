/- The row's last step where the call leaves a world of which 'Below' alone is known. Plain words for memory, over any program: a class of later worlds, a row of cells that reads as a list, what a call may change, and the rule for a region whose order is open and whose calls make memory. The plain specification of pages as bytes: no program in sight. The plain specification of pages: branches, free numbers, pages; how they lie in memory. Numbers and texts as bytes: what the pack's functions do. -/
import Derived.Test.YtlpmjeiogdlifaaGreatRows
import Derived.WalkKit
import Derived.ProofKit
import Derived.OpenShut
import Derived.Below
import Derived.ChangeSame
import Derived.WalkSpells
import Derived.WalkLawsBesides
import Derived.Handy
import Derived.Lib.Hide
import Derived.Deep.Light
import Derived.Deep.LoopGhost
import Derived.BigQuiet
import Derived.Deep.QuietTactic
import Derived.Deep.RegionWith
import Derived.Test.YtlpmjeiogdlifaaGreatProg
set_option linter.unusedSimpArgs false
set_option linter.unusedVariables false
namespace Go.Proofs.YtlpmjeiogdlifaaGreat
open Go.RowKit Go.WideShapes Go.ChangeShapes
theorem laidKn : laidOutB Tryz.prog = true := by kernel_rfl
theorem ownKn : ownKnob Tryz.prog.godebug = none := by kernel_rfl
theorem post_of_below {H : Type} {enc : TypeId × Value → H} {P : Program} {f : Func} {s : ChangeSpec} {apart fresh handsOn again : Bool} {W W' : World} {args : Array Value} {v : Value} {ds gs : List (DataW H)} {before pa pv : List MemPlace}
    (hW : DataW.Whole enc P f.params.toList s.vars apart W args.toList ds gs before)
    (hres : ∀ (b : Nat) (sp : Nat → Bool) (hd : Bool), DataW.TrodAll enc P W' b sp hd f.resultTypes.toList (v.resultList f.resultTypes.size) (s.fn H (ds ++ gs)).results [])
    (hargs : ∀ sp : Nat → Bool, (∀ p ∈ before, sp p.block = true) → DataW.TrodAll enc P W' 0 sp true f.params.toList args.toList (s.fn H (ds ++ gs)).args pa)
    (hvars : ∀ sp : Nat → Bool, (∀ p ∈ before, sp p.block = true) → DataW.TrodVars enc P W' sp s.vars (s.fn H (ds ++ gs)).vars pv)
    (hps : before = pa ++ pv) (hb : Below W.heap.size W W')
    (hok : ∀ (j : Nat) (t : TypeId) (r : Value), f.resultTypes[j]? = some t → (v.resultList f.resultTypes.size)[j]? = some r → Value.okWide P W' .any 0 t r) :
    s.post enc P f apart fresh handsOn again W args v W' := by
  have hlt : ∀ p ∈ before, p.block < W.heap.size := fun p hp => hW.lt p hp
  have hold : ∀ p ∈ before, (fun b => decide (b < W.heap.size)) p.block = true := fun p hp => by simpa using hlt p hp
  refine ⟨ds, gs, before, [], pa, pv, hW, hres _ _ _, hargs _ hold, hvars _ hold, World.keptBut_mono (fun p hp => ⟨hp, ?_⟩) (hb.frame (· ∈ before)), fun _ => ?_⟩
  · rw [hps, List.mem_append] at hp
    exact Or.inr hp
  · obtain ⟨_, _, _, _, _, hz, hn⟩ := hW
    refine ⟨hok, _, _, ([] ++ pa) ++ pv, ⟨[] ++ pa, pv, trodAll_append (hargs _ (fun _ _ => rfl)) (hres _ _ _), hvars _ (fun _ _ => rfl), rfl, ?_, ?_⟩, ?_⟩
    · intro b off hp
      have hin : MemPlace.cell b off ∈ before := by rw [hps]; simpa using hp
      rw [hb.frozen (hlt _ hin)]
      exact hz b off hin
    · intro ha
      have := hn ha
      rw [hps] at this
      simpa using this
    · intro p hp _
      rw [hps]
      simpa using hp
end Go.Proofs.YtlpmjeiogdlifaaGreat
namespace Go.Proofs.YtlpmjeiogdlifaaGreat
open Go.RowKit

theorem ret_bool {a b : Bool} (h : a = b) : Ending.returned (.bool a) = .returned (.bool b) := by rw [h]
theorem ret_int {k : IntKind} {a b : Int} (h : a = b) : Ending.returned (.int k a) = .returned (.int k b) := by rw [h]
theorem mk_extract (s : List UInt8) (a b : Nat) : (ByteArray.mk s.toArray).extract a b = ⟨((s.drop a).take (b - a)).toArray⟩ := by
  apply ByteArray.ext
  simp [ByteArray.data_extract, List.extract_toArray, List.extract_eq_take_drop]
theorem mk_extract_end (s : List UInt8) (a : Nat) : (ByteArray.mk s.toArray).extract a s.length = ⟨(s.drop a).toArray⟩ := by
  rw [mk_extract, List.take_of_length_le (by simp)]

structure After (B : Nat) (W : World) where
  w : World
  h : Below B W w

instance {B : Nat} {W : World} : Nonempty (After B W) := ⟨⟨W, Below.refl B W⟩⟩

theorem After.cell {B : Nat} {W : World} (x : After B W) {b o : Nat} (h : b < B) : x.w.cell? ⟨b, o, none⟩ = W.cell? ⟨b, o, none⟩ := x.h.cell (p := ⟨b, o, none⟩) h
theorem After.frozen {B : Nat} {W : World} (x : After B W) {b o : Nat} (h : b < B) : x.w.frozen? ⟨b, o, none⟩ = W.frozen? ⟨b, o, none⟩ := x.h.frozen (p := ⟨b, o, none⟩) h

theorem below_drewN {B : Nat} {a w : World} (h : Below B a w) (n : Nat) : Below B a (w.drewN n) := ⟨h.os, h.tape, h.output, h.size, h.block⟩

theorem below_step {B B' : Nat} {a b c : World} (k : Below B' b c) (hB : B ≤ B') (h : Below B a b) : Below B a c := h.trans (k.mono hB)

theorem bcell {B : Nat} {W w1 : World} (hb : Below B W w1) : (∀ b o, b < B → w1.cell? ⟨b, o, none⟩ = W.cell? ⟨b, o, none⟩) ∧ (∀ b o, b < B → w1.frozen? ⟨b, o, none⟩ = W.frozen? ⟨b, o, none⟩) :=
  ⟨fun b o h => hb.cell (p := ⟨b, o, none⟩) h, fun b o h => hb.frozen (p := ⟨b, o, none⟩) h⟩

theorem after_call {P : Program} {f : FuncId} {args : Array Value} {B : Nat} {W : World} {x : After B W} {v : Value} (hB : B ≤ W.heap.size)
    (h : Calls P f args x.w fun e w' => e = .returned v ∧ Below x.w.heap.size x.w w') :
    Calls P f args x.w fun e w'' => e = .returned v ∧ ∃ y : After B W, w'' = y.w :=
  h.mono fun _ w' ⟨he, hb⟩ => ⟨he, ⟨w', x.h.trans (hb.mono (Nat.le_trans hB x.h.size))⟩, rfl⟩

theorem wp_region_after {P : Program} {id : Nat} {Q : Exit → Act → World → Prop} {a : Act} {w : World} {l : List Oper} (hm : P.follows .mixedOrders = true) (hB : Region.lexB .any l.toArray = true)
    (B : Nat)
    (h : wpQuiet P l.toArray (fun w' => ∃ x : After B w, w' = x.w) (fun a' => ∀ w', Below B w w' → Q .normal a' w') l a) : (Code.region id l.toArray true).wp P Q a w := by
  refine wp_region_quiet (C := fun w' => ∃ x : After B w, w' = x.w) hm hB ⟨⟨_, (Below.refl B w).drew⟩, rfl⟩ ?_
  have e : (fun a' => ∀ w', Below B w w' → Q Exit.normal a' w') = (fun a' => ∀ w', (∃ x : After B w, w' = x.w) → Q Exit.normal a' w') := by
    funext a'
    apply propext
    constructor
    · rintro hh w' ⟨x, rfl⟩
      exact hh _ x.h
    · intro hh w' hb
      exact hh w' ⟨⟨w', hb⟩, rfl⟩
  rw [e] at h
  simpa using h

structure Chg (S : Nat → Prop) (w w' : World) : Prop where
  os : w'.os = w.os
  tape : w'.tape = w.tape
  output : w'.output = w.output
  size : w.heap.size ≤ w'.heap.size
  block : ∀ k, k < w.heap.size → ¬ S k → w'.heap[k]? = w.heap[k]?

abbrev NoM : Nat → Prop := fun _ => False
abbrev OneM (g : Nat) : Nat → Prop := fun k => k = g

section
variable {S T : Nat → Prop} {a b c w w' : World}
theorem Chg.refl (S : Nat → Prop) (w : World) : Chg S w w := ⟨rfl, rfl, rfl, Nat.le_refl _, fun _ _ _ => rfl⟩
theorem Chg.trans (h : Chg S a b) (k : Chg S b c) : Chg S a c :=
  ⟨k.os.trans h.os, k.tape.trans h.tape, k.output.trans h.output, Nat.le_trans h.size k.size, fun i hi hs => (k.block i (Nat.lt_of_lt_of_le hi h.size) hs).trans (h.block i hi hs)⟩
theorem Chg.mono (h : Chg S a b) (hs : ∀ k, k < a.heap.size → S k → T k) : Chg T a b := ⟨h.os, h.tape, h.output, h.size, fun i hi ht => h.block i hi fun s => ht (hs i hi s)⟩
theorem Chg.of_below (h : Below a.heap.size a b) : Chg S a b := ⟨h.os, h.tape, h.output, h.size, fun i hi _ => h.block i hi⟩
theorem Chg.below {B : Nat} (h : Chg S a b) (hB : B ≤ a.heap.size) (hs : ∀ k, k < B → ¬ S k) : Below B a b := ⟨h.os, h.tape, h.output, h.size, fun i hi => h.block i (by omega) (hs i hi)⟩
theorem Chg.to_below (h : Chg NoM a b) : Below a.heap.size a b := h.below (Nat.le_refl _) fun _ _ h => h
theorem Chg.drew (h : Chg S a b) : Chg S a b.drew := ⟨h.os, h.tape, h.output, h.size, h.block⟩
theorem Chg.drewN (h : Chg S a b) (n : Nat) : Chg S a (b.drewN n) := ⟨h.os, h.tape, h.output, h.size, h.block⟩
theorem Chg.alloc (h : Chg S a b) (o : Obj) : Chg S a (b.alloc o) :=
  ⟨h.os, h.tape, h.output, Nat.le_trans h.size (by simp), fun i hi hs => (Below.heap_alloc b o i (Nat.lt_of_lt_of_le hi h.size)).trans (h.block i hi hs)⟩
theorem Chg.setCell (h : Chg S a b) {p : Addr} (hp : S p.block ∨ a.heap.size ≤ p.block) (u : Value) : Chg S a (b.setCell p u) :=
  ⟨h.os, h.tape, h.output, by simpa [World.setCell] using h.size, fun i hi hs => (Below.heap_setCell b p u i (by
    rintro rfl
    rcases hp with hp | hp
    · exact hs hp
    · omega)).trans (h.block i hi hs)⟩
theorem Chg.set1 (w : World) (g o : Nat) (u : Value) : Chg (OneM g) w (w.setCell ⟨g, o, none⟩ u) := (Chg.refl (OneM g) w).setCell (p := ⟨g, o, none⟩) (.inl rfl) u
theorem Chg.cell (h : Chg S a b) {k o : Nat} (hk : k < a.heap.size) (hs : ¬ S k) : b.cell? ⟨k, o, none⟩ = a.cell? ⟨k, o, none⟩ := World.cell?_of_block (w := a) (h.block k hk hs)
theorem Chg.frozen (h : Chg S a b) {k o : Nat} (hk : k < a.heap.size) (hs : ¬ S k) : b.frozen? ⟨k, o, none⟩ = a.frozen? ⟨k, o, none⟩ := World.frozen?_of_block (w := a) (h.block k hk hs)
theorem Chg.of_grown {row : Option Nat} (hg : a.grownBy b row) (hr : ∀ k, row = some k → S k ∨ a.heap.size ≤ k) : Chg S a b :=
  ⟨hg.os, hg.tape, hg.output, hg.size, fun i hi hs => hg.block i hi (fun e => by
    rcases hr i e.symm with h | h
    · exact hs h
    · omega)⟩
theorem Chg.grown (h : Chg S a b) {row : Option Nat} (hg : b.grownBy c row) (hr : ∀ k, row = some k → S k ∨ a.heap.size ≤ k) : Chg S a c :=
  ⟨hg.os.trans h.os, hg.tape.trans h.tape, hg.output.trans h.output, Nat.le_trans h.size hg.size, fun i hi hs => (hg.block i (Nat.lt_of_lt_of_le hi h.size) (fun e => by
    rcases hr i e.symm with h | h
    · exact hs h
    · omega)).trans (h.block i hi hs)⟩

def Row (w : World) (M : Nat → Prop) (A : Option Addr) (cs : List Value) : Prop :=
  cs.length ≤ 9223372036854775807 ∧ (cs = [] ∨ ∃ b off, A = some ⟨b, off, none⟩ ∧ b < w.heap.size ∧ ¬ M b ∧ ∀ j u, cs[j]? = some u → w.cell? ⟨b, off + j, none⟩ = some u)

variable {M : Nat → Prop} {A : Option Addr} {cs : List Value}
theorem Row.nil_ : Row w M A [] := ⟨by simp, .inl rfl⟩
theorem Row.len (h : Row w M A cs) : cs.length ≤ 9223372036854775807 := h.1
theorem Row.open_ (h : Row w M A cs) (hn : 0 < cs.length) : ∃ b off, A = some ⟨b, off, none⟩ ∧ b < w.heap.size ∧ ¬ M b ∧ ∀ j u, cs[j]? = some u → w.cell? ⟨b, off + j, none⟩ = some u := by
  rcases h.2 with rfl | h
  · simp at hn
  · exact h
theorem Row.chg (h : Row w M A cs) (hk : Chg M w w') : Row w' M A cs := by
  refine ⟨h.1, ?_⟩
  rcases h.2 with h | ⟨b, off, e, hb, hm, hc⟩
  · exact .inl h
  · exact .inr ⟨b, off, e, Nat.lt_of_lt_of_le hb hk.size, hm, fun j u hu => (hk.cell hb hm).trans (hc j u hu)⟩
theorem Row.go (h : Row w M A cs) (hb : Below w.heap.size w w') : Row w' M A cs := h.chg (.of_below hb)
theorem Row.to (h : Row w M A cs) (hM : ∀ k, k < w.heap.size → T k → M k) : Row w T A cs := by
  refine ⟨h.1, ?_⟩
  rcases h.2 with h | ⟨b, off, e, hb, hm, hc⟩
  · exact .inl h
  · exact .inr ⟨b, off, e, hb, fun t => hm (hM b hb t), hc⟩
end

def Blk (w : World) (g : Nat) (t : TypeId) (cs : Array Value) : Prop := w.heap[g]? = some (.cells cs t (0, 0))
section
variable {w w' : World} {g : Nat} {t : TypeId} {cs : Array Value}
theorem Blk.lt (h : Blk w g t cs) : g < w.heap.size := by
  rcases Nat.lt_or_ge g w.heap.size with hlt | hge
  · exact hlt
  · unfold Blk at h; rw [Array.getElem?_eq_none hge] at h; cases h
theorem Blk.cell (h : Blk w g t cs) (i : Nat) : w.cell? ⟨g, i, none⟩ = cs[i]? := cell_of_row w g i cs t (0, 0) h
theorem Blk.frozen (h : Blk w g t cs) (i : Nat) : w.frozen? ⟨g, i, none⟩ = false := by
  unfold Blk at h
  simp [World.frozen?, h]
theorem Blk.new (w : World) (t : TypeId) (cs : Array Value) : Blk (w.alloc (.cells cs t)) w.heap.size t cs := heap_alloc_new w _
theorem Blk.drew (h : Blk w g t cs) : Blk w.drew g t cs := h
theorem Blk.drewN (h : Blk w g t cs) (n : Nat) : Blk (w.drewN n) g t cs := h
theorem Blk.alloc (h : Blk w g t cs) (o : Obj) : Blk (w.alloc o) g t cs := (Below.heap_alloc w o g h.lt).trans h
theorem Blk.set_ (h : Blk w g t cs) (i : Nat) (u : Value) : Blk (w.setCell ⟨g, i, none⟩ u) g t (cs.setIfInBounds i u) := by
  unfold Blk at h ⊢
  simp [World.setCell, Array.getElem?_modify, h]
theorem Blk.far (h : Blk w g t cs) {p : Addr} (hp : g ≠ p.block) (u : Value) : Blk (w.setCell p u) g t cs := (Below.heap_setCell w p u g hp).trans h
theorem Blk.chg {S : Nat → Prop} (h : Blk w g t cs) (hb : Chg S w w') (hg : ¬ S g) : Blk w' g t cs := (hb.block g h.lt hg).trans h
theorem Blk.below {B : Nat} (h : Blk w g t cs) (hb : Below B w w') (hg : g < B) : Blk w' g t cs := (hb.block g hg).trans h
end
end Go.Proofs.YtlpmjeiogdlifaaGreat
namespace Go.Proofs.YtlpmjeiogdlifaaGreat
open Go.RowKit
abbrev Txt := List UInt8
namespace Sp
structure Root where
  page : Int
  count : Int
  flags : Int
deriving DecidableEq
structure Item where
  key : Txt
  kind : Int
  val : Txt
  run : Int
  len : Int
  vals : List Txt
  dup : Int
  root : Root
deriving DecidableEq
structure Free where
  txn : Int
  ids : List Int
deriving DecidableEq
structure Mt where
  txn : Int
  main : Root
  free : Int
  last : Int
deriving DecidableEq
structure Page where
  kind : Int
  items : List Item
  keys : List Txt
  kids : List Int
  text : Txt
  vals : List Txt
  free : List Free
  next : Int
  mt : Mt
deriving DecidableEq

def lt (a b : Txt) : Bool := Op.bytesLess a b
def allTo (n : Nat) (f : Nat → Bool) : Bool := (List.range n).all f
theorem allTo_true {n : Nat} {f : Nat → Bool} (h : ∀ j, j < n → f j = true) : allTo n f = true := by simpa [allTo] using h
theorem allTo_false {n k : Nat} {f : Nat → Bool} (hk : k < n) (h : f k = false) : allTo n f = false := by
  unfold allTo
  rw [List.all_eq_false]
  exact ⟨k, by simpa using hk, by simp [h]⟩
theorem allTo_iff {n : Nat} {f : Nat → Bool} : allTo n f = true ↔ ∀ j, j < n → f j = true := by simp [allTo]

def leN : Nat → Int → Txt
  | 0, _ => []
  | k + 1, n => UInt8.ofNat (n % 256).toNat :: leN k (n / 256)
def le8 (n : Int) : Txt := leN 8 n
def unle : Txt → Int
  | [] => 0
  | b :: l => (b.toNat : Int) + 256 * unle l
theorem unle_range : ∀ (l : Txt), 0 ≤ unle l ∧ unle l < ((256 ^ l.length : Nat) : Int)
  | [] => by simp [unle]
  | b :: l => by
    have h := unle_range l
    have hb := b.toNat_lt
    rw [List.length_cons, Nat.pow_succ]
    generalize 256 ^ l.length = p at *
    simp only [unle]
    omega
theorem unle_lt7 (l : Txt) (h : l.length ≤ 7) : 0 ≤ unle l ∧ unle l < 72057594037927936 := by
  have hr := unle_range l
  have h7 := Nat.pow_le_pow_right (n := 256) (by omega) h
  generalize 256 ^ l.length = p at *
  omega
theorem unle_lt8 (l : Txt) (h : l.length ≤ 8) : 0 ≤ unle l ∧ unle l < 18446744073709551616 := by
  have hr := unle_range l
  have h7 := Nat.pow_le_pow_right (n := 256) (by omega) h
  generalize 256 ^ l.length = p at *
  omega
theorem unle_drop (b : Txt) (k : Nat) (h : k < b.length) : unle (b.drop k) = (b[k].toNat : Int) + 256 * unle (b.drop (k + 1)) := by
  rw [List.drop_eq_getElem_cons h]
  rfl
theorem or_byte (m : Int) (x : UInt8) (h0 : 0 ≤ m) (h1 : m < 72057594037927936) : bits .or .u64 (m * 256) (IntKind.u64.wrap (x.toNat : Int)) = (x.toNat : Int) + 256 * m := by
  have hx := x.toNat_lt
  rw [IntKind.wrap_u64, Int.emod_eq_of_lt (by omega) (by omega), u64_or _ _ (by omega) (by omega) (by omega) (by omega)]
  have e : (m * 256).toNat = 2 ^ 8 * m.toNat := by omega
  rw [e, Int.toNat_natCast, ← Nat.two_pow_add_eq_or_of_lt (by omega : x.toNat < 2 ^ 8)]
  omega
theorem unle_leN : ∀ (k : Nat) (n : Int), 0 ≤ n → n < 256 ^ k → unle (leN k n) = n
  | 0, n, h0, h1 => by simp at h1; simp [leN, unle]; omega
  | k + 1, n, h0, h1 => by
    have e : (256 : Int) ^ (k + 1) = 256 * 256 ^ k := by rw [Int.pow_succ]; omega
    rw [e] at h1
    simp only [leN, unle]
    rw [unle_leN k (n / 256) (by omega) (by omega)]
    have : (UInt8.ofNat (n % 256).toNat).toNat = (n % 256).toNat := by
      rw [UInt8.toNat_ofNat']
      omega
    rw [this]
    omega
theorem leN_length : ∀ (k : Nat) (n : Int), (leN k n).length = k
  | 0, _ => rfl
  | k + 1, n => by simp [leN, leN_length k]
theorem le8_length (n : Int) : (le8 n).length = 8 := leN_length 8 n
theorem leN2 (n : Nat) (h : n ≤ 65535) : leN 2 (n : Int) = [UInt8.ofNat (n % 256), UInt8.ofNat (n / 256)] := by
  have h1 : ((n : Int) % 256).toNat = n % 256 := by omega
  have h2 : ((n : Int) / 256 % 256).toNat = n / 256 := by omega
  simp only [leN, h1, h2]
def cutText (s : Txt) : Txt := s.take 65535
def text (s : Txt) : Txt := leN 2 (cutText s).length ++ cutText s
def sumStep (n : Int) (b : UInt8) : Int := IntKind.u64.wrap (IntKind.u64.wrap (n * 33) + IntKind.u64.wrap (b.toNat : Int))
def sum (s : Txt) : Int := s.foldl sumStep 5381
theorem sumStep_range (n : Int) (b : UInt8) : 0 ≤ sumStep n b ∧ sumStep n b < 18446744073709551616 := by
  unfold sumStep
  rw [IntKind.wrap_u64]
  omega
theorem sum_append (s : Txt) (b : UInt8) : sum (s ++ [b]) = sumStep (sum s) b := by simp [sum]
theorem sum_range (s : Txt) : 0 ≤ sum s ∧ sum s < 18446744073709551616 := by
  rcases List.eq_nil_or_concat s with rfl | ⟨l, b, rfl⟩
  · decide
  · rw [List.concat_eq_append, sum_append]
    exact sumStep_range _ _
theorem sum_succ (s : Txt) (k : Nat) (h : k < s.length) : sum (s.take (k + 1)) = sumStep (sum (s.take k)) s[k] := by
  rw [List.take_succ_eq_append_getElem h, sum_append]

theorem ne_at {α : Type} {l m : List α} {k : Nat} {d : α} (h : l.getD k d ≠ m.getD k d) : l ≠ m := fun e => h (by rw [e])
theorem eq_all {α : Type} {l m : List α} {d : α} (hl : l.length = m.length) (h : ∀ j, j < l.length → l.getD j d = m.getD j d) : l = m := by
  apply List.ext_getElem hl
  intro i h1 h2
  have := h i h1
  simpa [List.getD, h1, h2] using this
def short (s : Txt) : Bool := decide (1 ≤ s.length) && decide (s.length ≤ 8)
def isID (n : Int) : Bool := decide (2 ≤ n) && decide (n < 400)
def noneOr (n : Int) : Bool := decide (n = 0) || isID n
def isRoot (r : Root) : Bool := noneOr r.page && decide (0 ≤ r.count) && decide (r.count ≤ 1000000) && (decide (r.flags = 0) || decide (r.flags = 1))
def valAt (l : List Txt) (i : Nat) : Bool := decide (1 ≤ (l.getD i []).length) && decide ((l.getD i []).length ≤ 12) && (decide (i = 0) || lt (l.getD (i - 1) []) (l.getD i []))
theorem valAt_def (l : List Txt) (i : Nat) : valAt l i = (decide (1 ≤ (l.getD i []).length) && decide ((l.getD i []).length ≤ 12) && (decide (i = 0) || lt (l.getD (i - 1) []) (l.getD i []))) := rfl
def isVals (l : List Txt) (least most : Int) : Bool := allTo l.length (valAt l) && decide (least ≤ l.length) && decide ((l.length : Int) ≤ most)
def root0 : Root := ⟨0, 0, 0⟩
def own (x : Item) : Item :=
  if x.kind = 1 then ⟨x.key, x.kind, x.val, 0, 0, [], 0, root0⟩
  else if x.kind = 2 then ⟨x.key, x.kind, [], x.run, x.len, [], 0, root0⟩
  else if x.kind = 3 then ⟨x.key, x.kind, [], 0, 0, x.vals, x.dup, root0⟩
  else if x.kind = 4 then ⟨x.key, x.kind, [], 0, 0, [], 0, x.root⟩
  else ⟨x.key, x.kind, [], 0, 0, [], 0, root0⟩
def sameItem (x y : Item) : Bool := decide (x = y)
def kindOk (x : Item) : Bool :=
  if x.kind = 1 then decide (x.val.length ≤ 12)
  else if x.kind = 2 then isID x.run && decide (12 < x.len) && decide (x.len ≤ 1000)
  else if x.kind = 3 then (decide (x.dup = 0) && isVals x.vals 1 3) || (decide (x.vals = []) && isID x.dup)
  else if x.kind = 4 then isRoot x.root
  else false
def isItem (x : Item) : Bool := short x.key && sameItem x (own x) && kindOk x
theorem isItem_def (x : Item) : isItem x = (short x.key && sameItem x (own x) && kindOk x) := rfl
def item0 : Item := ⟨[], 0, [], 0, 0, [], 0, root0⟩
def leafAt (l : List Item) (i : Nat) : Bool := isItem (l.getD i item0) && (decide (i = 0) || lt (l.getD (i - 1) item0).key (l.getD i item0).key)
theorem leafAt_def (l : List Item) (i : Nat) : leafAt l i = (isItem (l.getD i item0) && (decide (i = 0) || lt (l.getD (i - 1) item0).key (l.getD i item0).key)) := rfl
def isLeaf (l : List Item) : Bool := allTo l.length (leafAt l) && decide (1 ≤ l.length) && decide (l.length ≤ 4)
end Sp

def tv (s : Txt) : Value := .string ⟨s.toArray⟩
def iv (n : Int) : Value := .int .i64 n
def Txts (w : World) (M : Nat → Prop) (A : Option Addr) (l : List Txt) : Prop := Row w M A (l.map tv)
section
variable {w w' : World} {M : Nat → Prop} {A : Option Addr} {l : List Txt}
theorem Txts.at_ (h : Txts w M A l) {k : Nat} (hk : k < l.length) :
    ∃ b off, A = some ⟨b, off, none⟩ ∧ b < w.heap.size ∧ ∀ j, j < l.length → w.cell? ⟨b, off + j, none⟩ = some (.string ⟨(l.getD j []).toArray⟩) := by
  obtain ⟨b, off, e, hb, _, hc⟩ := Row.open_ h (by simpa using Nat.lt_of_le_of_lt (Nat.zero_le _) hk)
  refine ⟨b, off, e, hb, fun j hj => ?_⟩
  have := hc j (tv l[j]) (by simp [hj])
  simpa [tv, List.getD, hj] using this
theorem Txts.len (h : Txts w M A l) : l.length ≤ 9223372036854775807 := by simpa using Row.len h
theorem Txts.go (h : Txts w M A l) (hb : Below w.heap.size w w') : Txts w' M A l := Row.go h hb
theorem Txts.chg (h : Txts w M A l) (hb : Chg M w w') : Txts w' M A l := Row.chg h hb
end

def Ints (w : World) (M : Nat → Prop) (A : Option Addr) (l : List Int) : Prop := Row w M A (l.map iv)
section
variable {w w' : World} {M : Nat → Prop} {A : Option Addr} {l : List Int}
theorem Ints.at_ (h : Ints w M A l) {k : Nat} (hk : k < l.length) :
    ∃ b off, A = some ⟨b, off, none⟩ ∧ b < w.heap.size ∧ ∀ j, j < l.length → w.cell? ⟨b, off + j, none⟩ = some (.int .i64 (l.getD j 0)) := by
  obtain ⟨b, off, e, hb, _, hc⟩ := Row.open_ h (by simpa using Nat.lt_of_le_of_lt (Nat.zero_le _) hk)
  refine ⟨b, off, e, hb, fun j hj => ?_⟩
  have := hc j (iv l[j]) (by simp [hj])
  simpa [iv, List.getD, hj] using this
theorem Ints.len (h : Ints w M A l) : l.length ≤ 9223372036854775807 := by simpa using Row.len h
theorem Ints.go (h : Ints w M A l) (hb : Below w.heap.size w w') : Ints w' M A l := Row.go h hb
theorem Ints.chg (h : Ints w M A l) (hb : Chg M w w') : Ints w' M A l := Row.chg h hb
end

def rootV (r : Sp.Root) : List Value := [.int .i64 r.page, .int .i64 r.count, .int .i64 r.flags]
def itemV (x : Sp.Item) (V : Option Addr) (c : Nat) : List Value :=
  [.string ⟨x.key.toArray⟩, .int .i64 x.kind, .string ⟨x.val.toArray⟩, .int .i64 x.run, .int .i64 x.len, .slice V x.vals.length c, .int .i64 x.dup, .int .i64 x.root.page, .int .i64 x.root.count, .int .i64 x.root.flags]

structure ItemAt (w : World) (b o : Nat) (x : Sp.Item) (V : Option Addr) (c : Nat) : Prop where
  c0 : w.cell? ⟨b, o, none⟩ = some (.string ⟨x.key.toArray⟩)
  c1 : w.cell? ⟨b, o + 1, none⟩ = some (.int .i64 x.kind)
  c2 : w.cell? ⟨b, o + 2, none⟩ = some (.string ⟨x.val.toArray⟩)
  c3 : w.cell? ⟨b, o + 3, none⟩ = some (.int .i64 x.run)
  c4 : w.cell? ⟨b, o + 4, none⟩ = some (.int .i64 x.len)
  c5 : w.cell? ⟨b, o + 5, none⟩ = some (.slice V x.vals.length c)
  c6 : w.cell? ⟨b, o + 6, none⟩ = some (.int .i64 x.dup)
  c7 : w.cell? ⟨b, o + 7, none⟩ = some (.int .i64 x.root.page)
  c8 : w.cell? ⟨b, o + 8, none⟩ = some (.int .i64 x.root.count)
  c9 : w.cell? ⟨b, o + 9, none⟩ = some (.int .i64 x.root.flags)
theorem ItemAt.keep {w w' : World} {b o : Nat} {x : Sp.Item} {V : Option Addr} {c : Nat} (h : ItemAt w b o x V c) (hk : ∀ j, w'.cell? ⟨b, j, none⟩ = w.cell? ⟨b, j, none⟩) : ItemAt w' b o x V c :=
  ⟨(hk _).trans h.c0, (hk _).trans h.c1, (hk _).trans h.c2, (hk _).trans h.c3, (hk _).trans h.c4, (hk _).trans h.c5, (hk _).trans h.c6, (hk _).trans h.c7, (hk _).trans h.c8, (hk _).trans h.c9⟩
def Items (w : World) (M : Nat → Prop) (A : Option Addr) (l : List Sp.Item) : Prop :=
  l.length ≤ 288230376151711744 ∧ (l = [] ∨ ∃ b off, A = some ⟨b, off, none⟩ ∧ b < w.heap.size ∧ ¬ M b ∧ ∀ k, k < l.length → ∃ V c, ItemAt w b (off + k * 10) (l.getD k Sp.item0) V c ∧ Txts w M V (l.getD k Sp.item0).vals)
section
variable {w w' : World} {M : Nat → Prop} {A : Option Addr} {l : List Sp.Item}
theorem Items.len (h : Items w M A l) : l.length ≤ 288230376151711744 := h.1
theorem Items.nil_ : Items w M A [] := ⟨by simp, .inl rfl⟩
theorem Items.at_ (h : Items w M A l) {k : Nat} (hk : k < l.length) :
    ∃ b off, A = some ⟨b, off, none⟩ ∧ b < w.heap.size ∧ ∀ k, k < l.length → ∃ V c, ItemAt w b (off + k * 10) (l.getD k Sp.item0) V c ∧ Txts w M V (l.getD k Sp.item0).vals := by
  rcases h.2 with rfl | ⟨b, off, e, hb, _, hc⟩
  · simp at hk
  · exact ⟨b, off, e, hb, hc⟩
theorem Items.chg (h : Items w M A l) (hk : Chg M w w') : Items w' M A l := by
  refine ⟨h.1, ?_⟩
  rcases h.2 with h | ⟨b, off, e, hb, hm, hc⟩
  · exact .inl h
  · refine .inr ⟨b, off, e, Nat.lt_of_lt_of_le hb hk.size, hm, fun k hkl => ?_⟩
    obtain ⟨V, c, hi, ht⟩ := hc k hkl
    exact ⟨V, c, hi.keep fun j => hk.cell hb hm, ht.chg hk⟩
theorem Items.go (h : Items w M A l) (hb : Below w.heap.size w w') : Items w' M A l := h.chg (.of_below hb)
end
end Go.Proofs.YtlpmjeiogdlifaaGreat
namespace Go.Proofs.YtlpmjeiogdlifaaGreat
open Go.RowKit
namespace Sp
def branchAt (keys : List Txt) (kids : List Int) (i : Nat) : Bool :=
  isID (kids.getD i 0) && (decide (i = 0) || (short (keys.getD i []) && lt (keys.getD (i - 1) []) (keys.getD i [])))
theorem branchAt_def (keys : List Txt) (kids : List Int) (i : Nat) : branchAt keys kids i = (isID (kids.getD i 0) && (decide (i = 0) || (short (keys.getD i []) && lt (keys.getD (i - 1) []) (keys.getD i [])))) := rfl
def isBranch (p : Page) : Bool :=
  decide (2 ≤ p.kids.length) && decide (p.kids.length ≤ 4) && decide (p.keys.length = p.kids.length) && decide (p.keys.getD 0 [] = []) && allTo p.kids.length (branchAt p.keys p.kids)
theorem isBranch_def (p : Page) : isBranch p = (decide (2 ≤ p.kids.length) && decide (p.kids.length ≤ 4) && decide (p.keys.length = p.kids.length) && decide (p.keys.getD 0 [] = []) && allTo p.kids.length (branchAt p.keys p.kids)) := rfl
def idAt (l : List Int) (k : Nat) : Bool := isID (l.getD k 0) && (decide (k = 0) || decide (l.getD (k - 1) 0 < l.getD k 0))
theorem idAt_def (l : List Int) (k : Nat) : idAt l k = (isID (l.getD k 0) && (decide (k = 0) || decide (l.getD (k - 1) 0 < l.getD k 0))) := rfl
def free0 : Free := ⟨0, []⟩
def isIDs (l : List Int) : Bool := allTo l.length (idAt l)
def freeAt (l : List Free) (i : Nat) : Bool :=
  decide ((l.getD i free0).ids ≠ []) && (decide (i = 0) || decide ((l.getD (i - 1) free0).txn ≤ (l.getD i free0).txn)) && isIDs (l.getD i free0).ids
theorem freeAt_def (l : List Free) (i : Nat) : freeAt l i = (decide ((l.getD i free0).ids ≠ []) && (decide (i = 0) || decide ((l.getD (i - 1) free0).txn ≤ (l.getD i free0).txn)) && isIDs (l.getD i free0).ids) := rfl
def total (l : List Free) : Nat := (l.map fun f => f.ids.length).sum
def isFree (p : Page) : Bool := allTo p.free.length (freeAt p.free) && decide (total p.free ≤ 20) && noneOr p.next
theorem isIDs_lower {l : List Int} (h : isIDs l = true) : ∀ k, k < l.length → (k : Int) + 2 ≤ l.getD k 0
  | 0, hk => by
    have := allTo_iff.1 h 0 hk
    simp only [idAt, isID, Bool.and_eq_true, decide_eq_true_eq] at this
    omega
  | k + 1, hk => by
    have h1 := isIDs_lower h k (by omega)
    have := allTo_iff.1 h (k + 1) hk
    simp only [idAt, isID, Bool.and_eq_true, Bool.or_eq_true, decide_eq_true_eq, Nat.add_sub_cancel] at this
    omega
theorem isIDs_short {l : List Int} (h : isIDs l = true) : l.length ≤ 398 := by
  rcases Nat.lt_or_ge 398 l.length with hl | hl
  · have h1 := isIDs_lower h 398 hl
    have := allTo_iff.1 h 398 hl
    simp only [idAt, isID, Bool.and_eq_true, decide_eq_true_eq] at this
    omega
  · exact hl
theorem total_take {l : List Free} {k : Nat} (h : k < l.length) : total (l.take (k + 1)) = total (l.take k) + (l.getD k free0).ids.length := by
  unfold total
  rw [List.take_succ_eq_append_getElem h, List.map_append, List.sum_append]
  simp [List.getD, h]
theorem total_le {l : List Free} : ∀ k, k ≤ l.length → (∀ j, j < k → (l.getD j free0).ids.length ≤ 398) → total (l.take k) ≤ 398 * k
  | 0, _, _ => by simp [total]
  | k + 1, hk, h => by
    rw [total_take (by omega)]
    have h1 := total_le k (by omega) fun j hj => h j (by omega)
    have h2 := h k (by omega)
    omega
def mt0 : Mt := ⟨0, root0, 0, 0⟩
def isMt (m : Mt) : Bool := isRoot m.main && noneOr m.free && decide (2 ≤ m.last) && decide (m.last ≤ 400)
def has (p : Page) : List Bool :=
  [decide (p.items ≠ []), decide (p.keys ≠ []) || decide (p.kids ≠ []), decide (p.text ≠ []), decide (p.vals ≠ []), decide (p.free ≠ []), decide (p.next ≠ 0), decide (p.mt ≠ mt0)]
def isPage (p : Page) : Bool :=
  if p.kind = 1 then decide (has p = [true, false, false, false, false, false, false]) && isLeaf p.items
  else if p.kind = 2 then decide (has p = [false, true, false, false, false, false, false]) && isBranch p
  else if p.kind = 3 then decide (has p = [false, false, true, false, false, false, false]) && decide (p.text.length ≤ 100)
  else if p.kind = 4 then decide (has p = [false, false, false, true, false, false, false]) && isVals p.vals 4 12
  else if p.kind = 5 then decide (has p = [false, false, false, false, decide (p.free ≠ []), decide (p.next ≠ 0), false]) && isFree p
  else if p.kind = 6 then decide (has p = [false, false, false, false, false, false, decide (p.mt ≠ mt0)]) && isMt p.mt
  else false
def samePage (p q : Page) : Bool := decide (p = q)
end Sp

def Frees (w : World) (M : Nat → Prop) (A : Option Addr) (l : List Sp.Free) : Prop :=
  l.length ≤ 1152921504606846 ∧ (l = [] ∨ ∃ b off, A = some ⟨b, off, none⟩ ∧ b < w.heap.size ∧ ¬ M b ∧ ∀ k, k < l.length → ∃ V c,
    (w.cell? ⟨b, off + k * 2, none⟩ = some (.int .u64 (l.getD k Sp.free0).txn) ∧ w.cell? ⟨b, off + k * 2 + 1, none⟩ = some (.slice V (l.getD k Sp.free0).ids.length c)) ∧
    Ints w M V (l.getD k Sp.free0).ids ∧ 0 ≤ (l.getD k Sp.free0).txn ∧ (l.getD k Sp.free0).txn < 18446744073709551616)
section
variable {w w' : World} {M : Nat → Prop} {A : Option Addr} {l : List Sp.Free}
theorem Frees.len (h : Frees w M A l) : l.length ≤ 1152921504606846 := h.1
theorem Frees.nil_ : Frees w M A [] := ⟨by simp, .inl rfl⟩
theorem Frees.at_ (h : Frees w M A l) {k : Nat} (hk : k < l.length) : ∃ b off, A = some ⟨b, off, none⟩ ∧ b < w.heap.size ∧ ∀ k, k < l.length → ∃ V c,
    (w.cell? ⟨b, off + k * 2, none⟩ = some (.int .u64 (l.getD k Sp.free0).txn) ∧ w.cell? ⟨b, off + k * 2 + 1, none⟩ = some (.slice V (l.getD k Sp.free0).ids.length c)) ∧
    Ints w M V (l.getD k Sp.free0).ids ∧ 0 ≤ (l.getD k Sp.free0).txn ∧ (l.getD k Sp.free0).txn < 18446744073709551616 := by
  rcases h.2 with rfl | ⟨b, off, e, hb, _, hc⟩
  · simp at hk
  · exact ⟨b, off, e, hb, hc⟩
theorem Frees.chg (h : Frees w M A l) (hk : Chg M w w') : Frees w' M A l := by
  refine ⟨h.1, ?_⟩
  rcases h.2 with h | ⟨b, off, e, hb, hm, hc⟩
  · exact .inl h
  · refine .inr ⟨b, off, e, Nat.lt_of_lt_of_le hb hk.size, hm, fun k hkl => ?_⟩
    obtain ⟨V, c, hi, ht, hr⟩ := hc k hkl
    exact ⟨V, c, ⟨(hk.cell hb hm).trans hi.1, (hk.cell hb hm).trans hi.2⟩, ht.chg hk, hr⟩
theorem Frees.go (h : Frees w M A l) (hb : Below w.heap.size w w') : Frees w' M A l := h.chg (.of_below hb)
end
structure Refs where
  I : Option Addr
  K : Option Addr
  D : Option Addr
  V : Option Addr
  F : Option Addr
  i : Nat
  k : Nat
  d : Nat
  v : Nat
  f : Nat
def mtV (m : Sp.Mt) : List Value := [.int .u64 m.txn, .int .i64 m.main.page, .int .i64 m.main.count, .int .i64 m.main.flags, .int .i64 m.free, .int .i64 m.last]
def pageV (p : Sp.Page) (r : Refs) : List Value :=
  [.int .i64 p.kind, .slice r.I p.items.length r.i, .slice r.K p.keys.length r.k, .slice r.D p.kids.length r.d, .string ⟨p.text.toArray⟩, .slice r.V p.vals.length r.v, .slice r.F p.free.length r.f, .int .i64 p.next,
   .int .u64 p.mt.txn, .int .i64 p.mt.main.page, .int .i64 p.mt.main.count, .int .i64 p.mt.main.flags, .int .i64 p.mt.free, .int .i64 p.mt.last]
structure PageRd (w : World) (M : Nat → Prop) (p : Sp.Page) (r : Refs) : Prop where
  items : Items w M r.I p.items
  keys : Txts w M r.K p.keys
  kids : Ints w M r.D p.kids
  vals : Txts w M r.V p.vals
  free : Frees w M r.F p.free
  txn : 0 ≤ p.mt.txn ∧ p.mt.txn < 18446744073709551616
theorem PageRd.chg {w w' : World} {M : Nat → Prop} {p : Sp.Page} {r : Refs} (h : PageRd w M p r) (hk : Chg M w w') : PageRd w' M p r :=
  ⟨h.items.chg hk, h.keys.chg hk, h.kids.chg hk, h.vals.chg hk, h.free.chg hk, h.txn⟩
theorem PageRd.go {w w' : World} {M : Nat → Prop} {p : Sp.Page} {r : Refs} (h : PageRd w M p r) (hb : Below w.heap.size w w') : PageRd w' M p r := h.chg (.of_below hb)
end Go.Proofs.YtlpmjeiogdlifaaGreat
namespace Go.Proofs.YtlpmjeiogdlifaaGreat
open Go.RowKit
attribute [local go_sem low] mk_extract
attribute [local go_sem] After.cell After.frozen mk_extract_end ByteArray.mk_append_mk
theorem conv8 (w : World) (x0 x1 x2 x3 x4 x5 x6 x7 : Int) : (convert 22 9 (.slice (some ⟨w.heap.size, 0, none⟩) 8 8)).run Tryz.prog (w.alloc (.cells #[.int .u8 x0, .int .u8 x1, .int .u8 x2, .int .u8 x3, .int .u8 x4, .int .u8 x5, .int .u8 x6, .int .u8 x7] 5)) =
    .ok (.string ⟨[UInt8.ofNat x0.toNat, UInt8.ofNat x1.toNat, UInt8.ofNat x2.toNat, UInt8.ofNat x3.toNat, UInt8.ofNat x4.toNat, UInt8.ofNat x5.toNat, UInt8.ofNat x6.toNat, UInt8.ofNat x7.toNat].toArray⟩) (w.alloc (.cells #[.int .u8 x0, .int .u8 x1, .int .u8 x2, .int .u8 x3, .int .u8 x4, .int .u8 x5, .int .u8 x6, .int .u8 x7] 5)) :=
  run_convert_bytes_arg (P := Tryz.prog) _ 22 5 Tryz.underlying22 Tryz.underlying5 w.heap.size 0 8 8 [x0, x1, x2, x3, x4, x5, x6, x7] rfl (by
      intro i hi
      have h : i = 0 ∨ i = 1 ∨ i = 2 ∨ i = 3 ∨ i = 4 ∨ i = 5 ∨ i = 6 ∨ i = 7 := by omega
      rcases h with rfl | rfl | rfl | rfl | rfl | rfl | rfl | rfl <;> simp [go_sem]) 9 Tryz.underlying9
theorem conv2 (w : World) (x0 x1 : Int) : (convert 22 9 (.slice (some ⟨w.heap.size, 0, none⟩) 2 2)).run Tryz.prog (w.alloc (.cells #[.int .u8 x0, .int .u8 x1] 5)) =
    .ok (.string ⟨[UInt8.ofNat x0.toNat, UInt8.ofNat x1.toNat].toArray⟩) (w.alloc (.cells #[.int .u8 x0, .int .u8 x1] 5)) :=
  run_convert_bytes_arg (P := Tryz.prog) _ 22 5 Tryz.underlying22 Tryz.underlying5 w.heap.size 0 2 2 [x0, x1] rfl (by
      intro i hi
      have h : i = 0 ∨ i = 1 := by omega
      rcases h with rfl | rfl <;> simp [go_sem]) 9 Tryz.underlying9
set_option maxRecDepth 100000 in
set_option maxHeartbeats 400000 in
theorem packNum_any (n : Int) (h0 : 0 ≤ n) (h1 : n < 18446744073709551616) (w : World) :
    Calls Tryz.prog 184 #[.int .u64 n] w fun e w' => e = .returned (.string ⟨(Sp.le8 n).toArray⟩) ∧ Below w.heap.size w w' := by
  have hmk : ∀ w, (Instr.makeSlice 22 (.int .i64 8) (.int .i64 8)).run Tryz.prog w = .ok (.slice (some ⟨w.heap.size, 0, none⟩) 8 8) (w.alloc (.cells #[.int .u8 0, .int .u8 0, .int .u8 0, .int .u8 0, .int .u8 0, .int .u8 0, .int .u8 0, .int .u8 0] 5)) := fun _ => by kernel_rfl
  have hcv := conv8
  go_enter Tryz.func184, Tryz.ntmps184
  go_wp2
  go_rounds 9
  go_ret
  refine ⟨?_, (Below.refl _ _).alloc (Nat.le_refl _) _⟩
  refine congrArg (fun s => Ending.returned (.string s)) ?_
  have h7 : n / 256 / 256 / 256 / 256 / 256 / 256 / 256 % 256 = n / 256 / 256 / 256 / 256 / 256 / 256 / 256 := by omega
  simp [Sp.le8, Sp.leN, h7]
set_option maxRecDepth 100000 in
set_option maxHeartbeats 400000 in
theorem packText_any (s : Txt) (w : World) :
    Calls Tryz.prog 224 #[.string ⟨s.toArray⟩] w fun e w' => e = .returned (.string ⟨(Sp.text s).toArray⟩) ∧ Below w.heap.size w w' := by
  have hcv := conv2
  go_enter Tryz.func224, Tryz.ntmps224
  go_wp2
  all_goals
    go_ret
    refine ⟨?_, (Below.refl _ _).alloc (Nat.le_refl _) _⟩
    refine congrArg (fun s => Ending.returned (.string s)) ?_
    simp only [Sp.text, Sp.cutText]
    first
      | (rw [List.take_of_length_le (by omega)]; rw [Sp.leN2 _ (by omega)]; rfl)
      | (rw [Sp.leN2 _ (by simp; omega)]; simp)
set_option maxRecDepth 100000 in
set_option maxHeartbeats 400000 in
theorem packSum_any (s : Txt) (w : World) (hs : s.length ≤ 4611686018427387904) :
    Calls Tryz.prog 185 #[.string ⟨s.toArray⟩] w fun e w' => e = .returned (.int .u64 (Sp.sum s)) ∧ w = w' := by
  go_enter Tryz.func185, Tryz.ntmps185
  go_wp2
  go_step3
  go_wp2
  go_step3
  go_wp2
  refine wp_loop_rounds 1 ?_
  rw [rounds_succ]
  go_wp2
  go_loop [3, 7] (fun n i => ∃ k : Nat, k ≤ s.length ∧ i = .int .i64 k ∧ n = .int .u64 (Sp.sum (s.take k))) (fun _ i => s.length - (intOf i).toNat)
  case atStart => exact ⟨0, Nat.zero_le _, rfl, rfl⟩
  case round =>
    obtain ⟨k, hk, rfl, rfl⟩ := hrel
    by_cases hlt : k < s.length
    · have hm := Sp.sum_range (s.take k)
      have HS := Lib.hid (Sp.sum_succ s k hlt)
      generalize Sp.sum (s.take k) = m at *
      go_wp2
      refine ⟨⟨k + 1, by omega, by go_num, ?_⟩, by simp [intOf]; omega⟩
      rw [HS.out]
      rfl
    · have hkl : k = s.length := by omega
      go_wp2
      try rw [Exit.noGoto_ret]
      go_ret
      exact ⟨rfl, rfl⟩
end Go.Proofs.YtlpmjeiogdlifaaGreat
