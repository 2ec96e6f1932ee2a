/- A tree walked: tree.walk, with any function that is told each page. Rows of the call's own that grow beside a store: nothing appended, blocks that are new. All items of a tree: tree.List. All items of a tree: tree.List. The leaf in which a key is: find.leaf over a tree in a store. Turned out of Jc by un/vl.py. -/
import Derived.Test.YtlpmjeiogdlifaaGreatQB08
import Derived.Test.YtlpmjeiogdlifaaGreatQB21
import Derived.Test.YtlpmjeiogdlifaaGreatQB23
import Derived.Laws.AppendOwn
import Derived.Laws.AppendOwnNone
set_option linter.unusedSimpArgs false
set_option linter.unusedVariables false
namespace Go.Proofs.YtlpmjeiogdlifaaGreat
open Go.RowKit
attribute [local go_sem low] mk_extract
attribute [local go_sem] After.cell After.frozen mk_extract_end ByteArray.mk_append_mk
namespace Sp
section
variable {rd : Int → Page × Option Int} {n : Nat} {id : Int} {p : Page} {e : Int}
theorem walkI_nil : walkI rd n 0 = ([], none) := by cases n <;> simp [walkI]
theorem walkI_err (h0 : id ≠ 0) (h : rd id = (p, some e)) : walkI rd n id = ([], some e) := by
  cases n <;> simp [walkI, h0, h]
theorem walkI_deep (h0 : id ≠ 0) (h : rd id = (p, none)) : walkI rd 0 id = ([], some 12) := by simp [walkI, h0, h]
theorem walkI_kind (h0 : id ≠ 0) (h : rd id = (p, none)) (hk : p.kind ≠ 1 ∧ p.kind ≠ 2) : walkI rd (n + 1) id = ([], some 12) := by
  simp [walkI, h0, h, hk.1, hk.2]
theorem walkI_go (h0 : id ≠ 0) (h : rd id = (p, none)) (hk : p.kind = 1 ∨ p.kind = 2) : walkI rd (n + 1) id = ((id, p) :: (kidsI (walkI rd n) p.kids).1, (kidsI (walkI rd n) p.kids).2) := by
  have : ¬ (p.kind ≠ 1 ∧ p.kind ≠ 2) := by omega
  unfold walkI
  rw [if_neg h0, h]
  dsimp only
  rw [if_neg this]
end
def capW : Nat → Nat
  | 0 => 0
  | n + 1 => 1 + 4 * capW n
theorem kidsI_len {f : Int → List (Int × Page) × Option Int} {c : Nat} (h : ∀ k, (f k).1.length ≤ c) : ∀ ks : List Int, (kidsI f ks).1.length ≤ ks.length * c
  | [] => Nat.zero_le _
  | k :: ks => by
    have h1 := h k
    have h2 := kidsI_len h ks
    rw [kidsI_cons, List.length_cons, Nat.succ_mul]
    rcases hk : f k with ⟨l, _ | e⟩
    · rw [hk] at h1
      dsimp only at h1 ⊢
      rw [List.length_append]
      omega
    · rw [hk] at h1
      dsimp only at h1 ⊢
      omega
theorem walkI_len {rd : Int → Page × Option Int} (hkd : ∀ i p, rd i = (p, none) → p.kids.length ≤ 4) : ∀ (n : Nat) (id : Int), (walkI rd n id).1.length ≤ capW n
  | 0, id => by
    by_cases h0 : id = 0
    · rw [h0, walkI_nil]; exact Nat.zero_le _
    · rcases h : rd id with ⟨p, _ | e⟩
      · rw [walkI_deep h0 h]; exact Nat.zero_le _
      · rw [walkI_err h0 h]; exact Nat.zero_le _
  | n + 1, id => by
    by_cases h0 : id = 0
    · rw [h0, walkI_nil]; exact Nat.zero_le _
    · rcases h : rd id with ⟨p, _ | e⟩
      · by_cases hk : p.kind = 1 ∨ p.kind = 2
        · rw [walkI_go h0 h hk]
          have h1 := kidsI_len (fun k => walkI_len hkd n k) p.kids
          have h2 := hkd id p h
          have h3 : p.kids.length * capW n ≤ 4 * capW n := Nat.mul_le_mul_right _ h2
          show (kidsI (walkI rd n) p.kids).1.length + 1 ≤ 1 + 4 * capW n
          omega
        · rw [walkI_kind h0 h (by omega)]; exact Nat.zero_le _
      · rw [walkI_err h0 h]; exact Nat.zero_le _
end Sp
structure Walker (t f m d : Nat) (fv : Value) (V : List Txt) (s : Sp.Sto) (fn bx : Nat) {A : Type} (I : A → List (Int × Sp.Page) → World → Prop) (O : A → Nat → Prop) : Prop where
  go : ∀ a L W W', I a L W → Below W.heap.size W W' → I a L W'
  st : ∀ a L W, I a L W → ∃ M, StAt W M t f m d fv V s
  lt : ∀ a L W, I a L W → ∀ k, O a k → k < W.heap.size
  cb : ∀ a L W id deep p r, I a L W → PageRd W (O a) p r → (∃ i, s.read V i = (p, none)) → L.length < 30000 → Calls Tryz.prog fn #[.int .i64 id, .int .i64 deep, .agg (pageV p r).toArray, .pointer (some ⟨bx, 0, none⟩)] W fun e W' =>
    ∃ a', e = .returned (.bool true) ∧ I a' (L ++ [(id, p)]) W' ∧ Chg (O a) W W' ∧ ∀ k, O a' k → O a k ∨ W.heap.size ≤ k
def Walked (V : List Txt) (s : Sp.Sto) {A : Type} (I : A → List (Int × Sp.Page) → World → Prop) (O : A → Nat → Prop) (a : A) (L : List (Int × Sp.Page)) (w : World) (n : Nat) (id : Int) (e : Ending) (w' : World) : Prop :=
  ∃ a', e = .returned (erO (Sp.walkI (s.read V) n id).2) ∧ I a' (L ++ (Sp.walkI (s.read V) n id).1) w' ∧ Chg (O a) w w' ∧ ∀ k, O a' k → O a k ∨ w.heap.size ≤ k
structure WpS {A : Type} (I : A → List (Int × Sp.Page) → World → Prop) (O : A → Nat → Prop) (a : A) (L : List (Int × Sp.Page)) (w : World) (b : Nat) (p : Sp.Page) (r : Refs) (W : World) : Prop where
  i : I a L W
  rd : PageRd W (O a) p r
  bp : Blk W b PageT (pageV p r).toArray
  hb : Below w.heap.size w W
  hn : w.heap.size ≤ b
  lt : ∀ k, O a k → k < w.heap.size
structure WkS {A : Type} (I : A → List (Int × Sp.Page) → World → Prop) (O : A → Nat → Prop) (a a' : A) (L : List (Int × Sp.Page)) (w : World) (D : Option Addr) (kids : List Int) (W : World) : Prop where
  i : I a' L W
  ks : Ints W (O a') D kids
  ck : Chg (O a) w W
  ou : ∀ k, O a' k → O a k ∨ w.heap.size ≤ k
theorem Chg.trans' {S T : Nat → Prop} {a b c : World} (h : Chg S a b) (k : Chg T b c) (hT : ∀ i, T i → S i ∨ a.heap.size ≤ i) : Chg S a c :=
  Chg.step k hT h
theorem ints_on {w w' : World} {D : Option Addr} {l : List Int} {M M' : Nat → Prop} (h : Ints w M D l) (hk : Chg M w w') (ho : ∀ k, M' k → M k ∨ w.heap.size ≤ k) : Ints w' M' D l :=
  ((Row.wide h).chg (hk.mono fun _ _ h => .inl h)).anti ho
section
variable {t f m d : Nat} {fv : Value} {V : List Txt} {s : Sp.Sto} {fn bx : Nat} {A : Type} {I : A → List (Int × Sp.Page) → World → Prop} {O : A → Nat → Prop}
set_option maxRecDepth 100000 in
set_option maxHeartbeats 3200000 in
theorem walk_any (hw : Walker t f m d fv V s fn bx I O) (hcf : ∀ args w, (callFunc fn args).run Tryz.prog w = .ok (.enter fn args) w) (hok : s.Ok) (hV : V.length ≤ 400) (hkd : ∀ i p, s.read V i = (p, none) → p.kids.length ≤ 4) :
    ∀ (n : Nat) (id deep : Int) (a : A) (L : List (Int × Sp.Page)) (w : World), I a L w → deep + n = 9 → 1 ≤ deep → L.length + Sp.capW n ≤ 30000 →
      Calls Tryz.prog 47 #[.pointer (some ⟨t, 0, none⟩), .int .i64 id, .int .i64 deep, .func (.func fn) #[] #[.pointer (some ⟨bx, 0, none⟩)]] w fun e w' => Walked V s I O a L w n id e w' := by
  intro n
  induction n with
  | zero =>
    intro id deep a L w hi hd h1 hL
    have HI := Lib.hid hi
    have hd9 : deep = 9 := by omega
    subst hd9
    clear hi hd h1
    by_cases h0 : id = 0
    · subst h0
      go_enter Tryz.func47, Tryz.ntmps47
      go_wp2_with fail
      go_ret
      exact ⟨a, by rw [Sp.walkI_nil]; rfl, by rw [Sp.walkI_nil, List.append_nil]; exact HI.out, Chg.refl _ _, fun k h => .inl h⟩
    have hne : (id == 0) = false := beq_eq_false_iff_ne.2 h0
    obtain ⟨M, hst⟩ := hw.st a L w HI.out
    have HRD := Lib.hid (stoRead_any M t f m d fv V s id w hst hok hV)
    clear hst
    generalize hrd : s.read V id = rd at *
    obtain ⟨p, er⟩ := rd
    rcases er with _ | e
    · have HWK := Lib.hid (Sp.walkI_deep h0 hrd)
      clear hrd
      go_enter Tryz.func47, Tryz.ntmps47
      go_upto_region 4 with (first
        | (go_at_call 28; refine HRD.out.mono ?_; rintro e w2 ⟨r, rfl, hr, hb2⟩; have HB2 := Lib.hid hb2; clear hr hb2; rw [pv14 p r]; simp only [erO])
        | (refine wpList_new PageT _ _ rfl rfl rfl rfl rfl rfl _ rfl (of_decide_eq_true (by kernel_rfl)) (by kernel_rfl) (by kernel_rfl) (by kernel_rfl) ?_))
      go_wp2_with fail
      go_ret
      have hal := HB2.out.alloc HB2.out.size (.cells #[.int .i64 p.kind, .slice r.I p.items.length r.i, .slice r.K p.keys.length r.k, .slice r.D p.kids.length r.d, .string ⟨p.text.toArray⟩, .slice r.V p.vals.length r.v, .slice r.F p.free.length r.f, .int .i64 p.next, .int .u64 p.mt.txn, .int .i64 p.mt.main.page, .int .i64 p.mt.main.count, .int .i64 p.mt.main.flags, .int .i64 p.mt.free, .int .i64 p.mt.last] PageT)
      exact ⟨a, by rw [HWK.out]; rfl, by rw [HWK.out, List.append_nil]; exact hw.go _ _ _ _ HI.out hal, Chg.of_below hal, fun k h => .inl h⟩
    · have HWK := Lib.hid (Sp.walkI_err (n := 0) h0 hrd)
      clear hrd
      go_enter Tryz.func47, Tryz.ntmps47
      go_upto_region 4 with (first
        | (go_at_call 28; refine HRD.out.mono ?_; rintro e w2 ⟨r, rfl, hr, hb2⟩; have HB2 := Lib.hid hb2; clear hr hb2; rw [pv14 p r]; simp only [erO])
        | (refine wpList_new PageT _ _ rfl rfl rfl rfl rfl rfl _ rfl (of_decide_eq_true (by kernel_rfl)) (by kernel_rfl) (by kernel_rfl) (by kernel_rfl) ?_))
      go_wp2_with fail
      go_ret
      have hal := HB2.out.alloc HB2.out.size (.cells #[.int .i64 p.kind, .slice r.I p.items.length r.i, .slice r.K p.keys.length r.k, .slice r.D p.kids.length r.d, .string ⟨p.text.toArray⟩, .slice r.V p.vals.length r.v, .slice r.F p.free.length r.f, .int .i64 p.next, .int .u64 p.mt.txn, .int .i64 p.mt.main.page, .int .i64 p.mt.main.count, .int .i64 p.mt.main.flags, .int .i64 p.mt.free, .int .i64 p.mt.last] PageT)
      exact ⟨a, by rw [HWK.out]; rfl, by rw [HWK.out, List.append_nil]; exact hw.go _ _ _ _ HI.out hal, Chg.of_below hal, fun k h => .inl h⟩
  | succ n ih =>
    intro id deep a L w hi hd h1 hL
    have HI := Lib.hid hi
    have hL2 : L.length + (1 + 4 * Sp.capW n) ≤ 30000 := hL
    have hd8 : ¬ 8 < deep := by omega
    have hwr : IntKind.i64.wrap (deep + 1) = deep + 1 := by rw [IntKind.wrap_i64]; omega
    clear hi
    by_cases h0 : id = 0
    · subst h0
      go_enter Tryz.func47, Tryz.ntmps47
      go_wp2_with fail
      go_ret
      exact ⟨a, by rw [Sp.walkI_nil]; rfl, by rw [Sp.walkI_nil, List.append_nil]; exact HI.out, Chg.refl _ _, fun k h => .inl h⟩
    have hne : (id == 0) = false := beq_eq_false_iff_ne.2 h0
    obtain ⟨M, hst⟩ := hw.st a L w HI.out
    have HRD := Lib.hid (stoRead_any M t f m d fv V s id w hst hok hV)
    clear hst
    have IH := Lib.hid ih
    clear ih
    generalize hrd : s.read V id = rd at *
    obtain ⟨p, er⟩ := rd
    rcases er with _ | e
    · have HRX := Lib.hid (show ∃ i, s.read V i = (p, none) from ⟨id, hrd⟩)
      have hk4 := hkd id p hrd
      have HWL := Lib.hid (fun k => Sp.walkI_len hkd n k)
      have HWK := Lib.hid (fun hk => Sp.walkI_kind (n := n) h0 hrd hk)
      have HWG := Lib.hid (fun hk => Sp.walkI_go (n := n) h0 hrd hk)
      clear hrd
      go_enter Tryz.func47, Tryz.ntmps47
      go_upto_region 4 with (first
        | (go_at_call 28; refine HRD.out.mono ?_; rintro e w2 ⟨r, rfl, hr, hb2⟩; have HB2 := Lib.hid hb2; have HR2 := Lib.hid hr; clear hr hb2; rw [pv14 p r]; simp only [erO])
        | (refine wpList_new PageT _ _ rfl rfl rfl rfl rfl rfl _ rfl (of_decide_eq_true (by kernel_rfl)) (by kernel_rfl) (by kernel_rfl) (by kernel_rfl) ?_))
      have hlt := hw.lt a L w HI.out
      refine wp_gen (fun W => WpS I O a L w w2.heap.size p r W) ⟨hw.go _ _ _ _ HI.out (HB2.out.alloc HB2.out.size _), (HR2.out.anti fun k hk => hlt k hk).go ((Below.refl _ _).alloc (Nat.le_refl _) _), Blk.new _ _ _, HB2.out.alloc HB2.out.size _, HB2.out.size, hlt⟩ ?_
      generalize w2.heap.size = b9
      intro w3 hp3
      have P3 := Lib.hid hp3
      have HCB := Lib.hid (fun dp => hw.cb a L w3 id dp p r hp3.i hp3.rd HRX.out (by omega))
      clear hp3 HB2 HR2 hlt HRD HI
      have c0 : w3.cell? ⟨b9, 0, none⟩ = some (.int .i64 p.kind) := P3.out.bp.cell 0
      by_cases hk : p.kind = 1 ∨ p.kind = 2
      · replace HWG := Lib.hid (HWG.out hk)
        have HBP := Lib.hid (show Blk w3 b9 PageT #[.int .i64 p.kind, .slice r.I p.items.length r.i, .slice r.K p.keys.length r.k, .slice r.D p.kids.length r.d, .string ⟨p.text.toArray⟩, .slice r.V p.vals.length r.v, .slice r.F p.free.length r.f, .int .i64 p.next, .int .u64 p.mt.txn, .int .i64 p.mt.main.page, .int .i64 p.mt.main.count, .int .i64 p.mt.main.flags, .int .i64 p.mt.free, .int .i64 p.mt.last] from P3.out.bp)
        clear HWK
        go_upto_region 6 with fail
        go_cut [36] (fun q W => q = .bool false ∧ W = w3)
        case first =>
          rcases hk with hk | hk
          · rw [hk] at c0
            go_wp2_with fail
            go_meet
            case rel => exact ⟨rfl, rfl⟩
          · rw [hk] at c0
            go_wp2_with fail
            go_meet
            case rel => exact ⟨rfl, rfl⟩
        case rest =>
          obtain ⟨rfl, rfl⟩ := hcut
          clear hk c0
          go_upto_region 10 with (first
            | (refine wpList_row PageT _ rfl b9 rfl rfl PageT _ (0, 0) _ HBP.out Tryz.underlying59 rfl (by kernel_rfl) ?_)
            | (refine (HCB.out deep).mono ?_; rintro e w4 ⟨a1, rfl, hi1, hk1, ho1⟩; have HI1 := Lib.hid hi1; have HK1 := Lib.hid hk1; have HO1 := Lib.hid ho1; clear hi1 hk1 ho1))
          have hb3 := P3.out.hb
          have S4 := Lib.hid (show WkS I O a a1 (L ++ [(id, p)]) w r.D p.kids w4 from ⟨HI1.out, ints_on P3.out.rd.kids HK1.out HO1.out, (Chg.of_below hb3).trans HK1.out, fun k hk => by
            rcases HO1.out k hk with h | h
            · exact .inl h
            · exact .inr (Nat.le_trans hb3.size h)⟩)
          have c3 : w4.cell? ⟨b9, 3, none⟩ = some (.slice r.D p.kids.length r.d) := (HK1.out.cell (k := b9) (o := 3) P3.out.bp.lt (fun h => by have := P3.out.lt b9 h; have := P3.out.hn; omega)).trans (HBP.out.cell 3)
          have hkl := P3.out.rd.kids.len
          clear HI1 HK1 HO1 HBP HCB P3 hb3
          generalize r.D = D at *
          go_wp2_with fail
          go_loopw [47] (fun iv wr => ∃ (j : Nat) (a' : A) (K : List (Int × Sp.Page)), iv = .int .i64 (j : Int) ∧ j ≤ p.kids.length ∧ K.length ≤ j * Sp.capW n ∧ Hid (Sp.kidsI (Sp.walkI (s.read V) n) (p.kids.take j) = (K, none)) ∧ Hid (WkS I O a a' (L ++ (id, p) :: K) w D p.kids wr)) (fun iv _ => p.kids.length - (intOf iv).toNat)
          case atStart => exact ⟨0, a1, [], rfl, Nat.zero_le _, Nat.zero_le _, Lib.hid rfl, S4⟩
          case round =>
            obtain ⟨j, a', K, rfl, hj, hKl, HK, S⟩ := hrel
            clear S4
            by_cases hjl : j < p.kids.length
            · obtain ⟨kb, ko, rfl, hkb, hkc⟩ := S.out.ks.at_ hjl
              have hcell := hkc j hjl
              have HJ := Lib.hid (IH.out (p.kids.getD j 0) (deep + 1) a' (L ++ (id, p) :: K) wr S.out.i (by omega) (by omega) (by
                have h3 : j * Sp.capW n ≤ 3 * Sp.capW n := Nat.mul_le_mul_right _ (by omega)
                rw [List.length_append, List.length_cons]
                omega))
              have hl2 := HWL.out (p.kids.getD j 0)
              clear hkc
              rcases hwk : Sp.walkI (s.read V) n (p.kids.getD j 0) with ⟨l, _ | e⟩
              · have HKT := Lib.hid (Sp.kidsI_take hjl HK.out hwk)
                rw [hwk] at hl2
                have hl3 : l.length ≤ Sp.capW n := hl2
                unfold Walked at HJ
                rw [hwk] at HJ
                clear hwk
                generalize p.kids.getD j 0 = kid at *
                go_wp2_with (go_at_call 47; refine HJ.out.mono ?_; rintro e w5 ⟨a2, rfl, hi2, hk2, ho2⟩; have HI2 := Lib.hid hi2; have HK2 := Lib.hid hk2; have HO2 := Lib.hid ho2; clear hi2 hk2 ho2; simp only [erO])
                go_roundw
                case rel =>
                  refine ⟨j + 1, a2, K ++ l, by go_num, by omega, by rw [List.length_append, Nat.succ_mul]; omega, HKT, Lib.hid ⟨?_, ints_on S.out.ks HK2.out HO2.out, ?_, fun k hk => ?_⟩⟩
                  · have := HI2.out
                    rwa [List.append_assoc, List.cons_append] at this
                  · refine S.out.ck.trans' HK2.out fun k hk => S.out.ou k hk
                  · rcases HO2.out k hk with h | h
                    · exact S.out.ou k h
                    · exact .inr (Nat.le_trans S.out.ck.size h)
                case measure => simp [intOf]; omega
              · have HKS := Lib.hid (Sp.kidsI_stop hjl HK.out hwk)
                unfold Walked at HJ
                rw [hwk] at HJ
                clear hwk
                generalize p.kids.getD j 0 = kid at *
                go_wp2_with (go_at_call 47; refine HJ.out.mono ?_; rintro e w5 ⟨a2, rfl, hi2, hk2, ho2⟩; have HI2 := Lib.hid hi2; have HK2 := Lib.hid hk2; have HO2 := Lib.hid ho2; clear hi2 hk2 ho2; simp only [erO])
                go_ret
                refine ⟨a2, by rw [HWG.out, HKS.out]; rfl, ?_, S.out.ck.trans' HK2.out fun k hk => S.out.ou k hk, fun k hk => ?_⟩
                · rw [HWG.out, HKS.out]
                  have := HI2.out
                  rwa [List.append_assoc, List.cons_append] at this
                · rcases HO2.out k hk with h | h
                  · exact S.out.ou k h
                  · exact .inr (Nat.le_trans S.out.ck.size h)
            · obtain rfl : j = p.kids.length := by omega
              have HKE := HK.out
              rw [List.take_length] at HKE
              go_wp2_with fail
              go_ret
              exact ⟨a', by rw [HWG.out, HKE]; rfl, by rw [HWG.out, HKE]; exact S.out.i, S.out.ck, S.out.ou⟩
      · have hk1 : ¬ p.kind = 1 := fun h => hk (.inl h)
        have hk2 : ¬ p.kind = 2 := fun h => hk (.inr h)
        have e1 : (p.kind != 1) = true := bne_iff_ne.2 hk1
        have e2 : (p.kind != 2) = true := bne_iff_ne.2 hk2
        replace HWK := Lib.hid (HWK.out ⟨hk1, hk2⟩)
        go_wp2_with fail
        go_ret
        exact ⟨a, by rw [HWK.out]; rfl, by rw [HWK.out, List.append_nil]; exact P3.out.i, Chg.of_below P3.out.hb, fun k h => .inl h⟩
    · have HWK := Lib.hid (Sp.walkI_err (n := n + 1) h0 hrd)
      clear hrd
      go_enter Tryz.func47, Tryz.ntmps47
      go_upto_region 4 with (first
        | (go_at_call 28; refine HRD.out.mono ?_; rintro e w2 ⟨r, rfl, hr, hb2⟩; have HB2 := Lib.hid hb2; clear hr hb2; rw [pv14 p r]; simp only [erO])
        | (refine wpList_new PageT _ _ rfl rfl rfl rfl rfl rfl _ rfl (of_decide_eq_true (by kernel_rfl)) (by kernel_rfl) (by kernel_rfl) (by kernel_rfl) ?_))
      go_wp2_with fail
      go_ret
      have hal := HB2.out.alloc HB2.out.size (.cells #[.int .i64 p.kind, .slice r.I p.items.length r.i, .slice r.K p.keys.length r.k, .slice r.D p.kids.length r.d, .string ⟨p.text.toArray⟩, .slice r.V p.vals.length r.v, .slice r.F p.free.length r.f, .int .i64 p.next, .int .u64 p.mt.txn, .int .i64 p.mt.main.page, .int .i64 p.mt.main.count, .int .i64 p.mt.main.flags, .int .i64 p.mt.free, .int .i64 p.mt.last] PageT)
      exact ⟨a, by rw [HWK.out]; rfl, by rw [HWK.out, List.append_nil]; exact hw.go _ _ _ _ HI.out hal, Chg.of_below hal, fun k h => .inl h⟩
end
end Go.Proofs.YtlpmjeiogdlifaaGreat
namespace Go.Proofs.YtlpmjeiogdlifaaGreat
open Go.RowKit
attribute [local go_sem low] mk_extract
attribute [local go_sem] After.cell After.frozen mk_extract_end ByteArray.mk_append_mk
section
variable {P : Program} {w : World} {base : Nat} {e : TypeId} {size : Nat}
theorem run_append_zeroV (t ty e : TypeId) (i : TypeInfo) (ht : P.underlying t = some (.slice e)) (hi : P.info? e = some i) (v : Value) (n : Nat) (xs : List Value) (hown : w.ownsRow base e size v n xs) (A : Option Addr) (c : Nat) :
    (Builtin.append_ #[t, t] ty #[v, .slice A 0 c]).run P w = .ok v w := by
  have hf : (Builtin.firstCells i.size 0 (.slice A 0 c)).run P w = .ok #[] w := by
    cases A with
    | none => exact run_firstCells_none w i.size 0 0 c
    | some a => exact run_firstCells_some w i.size 0 a 0 c [] (by simp) (fun j v hj => by simp at hj)
  rcases hown.2 with ⟨rfl, rfl⟩ | ⟨g, cap, cur, rfl, _, _, hnc, _⟩
  · simp [Builtin.append_, run_underlying ht, sizeOf, typeInfo, hi, Builtin.lenOf, hf]
  · simp [Builtin.append_, run_underlying ht, sizeOf, typeInfo, hi, Builtin.lenOf, hf, hnc, storeCells]
theorem wpList_append_zeroV {ops : Array Oper} {rest : List Oper} {o : Oper} {a : Act} {Q : Exit → Act → World → Prop} (hgd : o.guard = none) (s x : Operand) (t : TypeId)
    (ho : o.op = .call { callee := .builtin .append, args := #[s, x], argTypes := #[t, t] })
    (base : Nat) (e : TypeId) (i : TypeInfo) (size : Nat) (ht : P.underlying t = some (.slice e)) (hi : P.info? e = some i)
    (v : Value) (n : Nat) (xs : List Value) (hs : a.eval s = v) (hown : w.ownsRow base e size v n xs) (A : Option Addr) (c : Nat) (hx : a.eval x = .slice A 0 c)
    (h : wpList P ops Q rest (a.put o.dst v) w) : wpList P ops Q (o :: rest) a w := by
  refine wpList_plain hgd fun K hK => ?_
  have hrun := run_append_zeroV (P := P) (w := w) t o.type e i ht hi v n xs hown A c
  unfold Oper.wp
  simp [execOp, ho, resolve, invoke, builtin, hs, hx, hrun, Result.andThen]
  exact hK _ _ h
end
theorem own_tyV {w : World} {base : Nat} {e : TypeId} {n z : Nat} {v : Value} {xs : List Value} (h : w.ownsRow base e z v n xs) {k : Nat} (hk : v.ownBlock = some k) : ∃ cs, Blk w k e cs := by
  rcases h.2 with ⟨e, _⟩ | ⟨g, cap, cur, e, _, hh, _⟩
  · rw [e] at hk; simp [Value.ownBlock] at hk
  · rw [e] at hk
    have : g = k := by simpa [Value.ownBlock] using hk
    exact ⟨cur, this ▸ hh⟩
theorem own_sliceV {w : World} {base : Nat} {e : TypeId} {n z : Nat} {v : Value} {xs : List Value} (h : w.ownsRow base e z v n xs) : ∃ A c, v = .slice A n c := by
  rcases h.2 with ⟨rfl, h0⟩ | ⟨g, cap, cur, rfl, _⟩
  · exact ⟨none, 0, by rw [h0]⟩
  · exact ⟨_, _, rfl⟩
theorem own_nilV (w : World) (base : Nat) (e : TypeId) (size : Nat) : w.ownsRow base e size (.slice none 0 0) 0 [] := ⟨by simp, .inl ⟨rfl, rfl⟩⟩
theorem grown_ownV {W w' : World} {base n : Nat} {e : TypeId} {size : Nat} {v : Value} {xs : List Value} (own : W.ownsRow base e size v n xs) (hb : base ≤ W.heap.size) (hgr : W.grownBy w' v.ownBlock) : Below base W w' :=
  (Chg.of_grown (S := fun k => v.ownBlock = some k) hgr (fun k hk => .inl hk)).below hb fun k hk e => by have := (own.lt k e).1; omega
theorem Row.antiV {w : World} {M M' : Nat → Prop} {A : Option Addr} {cs : List Value} (h : Row w M A cs) (hM : ∀ k, k < w.heap.size → M' k → M k) : Row w M' A cs := by
  refine ⟨h.1, ?_⟩
  rcases h.2 with h | ⟨b, off, e, hb, hm, hc⟩
  · exact .inl h
  · exact .inr ⟨b, off, e, hb, fun x => hm (hM _ hb x), hc⟩
theorem Items.antiV {w : World} {M M' : Nat → Prop} {A : Option Addr} {l : List Sp.Item} (h : Items w M A l) (hM : ∀ k, k < w.heap.size → M' k → M k) : Items w M' A l := by
  refine ⟨h.1, ?_⟩
  rcases h.2 with h | ⟨b, off, e, hb, hm, hc⟩
  · exact .inl h
  · refine .inr ⟨b, off, e, hb, fun x => hm (hM _ hb x), fun k hk => ?_⟩
    obtain ⟨V, c, hi, ht⟩ := hc k hk
    exact ⟨V, c, hi, Row.antiV ht hM⟩
theorem Frees.antiV {w : World} {M M' : Nat → Prop} {A : Option Addr} {l : List Sp.Free} (h : Frees w M A l) (hM : ∀ k, k < w.heap.size → M' k → M k) : Frees w M' A l := by
  refine ⟨h.1, ?_⟩
  rcases h.2 with h | ⟨b, off, e, hb, hm, hc⟩
  · exact .inl h
  · refine .inr ⟨b, off, e, hb, fun x => hm (hM _ hb x), fun k hk => ?_⟩
    obtain ⟨V, c, hi, ht, hr⟩ := hc k hk
    exact ⟨V, c, hi, Row.antiV ht hM, hr⟩
theorem PageRd.antiV {w : World} {M M' : Nat → Prop} {p : Sp.Page} {r : Refs} (h : PageRd w M p r) (hM : ∀ k, k < w.heap.size → M' k → M k) : PageRd w M' p r :=
  ⟨h.items.antiV hM, Row.antiV h.keys hM, Row.antiV h.kids hM, Row.antiV h.vals hM, h.free.antiV hM, h.txn⟩
theorem DPg.antiV {w : World} {M M' : Nat → Prop} (hM : ∀ k, k < w.heap.size → M' k → M k) : ∀ {l : List (Int × Sp.Page)} {D : List (Int × Value)}, DPg w M l D → DPg w M' l D
  | [], _, h => h
  | _ :: _, _, ⟨r, E, e, h1, h2, h⟩ => ⟨r, E, e, h1.antiV hM, h2, DPg.antiV hM h⟩
theorem StAt.newV {w w' : World} {M N : Nat → Prop} {t f m d : Nat} {fv : Value} {V : List Txt} {s : Sp.Sto} (h : StAt w M t f m d fv V s) (hb : Below w.heap.size w w') (hN : ∀ k, N k → w.heap.size ≤ k ∧ k < w'.heap.size) : StAt w' (fun k => M k ∨ N k) t f m d fv V s := by
  obtain ⟨D, h4, h5⟩ := h.dm
  have h1 := h.go hb
  have h5' : DPg w (fun k => M k ∨ N k) s.d D := h5.antiV fun k hk e => by
    rcases e with e | e
    · exact e
    · have := (hN k e).1; omega
  exact ⟨h1.bt, h1.fa, ⟨D, h4.go hb, h5'.chg (Chg.of_below hb)⟩, h.hm, ⟨.inl h.hM.1, .inl h.hM.2⟩, fun k hk => by
    rcases hk with hk | hk
    · exact h1.lt k hk
    · exact (hN k hk).2⟩
end Go.Proofs.YtlpmjeiogdlifaaGreat
namespace Go.Proofs.YtlpmjeiogdlifaaGreat
open Go.RowKit
attribute [local go_sem low] mk_extract
attribute [local go_sem] After.cell After.frozen mk_extract_end ByteArray.mk_append_mk
abbrev SlI : TypeId := 36
def itsOf (L : List (Int × Sp.Page)) : List Sp.Item := L.flatMap fun x => x.2.items
theorem itsOf_snoc (L : List (Int × Sp.Page)) (id : Int) (p : Sp.Page) : itsOf (L ++ [(id, p)]) = itsOf L ++ p.items := by
  unfold itsOf
  rw [List.flatMap_append, List.flatMap_cons, List.flatMap_nil, List.append_nil]
def OnL (bx : Nat) (u : Value) (k : Nat) : Prop := k = bx ∨ u.ownBlock = some k
structure LiS (t f m d : Nat) (fv : Value) (V : List Txt) (s : Sp.Sto) (B0 bx : Nat) (u : Value) (L : List (Int × Sp.Page)) (W : World) : Prop where
  st : ∃ M, StAt W M t f m d fv V s ∧ ∀ k, OnL bx u k → M k
  bk : Blk W bx SlI #[u]
  ow : ∃ xs, W.ownsRow B0 ItemT 10 u (itsOf L).length xs ∧ SeqQ itemV (SI W (OnL bx u)) (itsOf L) xs
  b0 : B0 ≤ W.heap.size
  len : (itsOf L).length ≤ 4 * L.length
section
variable {t f m d : Nat} {fv : Value} {V : List Txt} {s : Sp.Sto} {B0 bx : Nat} {u : Value} {L : List (Int × Sp.Page)} {W W' : World}
theorem siGo {M : Nat → Prop} {A : Option Addr} {x : Sp.Item} (h : SI W M A x) (hb : Below W.heap.size W W') : SI W' M A x := Row.go h hb
theorem LiS.go (h : LiS t f m d fv V s B0 bx u L W) (hb : Below W.heap.size W W') : LiS t f m d fv V s B0 bx u L W' := by
  obtain ⟨M, h1, h2⟩ := h.st
  obtain ⟨xs, h3, h4⟩ := h.ow
  exact ⟨⟨M, h1.go hb, h2⟩, h.bk.below hb h.bk.lt, ⟨xs, own_chg2 (S := NoM) h3 (Chg.of_below hb) (fun _ _ h => h), h4.imp fun V x hx => siGo hx hb⟩, Nat.le_trans h.b0 hb.size, h.len⟩
theorem LiS.lt (h : LiS t f m d fv V s B0 bx u L W) : ∀ k, OnL bx u k → k < W.heap.size := by
  intro k hk
  obtain ⟨xs, h3, _⟩ := h.ow
  rcases hk with rfl | hk
  · exact h.bk.lt
  · exact own_lt h3 k hk
theorem LiS.more {id : Int} {p : Sp.Page} (h : LiS t f m d fv V s B0 bx u L W) (hp : p.items.length ≤ 4) {W1 : World} {v : Value} {xs zs : List Value} (hx : W.ownsRow B0 ItemT 10 u (itsOf L).length xs) (h2 : SeqQ itemV (SI W (OnL bx u)) (itsOf L) xs) (hz : SeqQ itemV (SI W (OnL bx u)) p.items zs)
    (hown : W1.ownsRow B0 ItemT 10 v ((itsOf L).length + p.items.length) (xs ++ zs)) (hk1 : Chg (fun k => u.ownBlock = some k) W W1) (hat : v.ownBlock = u.ownBlock ∨ v.ownBlock = some W.heap.size) (hlt : ∀ k, v.ownBlock = some k → k < W1.heap.size) :
    LiS t f m d fv V s B0 bx v (L ++ [(id, p)]) (W1.setCell ⟨bx, 0, none⟩ v) ∧ Chg (OnL bx u) W (W1.setCell ⟨bx, 0, none⟩ v) ∧ (∀ k, OnL bx v k → OnL bx u k ∨ W.heap.size ≤ k) ∧ (W1.cell? ⟨bx, 0, none⟩ = some u ∧ W1.frozen? ⟨bx, 0, none⟩ = false ∧ bx < W1.heap.size) := by
  have hk1' : Chg (OnL bx u) W W1 := hk1.mono fun k _ h => .inr h
  have hs := Chg.set1 W1 bx 0 v
  have hnb : ∀ {w : Value} {Y : World} {B n : Nat} {ys : List Value} {cs : Array Value}, Y.ownsRow B ItemT 10 w n ys → Blk Y bx SlI cs → ¬ w.ownBlock = some bx := fun ho hb e => by
    obtain ⟨ds, hd⟩ := own_tyV ho e
    exact hb.not_ (by decide) _ hd
  have hbx1 : Blk W1 bx SlI #[u] := h.bk.chg hk1 (hnb hx h.bk)
  have hout : ∀ k, OnL bx v k → OnL bx u k ∨ W.heap.size ≤ k := fun k hk => by
    rcases hk with hk | hk
    · exact .inl (.inl hk)
    · rcases hat with e | e
      · exact .inl (.inr (e ▸ hk))
      · rw [e] at hk
        injection hk with hk
        exact .inr (by omega)
  have hck : Chg (OnL bx u) W (W1.setCell ⟨bx, 0, none⟩ v) := Chg.step (T := OneM bx) hs (fun i e => .inl (.inl e)) hk1'
  obtain ⟨M, hst, hM⟩ := h.st
  have hlt0 := h.lt
  refine ⟨⟨?_, ?_, ⟨xs ++ zs, ?_, ?_⟩, ?_, ?_⟩, hck, hout, hbx1.cell 0, hbx1.frozen 0, hbx1.lt⟩
  · have hty : ∀ k ty cs, Blk W k ty cs → ty ≠ SlI → ty ≠ ItemT → ¬ OnL bx u k := fun k ty cs hb n1 n2 e => by
      rcases e with rfl | e
      · exact hb.not_ n1 _ h.bk
      · obtain ⟨ds, hd⟩ := own_tyV hx e
        exact hb.not_ n2 _ hd
    obtain ⟨uf, ua, hbt, _, _⟩ := hst.bt
    obtain ⟨sv, hbf⟩ := hst.fa.bf
    obtain ⟨D, hD, hPg⟩ := hst.dm
    have hnomap : ∀ {g : Nat} {o : Obj}, W.heap[g]? = some o → (∀ cs ty fr, o ≠ .cells cs ty fr) → ¬ OnL bx u g := fun {g o} hg ho e => by
      rcases e with rfl | e
      · have h2 : W.heap[g]? = _ := h.bk
        rw [hg] at h2
        exact ho _ _ _ (Option.some.inj h2)
      · obtain ⟨ds, hd⟩ := own_tyV hx e
        have h2 : W.heap[g]? = _ := hd
        rw [hg] at h2
        exact ho _ _ _ (Option.some.inj h2)
    have hst1 : StAt (W1.setCell ⟨bx, 0, none⟩ v) M t f m d fv V s := hst.chg hck hM (hty _ _ _ hbt (by decide) (by decide)) (hty _ _ _ hbf (by decide) (by decide)) (by
        obtain ⟨es, c, hm, _⟩ := hst.fa.map
        exact hnomap hm (fun _ _ _ e => by cases e)) (by
        obtain ⟨es, c, hm, _⟩ := hD
        exact hnomap hm (fun _ _ _ e => by cases e)) (fun k hk => by
        obtain ⟨cs, hc⟩ := own_ty hst.fa.own hk
        exact hty _ _ _ hc (by decide) (by decide)) (fun k cs hc => hty _ _ _ hc (by decide) (by decide))
    have hnd : ¬ OnL bx u d := by
      obtain ⟨es, c, hm, _⟩ := hD
      exact hnomap hm (fun _ _ _ e => by cases e)
    have hPg2 : DPg W (fun k => M k ∨ (W.heap.size ≤ k ∧ k < (W1.setCell ⟨bx, 0, none⟩ v).heap.size)) s.d D := hPg.antiV fun k hk e => by
      rcases e with e | e
      · exact e
      · omega
    refine ⟨fun k => M k ∨ (W.heap.size ≤ k ∧ k < (W1.setCell ⟨bx, 0, none⟩ v).heap.size), ⟨hst1.bt, hst1.fa, ⟨D, hD.chg hck hnd, hPg2.chg (hck.mono fun k _ h => .inl (hM k h))⟩, hst.hm, ⟨.inl hst.hM.1, .inl hst.hM.2⟩, fun k hk => ?_⟩, fun k hk => ?_⟩
    · rcases hk with hk | hk
      · exact hst1.lt k hk
      · exact hk.2
    · rcases hout k hk with h | h
      · exact .inl (hM k h)
      · refine .inr ⟨h, ?_⟩
        rcases hk with rfl | hk
        · exact Nat.lt_of_lt_of_le hbx1.lt hs.size
        · exact Nat.lt_of_lt_of_le (hlt k hk) hs.size
  · have := hbx1.set_ 0 v
    simpa using this
  · rw [itsOf_snoc, List.length_append]
    exact own_chg2 hown hs (fun k hk e => hnb hown hbx1 (by have e : k = bx := e; exact e ▸ hk))
  · rw [itsOf_snoc]
    refine (SeqQ.app hz h2).imp fun V x hx => ?_
    exact ((Row.wide hx).chg (hck.mono fun _ _ h => .inl h)).anti hout
  · exact Nat.le_trans h.b0 hck.size
  · have := h.len
    rw [itsOf_snoc, List.length_append, List.length_append, List.length_singleton]
    omega
end
set_option maxRecDepth 100000 in
set_option maxHeartbeats 1600000 in
theorem list1_any {t f m d : Nat} {fv : Value} {V : List Txt} {s : Sp.Sto} {B0 bx : Nat} {u : Value} {L : List (Int × Sp.Page)} {w : World} (id deep : Int) (p : Sp.Page) (r : Refs) (h : LiS t f m d fv V s B0 bx u L w) (hp : PageRd w (OnL bx u) p r) (h4 : p.items.length ≤ 4) (hL : L.length < 30000) :
    Calls Tryz.prog 48 #[.int .i64 id, .int .i64 deep, .agg (pageV p r).toArray, .pointer (some ⟨bx, 0, none⟩)] w fun e W' => ∃ u', e = .returned (.bool true) ∧ LiS t f m d fv V s B0 bx u' (L ++ [(id, p)]) W' ∧ Chg (OnL bx u) w W' ∧ ∀ k, OnL bx u' k → OnL bx u k ∨ w.heap.size ≤ k := by
  obtain ⟨i0, hi0, hz0, hz1, hz2⟩ := info_parts info_item
  have hal : Below w.heap.size w (w.alloc (.cells (pageV p r).toArray PageT)) := (Below.refl _ _).alloc (Nat.le_refl _) _
  have H := Lib.hid (h.go hal)
  have HP := Lib.hid (hp.go hal)
  have HBP := Lib.hid (Blk.new w PageT (pageV p r).toArray)
  have HAL := Lib.hid hal
  clear h hp hal
  simp only [pageV, mtV, List.cons_append, List.nil_append] at HBP
  simp only [pageV, mtV, List.cons_append, List.nil_append]
  go_enter Tryz.func48, Tryz.ntmps48
  go_upto_region 1 with fail
  refine wp_gen (fun W => (LiS t f m d fv V s B0 bx u L W ∧ PageRd W (OnL bx u) p r) ∧ Below w.heap.size w W ∧ Blk W w.heap.size PageT #[.int .i64 p.kind, .slice r.I p.items.length r.i, .slice r.K p.keys.length r.k, .slice r.D p.kids.length r.d, .string ⟨p.text.toArray⟩, .slice r.V p.vals.length r.v, .slice r.F p.free.length r.f, .int .i64 p.next, .int .u64 p.mt.txn, .int .i64 p.mt.main.page, .int .i64 p.mt.main.count, .int .i64 p.mt.main.flags, .int .i64 p.mt.free, .int .i64 p.mt.last]) ⟨⟨H.out, HP.out⟩, HAL.out, HBP.out⟩ ?_
  clear H HP HAL HBP
  rintro w1 ⟨⟨h1, hp1⟩, hb1, hbp⟩
  obtain ⟨xs, hx, h2⟩ := h1.ow
  obtain ⟨Au, cu, rfl⟩ := own_sliceV hx
  have H1 := Lib.hid h1
  have HX := Lib.hid hx
  have HX2 := Lib.hid h2
  have HB1 := Lib.hid hb1
  have c0 : w1.cell? ⟨bx, 0, none⟩ = some (.slice Au (itsOf L).length cu) := h1.bk.cell 0
  have c1 : w1.cell? ⟨w.heap.size, 1, none⟩ = some (.slice r.I p.items.length r.i) := hbp.cell 1
  have hb0 := h1.b0
  have hlen := h1.len
  have fin : ∀ k, (OnL bx (.slice Au (itsOf L).length cu) k ∨ w1.heap.size ≤ k) → OnL bx (.slice Au (itsOf L).length cu) k ∨ w.heap.size ≤ k := fun k hk => by
    rcases hk with h | h
    · exact .inl h
    · exact .inr (Nat.le_trans hb1.size h)
  have FIN := Lib.hid fin
  by_cases hie : p.items = []
  · have HM := Lib.hid (h1.more (id := id) h4 (W1 := w1) (zs := []) hx h2 (by rw [hie]; rfl) (by rw [hie, List.append_nil]; exact hx) (Chg.refl _ _) (.inl rfl) (fun k hk => own_lt hx k hk))
    have f0 := HM.out.2.2.2.2.1
    have l0 := HM.out.2.2.2.2.2
    rw [hie] at c1
    have c1 : w1.cell? ⟨w.heap.size, 1, none⟩ = some (.slice r.I 0 r.i) := c1
    clear h1 hp1 hb1 hbp hx h2 fin hie
    go_upto_region 2 with (refine wpList_append_zeroV rfl _ _ 36 rfl B0 ItemT i0 10 Tryz.underlying36 hi0 _ (itsOf L).length xs rfl HX.out r.I r.i rfl ?_)
    go_wp2_with fail
    go_ret
    exact ⟨_, by simp, HM.out.1, (Chg.of_below HB1.out).trans HM.out.2.1, fun k hk => FIN.out k (HM.out.2.2.1 k hk)⟩
  · obtain ⟨ib, io, hI, hib, _⟩ := hp1.items.at_ (k := 0) (List.length_pos_iff.2 hie)
    obtain ⟨zs, hs1, hs2⟩ := hp1.items.seq
    rw [hI] at c1
    have HZ1 := Lib.hid hs1
    have HZ2 := Lib.hid (hs2 _ hI)
    have hzl := hs1.len itemV_ten
    clear h1 hp1 hb1 hbp hx h2 fin hs1 hs2 hI
    go_upto_region 2 with (first
      | (at_builtin; refine wpList_append_own_at _ rfl _ _ 36 rfl B0 ItemT i0 _ 10 112 Tryz.underlying36 hi0 hz0 hz1 hz2 rfl (by decide) _ (itsOf L).length xs rfl HX.out ⟨ib, io, none⟩ p.items.length r.i zs rfl hzl HZ2.out (HZ1.out.one itemV_ones) ?c3 ?c4 hb0 ?_))
    case c3 => simp only [maxLen]; omega
    case c4 => omega
    intro v6 w6 hown hgr _ hat
    have HM := Lib.hid (H1.out.more (id := id) h4 HX.out HX2.out HZ1.out hown (Chg.of_grown (S := fun k => (Value.slice Au (itsOf L).length cu).ownBlock = some k) hgr (fun k hk => .inl hk)) hat (fun k hk => own_lt hown k hk))
    obtain ⟨A6, c6, rfl⟩ := own_sliceV hown
    have g0 := HM.out.2.2.2.1
    have f0 := HM.out.2.2.2.2.1
    have l0 := HM.out.2.2.2.2.2
    clear hown hgr hat
    go_wp2_with fail
    go_ret
    exact ⟨_, by simp, HM.out.1, (Chg.of_below HB1.out).trans HM.out.2.1, fun k hk => FIN.out k (HM.out.2.2.1 k hk)⟩
end Go.Proofs.YtlpmjeiogdlifaaGreat
namespace Go.Proofs.YtlpmjeiogdlifaaGreat
open Go.RowKit
attribute [local go_sem low] mk_extract
attribute [local go_sem] After.cell After.frozen mk_extract_end ByteArray.mk_append_mk
theorem callFunc_list1 (cap : Array Value) (w : World) : (callFunc 48 cap).run Tryz.prog w = .ok (.enter 48 cap) w := by kernel_rfl
structure SmallP (V : List Txt) (s : Sp.Sto) : Prop where
  kd : ∀ i p, s.read V i = (p, none) → p.kids.length ≤ 4
  it : ∀ i p, s.read V i = (p, none) → p.items.length ≤ 4
theorem listW {t f m d : Nat} {fv : Value} {V : List Txt} {s : Sp.Sto} (B0 bx : Nat) (hs : SmallP V s) : Walker t f m d fv V s 48 bx (fun u L W => LiS t f m d fv V s B0 bx u L W) (OnL bx) where
  go := fun _ _ _ _ h hb => h.go hb
  st := fun _ _ _ h => by
    obtain ⟨M, h1, _⟩ := h.st
    exact ⟨M, h1⟩
  lt := fun _ _ _ h => h.lt
  cb := fun u L W id deep p r h hp hi hL => by
    obtain ⟨i, hi⟩ := hi
    exact list1_any id deep p r h hp (hs.it i p hi) hL
def ListIs (B : Nat) (V : List Txt) (s : Sp.Sto) (root : Int) (e : Ending) (W : World) : Prop := match Sp.walkI (s.read V) 8 root with
  | (_, some k) => e = .returned (.tuple #[.slice none 0 0, .iface ErrT (.int .i64 k)])
  | (L, none) => ∃ A c xs, e = .returned (.tuple #[.slice A (itsOf L).length c, .nilIface]) ∧ W.ownsRow B ItemT 10 (.slice A (itsOf L).length c) (itsOf L).length xs ∧ SeqQ itemV (SI W (fun k => (Value.slice A (itsOf L).length c).ownBlock = some k)) (itsOf L) xs
set_option maxRecDepth 100000 in
set_option maxHeartbeats 1600000 in
theorem treeList_any (M : Nat → Prop) (t f m d : Nat) (fv : Value) (V : List Txt) (s : Sp.Sto) (root : Int) (w : World) (hst : StAt w M t f m d fv V s) (hok : s.Ok) (hV : V.length ≤ 400) (hs : SmallP V s) :
    Calls Tryz.prog 19 #[.pointer (some ⟨t, 0, none⟩), .int .i64 root] w fun e W => ListIs w.heap.size V s root e W ∧ Below w.heap.size w W := by
  have hal : Below w.heap.size w (w.alloc (.cells #[.slice none 0 0] SlI)) := (Below.refl _ _).alloc (Nat.le_refl _) _
  have HL := Lib.hid (show LiS t f m d fv V s w.heap.size w.heap.size (.slice none 0 0) [] (w.alloc (.cells #[.slice none 0 0] SlI)) from by
    refine ⟨⟨fun k => M k ∨ k = w.heap.size, hst.newV hal (fun k hk => ⟨Nat.le_of_eq hk.symm, by rw [hk, World.size_alloc]; omega⟩), fun k hk => ?_⟩, Blk.new _ _ _, ⟨[], own_nilV _ _ _ _, rfl⟩, by rw [World.size_alloc]; omega, Nat.zero_le _⟩
    rcases hk with hk | hk
    · exact .inr hk
    · simp [Value.ownBlock] at hk)
  have HWA := Lib.hid (fun W (h : LiS t f m d fv V s w.heap.size w.heap.size (.slice none 0 0) [] W) => walk_any (listW (fv := fv) w.heap.size w.heap.size hs) callFunc_list1 hok hV hs.kd 8 root 1 (.slice none 0 0) [] W h (by omega) (by omega) (by decide))
  clear hst hok
  unfold ListIs
  rcases hwk : Sp.walkI (s.read V) 8 root with ⟨L, _ | k⟩
  · unfold Walked at HWA
    rw [hwk] at HWA
    clear hwk
    dsimp only
    go_enter Tryz.func19, Tryz.ntmps19
    go_upto_region 2 with fail
    go_wp2_with (go_at_call 47; refine (HWA.out _ HL.out).mono ?_; rintro e w2 ⟨u, rfl, hi2, hk2, ho2⟩; have HK2 := Lib.hid hk2; have hbk := hi2.bk; obtain ⟨xs, h1, h2⟩ := hi2.ow; rw [List.nil_append] at h1 h2; obtain ⟨A, c, rfl⟩ := own_sliceV h1; have H1 := Lib.hid h1; have H2 := Lib.hid h2; have c0 : w2.cell? ⟨w.heap.size, 0, none⟩ = some (.slice A (itsOf L).length c) := hbk.cell 0; clear hi2 hk2 ho2 h1 h2 hbk; simp only [erO])
    refine bodyPost_ret (v := .tuple #[.slice A (itsOf L).length c, .nilIface]) (by simp [results, Tryz.results19, go_sem]) rfl ⟨⟨A, c, rfl, xs, H1.out, H2.out.imp fun V x hx => Row.anti hx fun k hk => .inr hk⟩, hal.trans (HK2.out.below (by rw [World.size_alloc]; omega) fun k hk e => ?_)⟩
    rcases e with e | e
    · omega
    · simp [Value.ownBlock] at e
  · unfold Walked at HWA
    rw [hwk] at HWA
    clear hwk
    dsimp only
    go_enter Tryz.func19, Tryz.ntmps19
    go_upto_region 2 with fail
    go_wp2_with (go_at_call 47; refine (HWA.out _ HL.out).mono ?_; rintro e w2 ⟨u, rfl, hi2, hk2, ho2⟩; have HK2 := Lib.hid hk2; clear hi2 hk2 ho2; simp only [erO])
    refine bodyPost_ret (v := .tuple #[.slice none 0 0, .iface ErrT (.int .i64 k)]) (by simp [results, Tryz.results19, go_sem]) rfl ⟨rfl, hal.trans (HK2.out.below (by rw [World.size_alloc]; omega) fun k hk e => ?_)⟩
    rcases e with e | e
    · omega
    · simp [Value.ownBlock] at e
end Go.Proofs.YtlpmjeiogdlifaaGreat
namespace Go.Proofs.YtlpmjeiogdlifaaGreat
open Go.RowKit
attribute [local go_sem low] mk_extract
attribute [local go_sem] After.cell After.frozen mk_extract_end ByteArray.mk_append_mk
theorem Sp.T.In.rng {V : List Txt} {s : Sp.Sto} (hm : s.most ≤ 400) : ∀ {d : Nat} {t : Sp.T d}, Sp.T.In (s.read V) d t → ∀ i ∈ Sp.T.ids d t, 2 ≤ i ∧ i < 400
  | 0, t, h, i, hi => by
    have : i = t.1 := List.mem_singleton.1 hi
    have := Sp.read_rng h.2
    omega
  | d + 1, t, h, i, hi => by
    rcases List.mem_cons.1 (show i ∈ t.1 :: t.2.flatMap (fun c => Sp.T.ids d c.2) from hi) with rfl | hi
    · have := Sp.read_rng h.1.2
      omega
    · obtain ⟨c, hc, hi⟩ := List.mem_flatMap.1 hi
      exact Sp.T.In.rng hm (h.2 c hc) i hi
theorem gt_yes {x key : Txt} (h : Sp.lt key x = true) : Op.bytesLess x key = false ∧ (x == key) = false := by
  refine ⟨Sp.lt_asymm h, beq_eq_false_iff_ne.2 fun e => ?_⟩
  rw [e, Sp.lt_irr] at h
  simp at h
theorem gt_no {x key : Txt} (h : Sp.lt key x = false) : Op.bytesLess x key = true ∨ (x == key) = true := by
  rcases Sp.lt_tri key x with h1 | h1 | h1
  · rw [h] at h1; simp at h1
  · exact .inr (beq_iff_eq.2 h1.symm)
  · exact .inl h1
structure LoopW (w W : World) (M0 : Nat → Prop) (t f m d : Nat) (v : Value) (V : List Txt) (s : Sp.Sto) : Prop where
  st : StAt W M0 t f m d v V s
  bz : Blk W w.heap.size PageT pgZ0
  hb : Below w.heap.size w W
theorem LoopW.go {w W W' : World} {M0 : Nat → Prop} {t f m d : Nat} {v : Value} {V : List Txt} {s : Sp.Sto} (h : LoopW w W M0 t f m d v V s) (hb : Below W.heap.size W W') : LoopW w W' M0 t f m d v V s :=
  ⟨h.st.go hb, h.bz.below hb h.bz.lt, h.hb.trans (hb.mono h.hb.size)⟩
structure LpW (w W : World) (M0 : Nat → Prop) (t f m d : Nat) (v : Value) (V : List Txt) (s : Sp.Sto) (b : Nat) (p : Sp.Page) (r : Refs) : Prop where
  l : LoopW w W M0 t f m d v V s
  bp : Blk W b PageT (pageV p r).toArray
  pr : ∀ M : Nat → Prop, (∀ k, w.heap.size < k → ¬ M k) → PageRd W M p r
  ne : w.heap.size < b
theorem LpW.go {w W W' : World} {M0 : Nat → Prop} {t f m d : Nat} {v : Value} {V : List Txt} {s : Sp.Sto} {b : Nat} {p : Sp.Page} {r : Refs} (h : LpW w W M0 t f m d v V s b p r) (hb : Below W.heap.size W W') : LpW w W' M0 t f m d v V s b p r :=
  ⟨h.l.go hb, h.bp.below hb h.bp.lt, fun M hM => (h.pr M hM).go hb, h.ne⟩
theorem LpW.start {w wr w2 : World} {M0 : Nat → Prop} {t f m d : Nat} {v : Value} {V : List Txt} {s : Sp.Sto} {p : Sp.Page} {r : Refs} (h : LoopW w wr M0 t f m d v V s) (hb : Below wr.heap.size wr w2) (hr0 : PageRd w2 (LowB wr) p r) :
    LpW w (w2.alloc (.cells (pageV p r).toArray PageT)) M0 t f m d v V s w2.heap.size p r := by
  have hal : Below w2.heap.size w2 (w2.alloc (.cells (pageV p r).toArray PageT)) := (Below.refl _ _).alloc (Nat.le_refl _) _
  have h1 := h.bz.lt
  have hr : ∀ M : Nat → Prop, (∀ k, wr.heap.size ≤ k → ¬ M k) → PageRd w2 M p r := fun M hM => hr0.anti fun k hk => Nat.lt_of_not_le fun h => hM k h hk
  exact ⟨(h.go hb).go hal, Blk.new _ _ _, fun M hM => (hr M fun k hk => hM k (by omega)).go hal, Nat.lt_of_lt_of_le h.bz.lt hb.size⟩
end Go.Proofs.YtlpmjeiogdlifaaGreat
