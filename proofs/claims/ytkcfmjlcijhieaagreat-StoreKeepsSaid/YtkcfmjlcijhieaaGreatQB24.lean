/- The package's store: numbers side by side. The package's store: its rows and numbers, told. The package's store: its rows and numbers, told. The package's store: its rows and numbers, told; a new one. The known store of law 8, in plain Lean. -/
import Derived.Test.YtkcfmjlcijhieaaGreatQB22
import Derived.Test.YtkcfmjlcijhieaaGreatQB23
import Derived.Shelf.SlIterI.Sorted
import Derived.Shelf.Sort.Plain
import Derived.Shelf.Slices.In.SortNone
import Derived.WideShapes
import Derived.TacticsIn
import Derived.Shelf.SlIterI.Nil
set_option linter.unusedSimpArgs false
set_option linter.unusedVariables false
namespace Go.Proofs.YtkcfmjlcijhieaaGreat
open Go.RowKit
attribute [local go_sem low] mk_extract
attribute [local go_sem] After.cell After.frozen mk_extract_end ByteArray.mk_append_mk
/-- In the loop: so many numbers are made. -/
structure RunS (w : World) (M : Nat → Prop) (t f m d : Nat) (fv : Value) (V : List Txt) (s : Sp.Sto) (id : Int) (k : Nat) (W : World) : Prop where
  st : StAt W M t f m d fv V { s with d := Sp.runD s.d id k }
  ck : Chg (TwoM t d) w W
set_option maxRecDepth 100000 in
set_option maxHeartbeats 1600000 in
theorem stoRun_any (M : Nat → Prop) (t f m d : Nat) (fv : Value) (V : List Txt) (s : Sp.Sto) (n : Int) (w : World) (h : StAt w M t f m d fv V s) (hok : s.Ok) :
    Calls Tryz.prog 33 #[.pointer (some ⟨t, 0, none⟩), .int .i64 n] w fun e w' => e = .returned (.tuple #[.int .i64 (s.run n).1.1, erO (s.run n).1.2]) ∧ StAt w' M t f m d fv V (s.run n).2 ∧ Chg (TwoM t d) w w' := by
  have H := Lib.hid h
  by_cases h1 : n < 1
  · have HR := Lib.hid (show s.run n = ((0, some 10), s) from if_pos h1)
    clear h
    go_enter Tryz.func33, Tryz.ntmps33
    go_wp2_with fail
    try go_step3
    try go_wp2_with fail
    try rw [Exit.noGoto_ret]
    refine bodyPost_ret (v := .tuple #[.int .i64 0, erO (some 10)]) (by simp [results, Tryz.results33, go_sem, erO]) rfl ⟨by rw [HR.out], by rw [HR.out]; exact H.out, Chg.refl _ _⟩
  by_cases h2 : 120 < n
  · have HR := Lib.hid (show s.run n = ((0, some 17), s) from (if_neg h1).trans (if_pos h2))
    clear h
    go_enter Tryz.func33, Tryz.ntmps33
    go_wp2_with fail
    try go_step3
    try go_wp2_with fail
    try rw [Exit.noGoto_ret]
    refine bodyPost_ret (v := .tuple #[.int .i64 0, erO (some 17)]) (by simp [results, Tryz.results33, go_sem, erO]) rfl ⟨by rw [HR.out], by rw [HR.out]; exact H.out, Chg.refl _ _⟩
  have HR := Lib.hid (s.run_mid n (by omega) (by omega))
  obtain ⟨N, rfl⟩ : ∃ N : Nat, n = N := ⟨n.toNat, by omega⟩
  have HN := Lib.hid (numbers_any M t f m d fv V s N w h hok (by omega) (by omega))
  have HOK := Lib.hid (hok.numbers (n := N) (by omega))
  clear h hok
  generalize s.numbers N = r at *
  obtain ⟨⟨id, er⟩, s'⟩ := r
  rcases er with _ | k
  · obtain ⟨o1, _, _, _, o3⟩ := HOK.out
    obtain ⟨hid2, hid4, _⟩ := o3 rfl
    dsimp only at HR hid2 hid4
    clear HOK o1 o3
    rw [Int.toNat_natCast] at HR
    go_enter Tryz.func33, Tryz.ntmps33
    go_wp2_with fail
    go_step3
    go_wp2_with (go_at_call 72; refine HN.out.mono ?_; rintro e w3 ⟨rfl, hst, hk3⟩; have HST := Lib.hid hst; have HK3 := Lib.hid hk3; clear hst hk3; simp only [erO])
    go_step3
    go_wp2_with fail
    have HCK := Lib.hid (HK3.out.mono fun k _ e => (show TwoM t d k from .inl e))
    clear HK3 HN
    go_loopw [8] (fun v wr => ∃ k : Nat, v = .int .i64 k ∧ k ≤ N ∧ RunS w M t f m d fv V s' id k wr) (fun v _ => N - (intOf v).toNat)
    case atStart => exact ⟨0, rfl, Nat.zero_le _, HST.out, HCK.out⟩
    case round =>
      obtain ⟨k, rfl, hk, hs⟩ := hrel
      have S := Lib.hid hs
      clear hs
      have c1 := S.out.st.c1
      by_cases hkn : k = N
      · subst hkn
        go_wp2_with fail
        try rw [Exit.noGoto_ret]
        refine bodyPost_ret (v := .tuple #[.int .i64 id, erO none]) (by simp [results, Tryz.results33, go_sem, erO]) rfl ⟨by rw [HR.out], by rw [HR.out]; exact S.out.st, S.out.ck⟩
      · have hlt : k < N := by omega
        have hne : ((k : Int) == (N : Int)) = false := by
          rw [beq_eq_false_iff_ne]; omega
        have hwr : IntKind.i64.wrap (id + (k : Int)) = id + (k : Int) := by simp only [IntKind.wrap_i64]; omega
        obtain ⟨o, hup, hst6, hk6⟩ := S.out.st.put_ (pageRd0 wr M refs0) Sp.pg0_small (id + k)
        have hup2 : (Instr.mapUpdate PgMapT (.map (some d)) (.int .i64 (id + k)) (.agg #[.int .i64 0, .slice none 0 0, .slice none 0 0, .slice none 0 0, .string ⟨#[]⟩, .slice none 0 0, .slice none 0 0, .int .i64 0, .int .u64 0, .int .i64 0, .int .i64 0, .int .i64 0, .int .i64 0, .int .i64 0])).run Tryz.prog wr = .ok () (turnM wr d o) := hup
        have S2 := Lib.hid (show RunS w M t f m d fv V s' id (k + 1) (turnM wr d o) from ⟨hst6, S.out.ck.trans (hk6.mono fun k _ e => (show TwoM t d k from .inr e))⟩)
        clear hup hst6 hk6
        go_wp2_with fail
        go_roundw
        case rel => exact ⟨k + 1, by go_num, by omega, S2.out⟩
        case measure => simp [intOf]; omega
  · go_enter Tryz.func33, Tryz.ntmps33
    go_wp2_with fail
    go_step3
    go_wp2_with (go_at_call 72; refine HN.out.mono ?_; rintro e w3 ⟨rfl, hst, hk3⟩; have HST := Lib.hid hst; have HK3 := Lib.hid hk3; clear hst hk3; simp only [erO])
    try rw [Exit.noGoto_ret]
    refine bodyPost_ret (v := .tuple #[.int .i64 0, erO (some k)]) (by simp [results, Tryz.results33, go_sem, erO]) rfl ⟨by rw [HR.out], by rw [HR.out]; exact HST.out, HK3.out.mono fun k _ e => (show TwoM t d k from .inl e)⟩
end Go.Proofs.YtkcfmjlcijhieaaGreat
namespace Go.Proofs.YtkcfmjlcijhieaaGreat
open Go.RowKit
attribute [local go_sem low] mk_extract
attribute [local go_sem] After.cell After.frozen mk_extract_end ByteArray.mk_append_mk
open Go.Sort Go.Maps
def renSort : Go.Shelf.Ren := ⟨fun | 189 => 98 | 125 => 137 | 257 => 136 | 128 => 163 | 129 => 164 | 294 => 155 | 295 => 156 | 296 => 157 | 297 => 158 | 298 => 159 | 299 => 160 | 216 => 131 | 300 => 161 | 301 => 162 | 328 => 170 | 329 => 171 | 330 => 172 | 331 => 173 | 332 => 174 | 215 => 153 | 343 => 176 | n => n, fun | 28 => 26 | 3 => 3 | 46 => 58 | 0 => 0 | 51 => 204 | 53 => 25 | 4 => 4 | 183 => 198 | 182 => 197 | 131 => 138 | 5 => 5 | 9 => 9 | 218 => 210 | 222 => 213 | 228 => 215 | 229 => 216 | n => n, fun | n => n⟩
theorem laySort : Lays.n189 Tryz.prog renSort := {
  mixed := by kernel_rfl
  f125 := Tryz.func137.trans (congrArg some (by kernel_rfl))
  f128 := Tryz.func163.trans (congrArg some (by kernel_rfl))
  f129 := Tryz.func164.trans (congrArg some (by kernel_rfl))
  f189 := Tryz.func98.trans (congrArg some (by kernel_rfl))
  f215 := Tryz.func153.trans (congrArg some (by kernel_rfl))
  f216 := Tryz.func131.trans (congrArg some (by kernel_rfl))
  f257 := Tryz.func136.trans (congrArg some (by kernel_rfl))
  f294 := Tryz.func155.trans (congrArg some (by kernel_rfl))
  f295 := Tryz.func156.trans (congrArg some (by kernel_rfl))
  f296 := Tryz.func157.trans (congrArg some (by kernel_rfl))
  f297 := Tryz.func158.trans (congrArg some (by kernel_rfl))
  f298 := Tryz.func159.trans (congrArg some (by kernel_rfl))
  f299 := Tryz.func160.trans (congrArg some (by kernel_rfl))
  f300 := Tryz.func161.trans (congrArg some (by kernel_rfl))
  f301 := Tryz.func162.trans (congrArg some (by kernel_rfl))
  f328 := Tryz.func170.trans (congrArg some (by kernel_rfl))
  f329 := Tryz.func171.trans (congrArg some (by kernel_rfl))
  f330 := Tryz.func172.trans (congrArg some (by kernel_rfl))
  f331 := Tryz.func173.trans (congrArg some (by kernel_rfl))
  f332 := Tryz.func174.trans (congrArg some (by kernel_rfl))
  f343 := Tryz.func176.trans (congrArg some (by kernel_rfl))
  t0 := Tryz.underlying0
  a0 := Tryz.isAgg0
  z0 := Tryz.sizeOf0
  v0 := Tryz.zeroValue0
  t3 := Tryz.underlying3
  a3 := Tryz.isAgg3
  z3 := Tryz.sizeOf3
  v3 := Tryz.zeroValue3
  t4 := Tryz.underlying4
  a4 := Tryz.isAgg4
  z4 := Tryz.sizeOf4
  v4 := Tryz.zeroValue4
  t5 := Tryz.underlying5
  a5 := Tryz.isAgg5
  z5 := Tryz.sizeOf5
  v5 := Tryz.zeroValue5
  t9 := Tryz.underlying9
  a9 := Tryz.isAgg9
  z9 := Tryz.sizeOf9
  v9 := Tryz.zeroValue9
  t28 := Tryz.underlying26
  a28 := Tryz.isAgg26
  z28 := Tryz.sizeOf26
  v28 := Tryz.zeroValue26
  t46 := Tryz.underlying58
  a46 := Tryz.isAgg58
  z46 := Tryz.sizeOf58
  v46 := Tryz.zeroValue58
  t51 := Tryz.underlying204
  a51 := Tryz.isAgg204
  z51 := Tryz.sizeOf204
  v51 := Tryz.zeroValue204
  t53 := Tryz.underlying25
  a53 := Tryz.isAgg25
  z53 := Tryz.sizeOf25
  v53 := Tryz.zeroValue25
  t131 := Tryz.underlying138
  a131 := Tryz.isAgg138
  z131 := Tryz.sizeOf138
  v131 := Tryz.zeroValue138
  t182 := Tryz.underlying197
  a182 := Tryz.isAgg197
  z182 := Tryz.sizeOf197
  v182 := Tryz.zeroValue197
  t183 := Tryz.underlying198
  a183 := Tryz.isAgg198
  z183 := Tryz.sizeOf198
  v183 := Tryz.zeroValue198
  t218 := Tryz.underlying210
  a218 := Tryz.isAgg210
  z218 := Tryz.sizeOf210
  v218 := Tryz.zeroValue210
  t222 := Tryz.underlying213
  a222 := Tryz.isAgg213
  z222 := Tryz.sizeOf213
  v222 := Tryz.zeroValue213
  t228 := Tryz.underlying215
  a228 := Tryz.isAgg215
  z228 := Tryz.sizeOf215
  v228 := Tryz.zeroValue215
  t229 := Tryz.underlying216
  a229 := Tryz.isAgg216
  z229 := Tryz.sizeOf216
  v229 := Tryz.zeroValue216 }
def renKeys : Go.Shelf.Ren := ⟨fun | 7 => 76 | 10 => 112 | n => n, fun | 0 => 0 | 3 => 39 | 4 => 4 | 23 => 123 | 26 => 3 | 27 => 130 | 28 => 131 | 33 => 134 | n => n, fun | n => n⟩
theorem layKeys : SlLaysZI.n7 Tryz.prog renKeys := {
  mixed := by kernel_rfl
  f7 := ⟨Tryz.f76.name, by decide, Tryz.func76.trans (congrArg some (by kernel_rfl))⟩
  f10 := ⟨Tryz.f112.name, by decide, Tryz.func112.trans (congrArg some (by kernel_rfl))⟩
  t0 := Tryz.underlying0
  a0 := Tryz.isAgg0
  z0 := Tryz.sizeOf0
  v0 := Tryz.zeroValue0
  t4 := Tryz.underlying4
  a4 := Tryz.isAgg4
  z4 := Tryz.sizeOf4
  v4 := Tryz.zeroValue4
  t23 := Tryz.underlying123
  a23 := Tryz.isAgg123
  z23 := Tryz.sizeOf123
  v23 := Tryz.zeroValue123
  t26 := Tryz.underlying3
  a26 := Tryz.isAgg3
  z26 := Tryz.sizeOf3
  v26 := Tryz.zeroValue3
  t27 := Tryz.underlying130
  a27 := Tryz.isAgg130
  z27 := Tryz.sizeOf130
  v27 := Tryz.zeroValue130
  t28 := Tryz.underlying131
  a28 := Tryz.isAgg131
  z28 := Tryz.sizeOf131
  v28 := Tryz.zeroValue131
  t33 := Tryz.underlying134
  a33 := Tryz.isAgg134
  z33 := Tryz.sizeOf134
  v33 := Tryz.zeroValue134 }
def renSorted : Go.Shelf.Ren := ⟨fun | 6 => 75 | 8 => 111 | 9 => 98 | 11 => 143 | n => n, fun | 0 => 0 | 24 => 26 | 26 => 3 | 28 => 131 | 33 => 134 | n => n, fun | n => n⟩
theorem laySorted : SlLaysZI.n6 Tryz.prog renSorted := {
  mixed := by kernel_rfl
  f6 := ⟨Tryz.f75.name, by decide, Tryz.func75.trans (congrArg some (by kernel_rfl))⟩
  f8 := ⟨Tryz.f111.name, by decide, Tryz.func111.trans (congrArg some (by kernel_rfl))⟩
  f11 := ⟨Tryz.f143.name, by decide, Tryz.func143.trans (congrArg some (by kernel_rfl))⟩
  t0 := Tryz.underlying0
  a0 := Tryz.isAgg0
  z0 := Tryz.sizeOf0
  v0 := Tryz.zeroValue0
  t24 := Tryz.underlying26
  a24 := Tryz.isAgg26
  z24 := Tryz.sizeOf26
  v24 := Tryz.zeroValue26
  t26 := Tryz.underlying3
  a26 := Tryz.isAgg3
  z26 := Tryz.sizeOf3
  v26 := Tryz.zeroValue3
  t28 := Tryz.underlying131
  a28 := Tryz.isAgg131
  z28 := Tryz.sizeOf131
  v28 := Tryz.zeroValue131
  i26 := by kernel_rfl }
theorem sortI_any (blk off cap : Nat) (zs : List Int) (w : World) (hH : Holds (Value.int .i64) w blk off zs.toArray) (hblk : blk < w.heap.size) (hsz : zs.length < 4611686018427387904) :
    Calls Tryz.prog 98 #[.slice (some ⟨blk, off, none⟩) zs.length cap] w fun e w' =>
      e = .returned (.tuple #[]) ∧ ∃ n os, w' = grow (putRow (Value.int .i64) (Sort.ahead w n) blk off (zs.mergeSort fun x y => decide (x ≤ y)).toArray) os := Any.slices_Sort_int laySort blk off cap zs w hH hblk hsz
theorem sorts (m : Nat) : AnyZI.SortsIn Tryz.prog renSorted Fence.wide m :=
  ⟨fun blk off cap ss W hH hblk hsz => callsIn_wide.2 (sortI_any blk off cap ss W hH hblk hsz),
   fun p cap W => callsIn_wide.2 (Any.slices_Sort_int_none laySort p cap W)⟩
end Go.Proofs.YtkcfmjlcijhieaaGreat
namespace Go.Proofs.YtkcfmjlcijhieaaGreat
open Go.RowKit
attribute [local go_sem low] mk_extract
attribute [local go_sem] After.cell After.frozen mk_extract_end ByteArray.mk_append_mk
open Go.Sort Go.Maps
namespace Sp
/-- The numbers of pages that it made, in order. -/
def Sto.dirty (s : Sto) : List Int := (s.d.map (·.1)).mergeSort fun x y => decide (x ≤ y)
theorem Sto.dirty_len (s : Sto) : s.dirty.length = s.d.length := by
  unfold Sto.dirty
  rw [List.length_mergeSort, List.length_map]
end Sp
/-- How a value is read: not at all. -/
def blindR (_ : Value) : Option (DataW Unit × List MemPlace) := some (.lit (.bool true), [])
theorem keyOf_i (x : Int) (h : 2 ≤ x ∧ x < 400) : keyOf Tryz.prog IntT (.int .i64 x) = some (.int .i64 x) := by
  have hu : Tryz.prog.underlying IntT = some (.int .i64) := Tryz.underlying3
  have hw : (Lit.int .i64 x).wf = true := by
    have h1 : IntKind.i64.min = -9223372036854775808 := by decide
    have h2 : IntKind.i64.max = 9223372036854775807 := by decide
    show (decide (IntKind.i64.min ≤ x) && decide (x ≤ IntKind.i64.max)) = true
    rw [h1, h2, Bool.and_eq_true, decide_eq_true_eq, decide_eq_true_eq]
    omega
  simp [keyOf, hu, mapKey, hw]
theorem MapV.owns {w : World} {d : Nat} {D : List (Int × Value)} (h : MapV w d D) (hr : ∀ x ∈ D, 2 ≤ x.1 ∧ x.1 < 400) (hn : D.length ≤ 120) :
    ∃ D0 : DataW Unit, w.ownsMap Tryz.prog IntT blindR d D.length D0 ∧ (intKeys D0).Perm (D.map (·.1)) ∧ Maps.size D0 ≤ 120 := by
  obtain ⟨es, c, h1, h2, h3⟩ := h
  have hk : ∀ x ∈ es.toList, ∃ i : Int, x.key = .int .i64 i ∧ 2 ≤ i ∧ i < 400 := fun x hx => by
    have : (x.key, x.val) ∈ es.toList.map (fun e => (e.key, e.val)) := List.mem_map.2 ⟨x, hx, rfl⟩
    rw [h2] at this
    obtain ⟨y, hy, e⟩ := List.mem_map.1 this
    exact ⟨y.1, (congrArg Prod.fst e).symm, hr y hy⟩
  have hlen : es.size = D.length := by
    have := congrArg List.length h2
    simpa using this
  have hrd : ∀ x ∈ es.toList, ∃ i : Int, x.key = .int .i64 i ∧ WideElems.rd Tryz.prog IntT blindR x = some (.int .i64 i, .lit (.bool true)) := fun x hx => by
    obtain ⟨i, e, hi⟩ := hk x hx
    refine ⟨i, e, ?_⟩
    unfold WideElems.rd
    rw [e, keyOf_i i hi]
    rfl
  have hperm := WideShapes.sorted_perm (es.toList.map (WideElems.rg Tryz.prog IntT blindR))
  refine ⟨_, ⟨es, c, h1, ⟨by rw [hlen]; exact Nat.le_trans hn (by decide), h3, fun x hx => by
    obtain ⟨i, _, h⟩ := hrd x hx
    exact ⟨_, h⟩⟩, by rw [hlen]; exact Nat.le_refl _, rfl⟩, ?_, ?_⟩
  · refine (hperm.map fun p => Go.intOf p.1).trans (List.Perm.of_eq ?_)
    rw [List.map_map]
    have e1 : es.toList.map ((fun p => Go.intOf p.1) ∘ WideElems.rg Tryz.prog IntT blindR) = es.toList.map fun x => match x.key with | .int _ i => i | _ => 0 := by
      refine List.map_congr_left fun x hx => ?_
      obtain ⟨i, e, h⟩ := hrd x hx
      simp only [Function.comp, WideElems.rg, h, e, Option.getD_some]
      rfl
    rw [e1]
    have e2 := congrArg (List.map fun y : Value × Value => match y.1 with | .int _ i => i | _ => (0 : Int)) h2
    rw [List.map_map, List.map_map] at e2
    exact e2
  · show ((es.toList.map (WideElems.rg Tryz.prog IntT blindR)).foldr DataW.insert []).length ≤ 120
    rw [Go.length_sorted]
    simp
    omega
set_option maxRecDepth 100000 in
set_option maxHeartbeats 3200000 in
theorem stoDirty_any (M : Nat → Prop) (t f m d : Nat) (fv : Value) (V : List Txt) (s : Sp.Sto) (w : World) (h : StAt w M t f m d fv V s) (hok : s.Ok) :
    Calls Tryz.prog 36 #[.pointer (some ⟨t, 0, none⟩)] w fun e w' => ∃ u, e = .returned u ∧ w'.ownsRow w.heap.size IntT 1 u s.dirty.length (s.dirty.map iv) ∧ Below w.heap.size w w' := by
  refine (callsIn_wide (n := 6)).1 ?_
  have c1 := h.c1
  obtain ⟨D, hD, hP⟩ := h.dm
  have hkeys := hP.keys
  obtain ⟨D0, hown, hperm, hsz⟩ := hD.owns (fun x hx => by
    have : x.1 ∈ D.map (·.1) := List.mem_map.2 ⟨x, hx, rfl⟩
    rw [hkeys] at this
    obtain ⟨y, hy, e⟩ := List.mem_map.1 this
    rw [← e]
    exact hok.keys y hy) (by rw [hP.len]; exact hok.cnt)
  rw [hkeys] at hperm
  have hDIR : ∀ ss : List Int, ss.Perm (intKeys D0) → ss.mergeSort (fun x y => decide (x ≤ y)) = s.dirty := fun ss hs => Go.mergeSort_of_perm_i (hs.trans hperm)
  have hl : D.length = s.d.length := hP.len
  have hbl : d < w.heap.size := hD.lt
  have hseq : SeqGives Fence.wide 2 Tryz.prog 112 #[.pointer (some ⟨w.heap.size, 0, none⟩)] encZ (fun ss => ss.Perm (intKeys D0)) (Maps.size D0) (w.alloc (.cells #[.map (some d)] 123)) :=
    AnyZI.keys_gives (ρ := renKeys) { layKeys with } Fence.wide _ trivial rfl (by omega) w.heap.size d D.length D0 _ (by simp) (by simp) (by
      obtain ⟨es, clock, hb, Ft, hs, hD⟩ := hown
      exact ⟨es, clock, (Below.heap_alloc _ _ d hbl).trans hb, Ft, hs, hD⟩)
  have cK : ∀ mb W, CallsIn Fence.wide 5 Tryz.prog 76 #[.map mb] W fun e w' => e = .returned (.func (.func 112) #[] #[.pointer (some ⟨W.heap.size, 0, none⟩)]) ∧ w' = W.alloc (.cells #[.map mb] 123) := fun mb W => AnyZI.keys_in layKeys Fence.wide 5 trivial rfl mb W
  have cS := AnyZI.sorted_in laySorted Fence.wide 5 trivial trivial trivial trivial rfl (by omega) (sorts _) (enters_of Tryz.func98 (by kernel_rfl) rfl) 112 #[.pointer (some ⟨w.heap.size, 0, none⟩)] trivial (enters_of Tryz.func112 (by kernel_rfl) rfl) _ _ (Nat.le_trans hsz (by decide)) (by omega) _ hseq
  change CallsIn _ _ Tryz.prog 75 _ _ _ at cS
  have hfK : Fence.wide.fn 76 := trivial
  have hfS : Fence.wide.fn 75 := trivial
  have HOK := Lib.hid hDIR
  clear h hok hD hP hown hperm hkeys hseq hDIR
  refine callsIn_of_wp Tryz.func36 rfl trivial ?_ rfl
  simp only [Tryz.ntmps36, List.size_toArray, List.length_cons, List.length_nil, Nat.reduceAdd, Nat.reduceSub, Array.replicate_succ, Array.replicate_zero, List.push_toArray, List.append_toArray, List.nil_append, List.cons_append]
  gi_wp2_with (first
    | (gi_at_call 76; refine (cK _ _).mono ?_; rintro e w' ⟨rfl, rfl⟩)
    | (gi_at_call 75; refine cS.mono ?_; rintro e w' ⟨v, ss, rfl, hS, hrow, hnil, hb⟩))
  go_ret
  have e1 := HOK.out ss hS
  have e2 : ss.length = s.dirty.length := by rw [← e1, List.length_mergeSort]
  rw [e1, e2] at hrow
  exact ⟨v, rfl, own_base hrow (by simp), ((Below.refl _ w).alloc (Nat.le_refl _) _).trans (hb.mono (by simp))⟩
end Go.Proofs.YtkcfmjlcijhieaaGreat
namespace Go.Proofs.YtkcfmjlcijhieaaGreat
open Go.RowKit
attribute [local go_sem low] mk_extract
attribute [local go_sem] After.cell After.frozen mk_extract_end ByteArray.mk_append_mk
namespace Sp
def newStep (b : Int) (a : List Int) (n : Int) : List Int := if 2 ≤ n ∧ n < b then insI n a else a
/-- A new store. -/
def Sto.new (last most : Int) (L : List Int) : Sto :=
  { d := [], freed := [], avail := L.foldl (newStep (min (min (max last 2) 400) (min (max most 2) 400))) [], last := min (max last 2) 400, most := min (max most 2) 400 }
theorem newStep_rise {b n : Int} {a : List Int} (h : Rise a) (hb : b ≤ 400) : Rise (newStep b a n) := by
  unfold newStep
  split
  · rename_i hc
    exact h.ins hc.1 (by omega)
  · exact h
theorem foldl_rise {b : Int} (hb : b ≤ 400) : ∀ (L : List Int) {a : List Int}, Rise a → Rise (L.foldl (newStep b) a)
  | [], _, h => h
  | x :: L, a, h => by
    rw [List.foldl_cons]
    exact foldl_rise hb L (newStep_rise h hb)
theorem Sto.new_ok (last most : Int) (L : List Int) : (Sto.new last most L).Ok where
  last := by show 2 ≤ min (max last 2) 400 ∧ min (max last 2) 400 ≤ 400; omega
  most := by show 2 ≤ min (max most 2) 400 ∧ min (max most 2) 400 ≤ 400; omega
  avail := foldl_rise (by omega) L Rise.nil
  freed := Rise.nil
  nodup := List.nodup_nil
  keys := fun x h => by cases h
  cnt := Nat.zero_le _
end Sp
section
variable (M : Nat → Prop) (t f m d : Nat) (fv : Value) (V : List Txt) (s : Sp.Sto) (w : World) (h : StAt w M t f m d fv V s)
include h
theorem stoLast_any : Calls Tryz.prog 31 #[.pointer (some ⟨t, 0, none⟩)] w fun e w' => e = .returned (.int .i64 s.last) ∧ w' = w := by
  obtain ⟨uf, ua, hb, _, _⟩ := h.bt
  have c4 : w.cell? ⟨t, 4, none⟩ = some (.int .i64 s.last) := hb.cell 4
  clear h hb
  go_enter Tryz.func31, Tryz.ntmps31
  go_wp2
  go_ret
  exact ⟨by simp, rfl⟩
theorem stoAvail_any : Calls Tryz.prog 32 #[.pointer (some ⟨t, 0, none⟩)] w fun e w' => ∃ u, e = .returned u ∧ w'.ownsRow w.heap.size IntT 1 u s.avail.length (s.avail.map iv) ∧ Below w.heap.size w w' := by
  obtain ⟨uf, ua, hb, _, ha⟩ := h.bt
  have c3 : w.cell? ⟨t, 3, none⟩ = some ua := hb.cell 3
  have HC := Lib.hid (cloneI_any ha.iv)
  clear h hb ha
  go_enter Tryz.func32, Tryz.ntmps32
  go_wp2_with (go_at_call 74; refine HC.out.mono ?_; rintro e w2 ⟨ru, rfl, ho, hb2⟩)
  go_ret
  exact ⟨ru, rfl, ho, hb2⟩
theorem stoFreed_any : Calls Tryz.prog 35 #[.pointer (some ⟨t, 0, none⟩)] w fun e w' => ∃ u, e = .returned u ∧ w'.ownsRow w.heap.size IntT 1 u s.freed.length (s.freed.map iv) ∧ Below w.heap.size w w' := by
  obtain ⟨uf, ua, hb, ha, _⟩ := h.bt
  have c3 : w.cell? ⟨t, 2, none⟩ = some uf := hb.cell 2
  have HC := Lib.hid (cloneI_any ha.iv)
  clear h hb ha
  go_enter Tryz.func35, Tryz.ntmps35
  go_wp2_with (go_at_call 74; refine HC.out.mono ?_; rintro e w2 ⟨ru, rfl, ho, hb2⟩)
  go_ret
  exact ⟨ru, rfl, ho, hb2⟩
end
/-- In the loop: so many numbers are looked at. -/
structure NwS (w : World) (M : Nat → Prop) (t f m d : Nat) (fv : Value) (V : List Txt) (a b : Int) (L : List Int) (W : World) : Prop where
  st : StAt W M t f m d fv V { d := [], freed := [], avail := L, last := a, most := b }
  hb : Below w.heap.size w W
set_option maxRecDepth 100000 in
set_option maxHeartbeats 1600000 in
theorem stoNew_any (f m : Nat) (fv : Value) (V : List Txt) (last most : Int) (u : Value) (L : List Int) (w : World) (hf : FileAt w f fv m V) (hu : IV w u L) :
    Calls Tryz.prog 28 #[.pointer (some ⟨f, 0, none⟩), .int .i64 last, .int .i64 most, u] w fun e w' => ∃ t d M, e = .returned (.pointer (some ⟨t, 0, none⟩)) ∧ StAt w' M t f m d fv V (Sp.Sto.new last most L) ∧ (∀ k, k < w.heap.size → M k) ∧ Below w.heap.size w w' ∧ w.heap.size ≤ t ∧ w.heap.size ≤ d := by
  have HF := Lib.hid hf
  have HU := Lib.hid hu
  have HNE := Lib.hid (show Sp.Sto.new last most L = { d := [], freed := [], avail := L.foldl (Sp.newStep (min (min (max last 2) 400) (min (max most 2) 400))) [], last := min (max last 2) 400, most := min (max most 2) 400 } from rfl)
  generalize Sp.Sto.new last most L = N at *
  obtain ⟨A, c, rfl, hA⟩ := hu.form
  have hlen := hu.len
  have hmm := @run_makeMap Tryz.prog
  have HA := Lib.hid hA
  have HML := Lib.hid hf.map.lt
  clear hf hu hA
  go_enter Tryz.func28, Tryz.ntmps28
  go_upto_region 2 with fail
  have hl : min (max last 2) 400 ≤ 400 ∧ 2 ≤ min (max last 2) 400 := by omega
  have hm : min (max most 2) 400 ≤ 400 ∧ 2 ≤ min (max most 2) 400 := by omega
  generalize min (max last 2) 400 = l at *
  generalize min (max most 2) 400 = mo at *
  refine wp_gen (fun W => ∃ M, NwS w M (w.heap.size + 1) f m w.heap.size fv V l mo [] W ∧ ∀ k, k < w.heap.size → M k) ?_ ?_
  · have hb : Below w.heap.size w ((w.alloc (.map #[] 0)).alloc (.cells #[.pointer (some ⟨f, 0, none⟩), .map (some w.heap.size), .slice none 0 0, .slice none 0 0, .int .i64 l, .int .i64 mo] StoT)) := ((Below.refl _ _).alloc (Nat.le_refl _) _).alloc (by simp) _
    have hnil : ∀ W : World, RowAt W (.slice none 0 0) [] := fun W => ⟨⟨rfl, .inl ⟨rfl, rfl⟩⟩, Sp.Rise.nil⟩
    refine ⟨LowB ((w.alloc (.map #[] 0)).alloc (.cells #[.pointer (some ⟨f, 0, none⟩), .map (some w.heap.size), .slice none 0 0, .slice none 0 0, .int .i64 l, .int .i64 mo] StoT)), ⟨⟨⟨_, _, blk_second w _ _ _, hnil _, hnil _⟩, HF.out.go hb, ⟨[], ⟨#[], 0, ?_, rfl, ?_⟩, rfl⟩, ?_, ⟨?_, ?_⟩, fun k hk => hk⟩, hb⟩, fun k hk => ?_⟩
    · have := heap_alloc_new w (.map #[] 0)
      exact (((Below.refl _ _).alloc (Nat.le_refl _) _ : Below (w.alloc (.map #[] 0)).heap.size (w.alloc (.map #[] 0)) _).block _ (by rw [World.size_alloc]; omega)).trans this
    · simp [MapKept.Stamped]
    · have := HML.out; omega
    · show _ < _
      simp
    · show _ < _
      simp
      omega
    · show k < _
      simp
      omega
  rintro w1 ⟨M, hs, hMM⟩
  have S := Lib.hid hs
  have HMM := Lib.hid hMM
  clear hs hMM HF hmm
  go_wp2_with fail
  go_loopw [24] (fun i wr => ∃ j : Nat, i = .int .i64 j ∧ j ≤ L.length ∧ NwS w M (w.heap.size + 1) f m w.heap.size fv V l mo ((L.take j).foldl (Sp.newStep (min l mo)) []) wr) (fun i _ => L.length - (intOf i).toNat)
  case atStart => exact ⟨0, rfl, Nat.zero_le _, S.out⟩
  case round =>
    obtain ⟨j, rfl, hj, hs⟩ := hrel
    replace S := Lib.hid hs
    clear hs
    by_cases hjl : j < L.length
    · obtain ⟨b, off, rfl, hc⟩ : ∃ b off, A = some ⟨b, off, none⟩ ∧ ∀ j, j < L.length → w.cell? ⟨b, off + j, none⟩ = some (.int .i64 (L.getD j 0)) := by
        rcases HA.out with ⟨_, e⟩ | h
        · rw [e] at hjl; simp at hjl
        · exact h
      have hx := (S.out.hb.cell (p := ⟨b, off + j, none⟩) (cell_lt' (hc j hjl))).trans (hc j hjl)
      have HTK := Lib.hid (show (L.take (j + 1)).foldl (Sp.newStep (min l mo)) [] = Sp.newStep (min l mo) ((L.take j).foldl (Sp.newStep (min l mo)) []) (L.getD j 0) from by
        rw [List.take_succ_eq_append_getElem hjl, List.foldl_append, List.foldl_cons, List.foldl_nil, List.getD_eq_getElem?_getD, List.getElem?_eq_getElem hjl]
        rfl)
      obtain ⟨uf, ua, hb, _, ha⟩ := S.out.st.bt
      have HT := Lib.hid hb
      have HU := Lib.hid ha
      have c3 : wr.cell? ⟨w.heap.size + 1, 3, none⟩ = some ua := hb.cell 3
      have c4 : wr.cell? ⟨w.heap.size + 1, 4, none⟩ = some (.int .i64 l) := hb.cell 4
      have c5 : wr.cell? ⟨w.heap.size + 1, 5, none⟩ = some (.int .i64 mo) := hb.cell 5
      have htw := hb.lt
      clear hb ha hc HA
      generalize (L.take j).foldl (Sp.newStep (min l mo)) [] = acc at *
      generalize L.getD j 0 = x at *
      go_upto_region 5 with fail
      by_cases h2 : 2 ≤ x
      · by_cases h4 : x < min l mo
        · have HST := Lib.hid (HTK.out.trans (if_pos ⟨h2, h4⟩))
          have hx4 : x < 400 := by omega
          go_region
          have HRI := Lib.hid HU.out.ok
          have S2 := Lib.hid (show NwS w M (w.heap.size + 1) f m w.heap.size fv V l mo acc wr.drew from ⟨S.out.st.go (Below.refl _ _).drew, below_drewN S.out.hb 1⟩)
          have HT2 := Lib.hid (show Blk wr.drew (w.heap.size + 1) StoT #[.pointer (some ⟨f, 0, none⟩), .map (some w.heap.size), uf, ua, .int .i64 l, .int .i64 mo] from HT.out)
          have HU2 := Lib.hid (HU.out.iv.go (Below.refl _ _).drew)
          have htw2 : w.heap.size + 1 < wr.drew.heap.size := htw
          have hmeas : wr.drew.heap.size = wr.heap.size := rfl
          clear c3 c4 c5 hx HT HU S htw hmeas
          generalize wr.drew = w3 at *
          have c3 : w3.cell? ⟨w.heap.size + 1, 3, none⟩ = some ua := HT2.out.cell 3
          go_wp2_with (go_at_call 65; refine (idsWith_any ua acc x w3 HU2.out HRI.out.1).mono ?_; rintro e w4 ⟨ru, rfl, ho, hb4⟩; obtain ⟨Ao, co, rfl⟩ := own_slice ho; have HO := Lib.hid ho; have HB4 := Lib.hid hb4; clear ho hb4; have c34 : w4.cell? ⟨w.heap.size + 1, 3, none⟩ = some ua := (HT2.out.below HB4.out htw2).cell 3; have f34 := (HT2.out.below HB4.out htw2).frozen 3)
          have hst := (S2.out.st.go HB4.out).avail_ (L := Sp.insI x acc) ⟨own_base HO.out (Nat.zero_le _), HRI.out.ins h2 hx4⟩
          have hb4 : Below w.heap.size w w4 := S2.out.hb.trans (HB4.out.mono (by have := S2.out.hb.size; omega))
          have hb5 : Below w.heap.size w (w4.setCell ⟨w.heap.size + 1, 3, none⟩ (.slice Ao (Sp.insI x acc).length co)) := hb4.trans ((Chg.set1 w4 (w.heap.size + 1) 3 _).below hb4.size (fun k hk e => by
            have e : k = w.heap.size + 1 := e
            omega))
          go_roundw
          case rel => exact ⟨j + 1, by go_num, by omega, by rw [HST.out]; exact ⟨hst, hb5⟩⟩
          case measure => simp [intOf]; omega
        · have HST := Lib.hid (HTK.out.trans (if_neg fun h => h4 h.2))
          go_region
          go_wp2_with fail
          go_roundw
          case rel => exact ⟨j + 1, by go_num, by omega, by rw [HST.out]; exact ⟨S.out.st.go (Below.refl _ _).drew, below_drewN S.out.hb 1⟩⟩
          case measure => simp [intOf]; omega
      · have HST := Lib.hid (HTK.out.trans (if_neg fun h => h2 h.1))
        go_region
        go_wp2_with fail
        go_roundw
        case rel => exact ⟨j + 1, by go_num, by omega, by rw [HST.out]; exact ⟨S.out.st.go (Below.refl _ _).drew, below_drewN S.out.hb 1⟩⟩
        case measure => simp [intOf]; omega
    · have hje : j = L.length := by omega
      subst hje
      have HNE2 := Lib.hid (show N = { d := [], freed := [], avail := (L.take L.length).foldl (Sp.newStep (min l mo)) [], last := l, most := mo } from by rw [List.take_length]; exact HNE.out)
      go_wp2_with fail
      go_ret
      exact ⟨w.heap.size + 1, w.heap.size, M, by simp, by rw [HNE2.out]; exact S.out.st, HMM.out, S.out.hb, by omega, Nat.le_refl _⟩
end Go.Proofs.YtkcfmjlcijhieaaGreat
namespace Go.Proofs.YtkcfmjlcijhieaaGreat
open Go.RowKit
attribute [local go_sem low] mk_extract
attribute [local go_sem] After.cell After.frozen mk_extract_end ByteArray.mk_append_mk
namespace Sp
theorem lf_a : isPage (lfPg [97]) = true := by kernel_rfl
theorem lf_c : isPage (lfPg [99]) = true := by kernel_rfl
theorem lf_k : isPage (lfPg [107]) = true := by kernel_rfl
def kV : List Txt := [[], [], bytes (lfPg [97]), bytes (lfPg [98])]
def kS0 : Sto := ⟨[], [], [3], 4, 6⟩
def kS1 : Sto := ⟨[(3, lfPg [99])], [], [], 4, 6⟩
def kS2 : Sto := ⟨[(3, lfPg [99]), (4, lfPg [97])], [2], [], 5, 6⟩
def kS3 : Sto := ⟨[(3, lfPg [99]), (4, lfPg [97]), (5, lfPg [97])], [2], [], 6, 6⟩
theorem k_new : Sto.new 4 6 [3] = kS0 := by kernel_rfl
theorem k_add : kS0.add (lfPg [99]) = ((3, none), kS1) := by kernel_rfl
theorem k_t1 : kS1.touch kV 2 = ((4, none), kS2) := by kernel_rfl
theorem k_t2 : kS2.touch kV 2 = ((5, none), kS3) := by kernel_rfl
theorem k_rd : kS3.read kV 4 = (lfPg [97], none) := by kernel_rfl
theorem k_bad : kS3.add pg0 = ((0, some 10), kS3) := by kernel_rfl
theorem k_one : kS3.read kV 1 = (pg0, some 14) := by kernel_rfl
theorem k_dirty : kS3.dirty = [3, 4, 5] := by
  unfold Sto.dirty
  exact List.mergeSort_of_pairwise (by decide)
theorem kV_sz : ∀ s ∈ kV, s.length ≤ 4611686018427387904 := by decide +kernel
end Sp
end Go.Proofs.YtkcfmjlcijhieaaGreat
