/- copyholdhelp.Tree: the document's trees of numbers, on a file. Law 9's stores over trees of numbers in memory. law 9's known tree. -/
import Derived.Test.YtlpmjeiogdlifaaGreatQB09
import Derived.Test.YtlpmjeiogdlifaaGreatQB10
import Derived.Test.YtlpmjeiogdlifaaGreatQB13
import Derived.Test.YtlpmjeiogdlifaaGreatQB14
import Derived.Test.YtlpmjeiogdlifaaGreatQB21
import Derived.Test.YtlpmjeiogdlifaaGreatQB28
import Derived.Test.YtlpmjeiogdlifaaGreatQB35
set_option linter.unusedSimpArgs false
set_option linter.unusedVariables false
namespace Go.Proofs.YtlpmjeiogdlifaaGreat
open Go.RowKit
attribute [local go_sem low] mk_extract
attribute [local go_sem] After.cell After.frozen mk_extract_end ByteArray.mk_append_mk
structure TgS (w W : World) (f s : Nat) (P : List Sp.Page) (V : List Txt) : Prop where
  df : DfAt W f V
  st : StF W s (.pointer (some ⟨f, 0, none⟩)) P
  hb : Below w.heap.size w W
  hf : w.heap.size ≤ f
  hs : w.heap.size ≤ s
theorem TgS.go {w W W' : World} {f s : Nat} {P : List Sp.Page} {V : List Txt} (h : TgS w W f s P V) (hb : Below W.heap.size W W') : TgS w W' f s P V :=
  ⟨h.df.go hb, h.st.go hb, h.hb.trans (hb.mono h.hb.size), h.hf, h.hs⟩
theorem TgS.put {w W W' : World} {f s : Nat} {P P' : List Sp.Page} {V : List Txt} (h : TgS w W f s P V) (hk : Chg (OneM s) W W') (hs : StF W' s (.pointer (some ⟨f, 0, none⟩)) P') : TgS w W' f s P' V :=
  ⟨h.df.off h.st hk, hs, h.hb.trans (hk.below h.hb.size fun k hk e => by have : k = s := e; have := h.hs; omega), h.hf, h.hs⟩
theorem TgS.write {w W W' : World} {f s : Nat} {P : List Sp.Page} {V V' : List Txt} (h : TgS w W f s P V) (hk : Chg (OneM f) W W') (hd : DfAt W' f V') : TgS w W' f s P V' :=
  ⟨hd, h.st.off h.df hk, h.hb.trans (hk.below h.hb.size fun k hk e => by have : k = f := e; have := h.hf; omega), h.hf, h.hs⟩
theorem U8s.cell {w W : World} {A : Option Addr} {l : List Nat} (h : U8s w A l) (hb : Below w.heap.size w W) {j : Nat} (hj : j < l.length) : ∃ b off, A = some ⟨b, off, none⟩ ∧ W.cell? ⟨b, off + j, none⟩ = some (.int .u8 ((l.getD j 0 : Nat) : Int)) := by
  obtain ⟨b, off, e, hlt, hc⟩ := h.at_ hj
  exact ⟨b, off, e, (hb.cell (p := ⟨b, off + j, none⟩) hlt).trans (hc j hj)⟩
theorem exec_load_at {P : Program} {o : Oper} {a : Act} (ty : TypeId) (x : Operand) (ho : o.op = .load ty x) (g off : Nat) (hx : a.eval x = .pointer (some ⟨g, off, none⟩)) (w : World) (cs : Array Value) (d : TypeDesc) (hc : ∀ j v, cs[j]? = some v → w.cell? ⟨g, off + j, none⟩ = some v)
    (hu : P.underlying ty = some d) (hd : (match d with | .struct _ | .array _ _ => true | _ => false) = true) (hi : (P.info? ty).map (·.size) = some cs.size) : (execOp a.eval o).run P w = .ok (.value (.agg cs)) w := by
  unfold execOp
  simp only [ho, hx, Instr.loadAt, Instr.sureAddr, Sem.run_bind, Sem.run_pure, Result.andThen_ok, run_loadVar_at w g off ty cs d hc hu hd hi]
set_option maxRecDepth 100000 in
set_option maxHeartbeats 1600000 in
theorem tree_any (keys : List Nat) (A : Option Addr) (c : Nat) (w : World) (hk : U8s w A keys) (h256 : ∀ k ∈ keys, k < 256) (hn : keys.length ≤ 120) :
    Calls Tryz.prog 16 #[.slice A keys.length c] w fun e w' => ∃ f P, e = .returned (.tuple #[.pointer (some ⟨f, 0, none⟩), .int .i64 ((Sp.Rt.root (Sp.treeN keys).1 : Nat) : Int), .int .i64 ((P.length + 2 : Nat) : Int)]) ∧
      w.heap.size ≤ f ∧ DfAt w' f ([[], []] ++ P.map Sp.bytes) ∧ Sp.TreeAt keys P ∧ Below w.heap.size w w' := by
  have hal : Below w.heap.size w (w.alloc (.cells #[.string ⟨#[]⟩, .string ⟨#[]⟩] StrT)) := (Below.refl _ _).alloc (Nat.le_refl _) _
  have HNF := Lib.hid (dNewFile_any [[], []] w.heap.size 0 2 (M := NoM) (w.alloc (.cells #[.string ⟨#[]⟩, .string ⟨#[]⟩] StrT)) ⟨by simp, .inr ⟨_, _, rfl, (Blk.new w StrT _).lt, id, fun j u hu => by
    rw [Nat.zero_add, (Blk.new w StrT _).cell]
    simpa [tv] using hu⟩⟩ (by simp) (by simp) (by simp))
  have HAL := Lib.hid hal
  have HK := Lib.hid hk
  have H256 := Lib.hid h256
  clear hal hk h256
  go_enter Tryz.func16, Tryz.ntmps16
  go_upto_region 2 with (go_at_call 40; refine HNF.out.mono ?_; rintro e w2 ⟨f, rfl, hf, hd, hb⟩; have HF := Lib.hid hf; have HD := Lib.hid hd; have HB := Lib.hid (HAL.out.trans (hb.mono HAL.out.size)); clear hf hd hb HNF)
  go_upto_region 3 with (go_at_call 41; refine (dStoreNew_any (some ⟨f, 0, none⟩) _).mono ?_; rintro e w3 ⟨s, rfl, hs, hst, hb⟩; have S0 := Lib.hid (show TgS w w3 f s [] [[], []] from ⟨HD.out.go hb, hst, HB.out.trans (hb.mono HB.out.size), Nat.le_trans (HAL.out.size) HF.out, Nat.le_trans HB.out.size hs⟩); clear hs hst hb)
  clear HF HD HB HAL
  go_upto_region 5 with fail
  go_wp2_with fail
  go_loopw [7, 8] (fun rv iv wr => ∃ (j : Nat) (P : List Sp.Page), j ≤ keys.length ∧ iv = .int .i64 (j : Int) ∧ rv = .int .i64 ((Sp.Rt.root (Sp.treeN (keys.take j)).1 : Nat) : Int) ∧ Hid (Sp.TreeAt (keys.take j) P) ∧ Hid (TgS w wr f s P [[], []])) (fun _ iv _ => keys.length - (intOf iv).toNat)
  case atStart => exact ⟨0, [], Nat.zero_le _, rfl, rfl, Lib.hid Sp.TreeAt.start, S0⟩
  case round =>
    obtain ⟨j, P, hj, rfl, rfl, TA, S⟩ := hrel
    clear S0
    by_cases hlt : j < keys.length
    · obtain ⟨kb, ko, rfl, hkc⟩ := HK.out.cell S.out.hb hlt
      have hk2 := H256.out _ (show keys.getD j 0 ∈ keys by simp [List.getD, hlt])
      have htk : ∀ k ∈ keys.take j, k < 256 := fun k hk => H256.out k (List.mem_of_mem_take hk)
      have hbd := TA.out.bound htk hk2
      rw [List.length_take, Nat.min_eq_left hj] at hbd
      have HNX := Lib.hid (fun P' h1 h2 => show Sp.TreeAt (keys.take (j + 1)) P' by
        rw [Sp.take_snoc (d := 0) hlt]
        exact TA.out.next htk hk2 h1 h2)
      have HRT := Lib.hid (show (Sp.treeN (keys.take (j + 1))).1 = (Sp.putR (Sp.itN (keys.getD j 0)) (Sp.treeN (keys.take j)).1 (Sp.treeN (keys.take j)).2).1 by rw [Sp.take_snoc (d := 0) hlt, Sp.treeN_snoc])
      have HAT := Lib.hid TA.out.at_
      have HBD := Lib.hid hbd
      have HIS := Lib.hid (Sp.itN_is _ hk2)
      have HPT := Lib.hid (putw_any s (.pointer (some ⟨f, 0, none⟩)) P (Sp.treeN (keys.take j)).1 (Sp.treeN (keys.take j)).2 (Sp.itN (keys.getD j 0)) none 0)
      clear htk hbd TA
      generalize keys.getD j 0 = k at *
      generalize (Sp.treeN (keys.take j)).2 = n at *
      generalize (Sp.treeN (keys.take j)).1 = o at *
      go_upto_region 8 with (first
        | (go_at_call 21; refine (key_any k hk2 _).mono ?_; rintro e w4 ⟨rfl, hb4⟩; have S4 := Lib.hid (S.out.go hb4); clear hb4)
        | (go_at_call 42; refine (HPT.out _ S4.out.st Row.nil_ HIS.out HAT.out (by have := HBD.out; omega)).mono ?_; rintro e w5 ⟨rfl, P', hst, hat, hit, hck⟩; have S5 := Lib.hid (S4.out.put hck hst); have HTA := Lib.hid (HNX.out P' hat hit); clear hst hat hit hck))
      go_wp2_with fail
      refine ⟨⟨j + 1, P', by omega, by go_num, by rw [HRT.out], HTA, S5⟩, by simp [intOf]; omega⟩
    · obtain rfl : j = keys.length := by omega
      have ta : Sp.TreeAt keys P := by have := TA.out; rwa [List.take_length] at this
      have HTA := Lib.hid ta
      have hPl := ta.len
      clear TA ta
      rw [List.take_length]
      generalize hrt : Sp.Rt.root (Sp.treeN keys).1 = rt at *
      go_upto_region 11 with fail
      go_loopw [11] (fun iv wr => ∃ i : Nat, i ≤ P.length ∧ iv = .int .i64 (i : Int) ∧ Hid (TgS w wr f s P ([[], []] ++ (P.take i).map Sp.bytes))) (fun iv _ => P.length - (intOf iv).toNat)
      case atStart => exact ⟨0, Nat.zero_le _, rfl, S⟩
      case round =>
        obtain ⟨i, hi, rfl, S⟩ := hrel
        obtain ⟨vi, vp, hst, _⟩ := S.out.st
        obtain ⟨Ai, ci, rfl⟩ := own_form hst.oi
        obtain ⟨Ap, cp, rfl⟩ : ∃ A c, vp = .slice A P.length c := by obtain ⟨xs, h1, _⟩ := hst.op; exact own_form h1
        have c5 : wr.cell? ⟨s, 5, none⟩ = some (.slice Ai P.length ci) := hst.bs.cell 5
        have c6 : wr.cell? ⟨s, 6, none⟩ = some (.slice Ap P.length cp) := hst.bs.cell 6
        have hsw := hst.bs.lt
        have HST := Lib.hid hst
        clear hst
        by_cases hlt2 : i < P.length
        · have hi400 : P.length ≤ 400 := by omega
          obtain ⟨gi, ci', e1, hgi, hgc⟩ := own_some HST.out.oi (by omega)
          simp only [Value.slice.injEq] at e1
          obtain ⟨rfl, _, rfl⟩ := e1
          obtain ⟨xs, ho, hpc⟩ := HST.out.op
          obtain ⟨gp, cp', e2, hgp, hpq⟩ := own_some ho (by omega)
          simp only [Value.slice.injEq] at e2
          obtain ⟨rfl, _, rfl⟩ := e2
          obtain ⟨r, hpr, hcx⟩ := hpc.at_ (List.getElem?_eq_getElem hlt2)
          have CP := Lib.hid (fun j v (hv : (pageV P[i] r).toArray[j]? = some v) => show wr.cell? ⟨gp, i * 14 + j, none⟩ = some v from hpq _ _ (hcx j v (by simpa using hv)))
          have CI := Lib.hid (show wr.cell? ⟨gi, i, none⟩ = some (.int .i64 ((i + 2 : Nat) : Int)) from hgc i _ (idsV_at hlt2))
          have C5 := Lib.hid c5
          have C6 := Lib.hid c6
          have HPR := Lib.hid hpr
          have HWV := Lib.hid (show Sp.writeV ([[], []] ++ (P.take i).map Sp.bytes) (i + 2) (Sp.bytes P[i]) = [[], []] ++ (P.take (i + 1)).map Sp.bytes by
            have hl : ([[], []] ++ (P.take i).map Sp.bytes).length = i + 2 := by simp; omega
            have := Sp.writeV_end (V := [[], []] ++ (P.take i).map Sp.bytes) (s := Sp.bytes P[i])
            rw [hl] at this
            rw [this, List.take_succ_eq_append_getElem hlt2, List.map_append, List.append_assoc]
            rfl)
          clear hpr hcx hpq hgc ho hpc c6
          generalize P[i] = p at *
          go_upto_region 13 with fail
          clear c5
          refine wp_region_in 17 16 (fun W => Below wr.heap.size wr W) (by kernel_rfl) rfl ?_
          refine wpIn_take 0 (.pointer (some ⟨f, 0, none⟩)) rfl (by kernel_rfl) (by kernel_rfl) (by kernel_rfl) (by kernel_rfl) (by kernel_rfl) (by rfl) (fun _ _ _ h => h) (Below.refl wr.heap.size wr).drew (fun W hW => by go_simp; all_goals first | with_reducible rfl | rfl) ?_
          simp only [List.getElem_toArray, List.getElem_cons_zero, List.getElem_cons_succ, Act.put, List.setIfInBounds_toArray, List.set_cons_succ, List.set_cons_zero]
          refine wpIn_takeV 1 [2, 3, 4, 6, 7, 16] (.pointer (some ⟨s, 0, none⟩)) rfl (by kernel_rfl) (by kernel_rfl) (by kernel_rfl) (by kernel_rfl) (by kernel_rfl) (by kernel_rfl) (by kernel_rfl) (by rfl) (fun _ _ _ h => h) (Below.refl wr.heap.size wr).drew (fun W hW => by go_simp; all_goals first | with_reducible rfl | rfl) ?_
          simp only [List.getElem_toArray, List.getElem_cons_zero, List.getElem_cons_succ, Act.put, List.setIfInBounds_toArray, List.set_cons_succ, List.set_cons_zero]
          refine wpIn_takeV 2 [3, 4, 6, 7, 16] (.pointer (some ⟨s, 0, none⟩)) rfl (by kernel_rfl) (by kernel_rfl) (by kernel_rfl) (by kernel_rfl) (by kernel_rfl) (by kernel_rfl) (by kernel_rfl) (by rfl) (fun _ _ _ h => h) (Below.refl wr.heap.size wr).drew (fun W hW => by go_simp; all_goals first | with_reducible rfl | rfl) ?_
          simp only [List.getElem_toArray, List.getElem_cons_zero, List.getElem_cons_succ, Act.put, List.setIfInBounds_toArray, List.set_cons_succ, List.set_cons_zero]
          refine wpIn_takeV 3 [4, 6, 7, 16] (.pointer (some ⟨s, 5, none⟩)) rfl (by kernel_rfl) (by kernel_rfl) (by kernel_rfl) (by kernel_rfl) (by kernel_rfl) (by kernel_rfl) (by kernel_rfl) (by rfl) (fun _ _ _ h => h) (Below.refl wr.heap.size wr).drew (fun W hW => by go_simp; all_goals first | with_reducible rfl | rfl) ?_
          simp only [List.getElem_toArray, List.getElem_cons_zero, List.getElem_cons_succ, Act.put, List.setIfInBounds_toArray, List.set_cons_succ, List.set_cons_zero]
          refine wpIn_takeV 4 [6, 7, 16] (.slice (some ⟨gi, 0, none⟩) P.length ci) rfl (by kernel_rfl) (by kernel_rfl) (by kernel_rfl) (by kernel_rfl) (by kernel_rfl) (by kernel_rfl) (by kernel_rfl) (by rfl) (fun _ _ _ h => h) (Below.refl wr.heap.size wr).drew (fun W hW => by have hc := (hW.cell (p := ⟨s, 5, none⟩) hsw).trans C5.out; go_simp; all_goals first | with_reducible rfl | rfl) ?_
          simp only [List.getElem_toArray, List.getElem_cons_zero, List.getElem_cons_succ, Act.put, List.setIfInBounds_toArray, List.set_cons_succ, List.set_cons_zero]
          refine wpIn_takeV 5 [6, 7, 16] (.int .i64 (i : Int)) rfl (by kernel_rfl) (by kernel_rfl) (by kernel_rfl) (by kernel_rfl) (by kernel_rfl) (by kernel_rfl) (by kernel_rfl) (by rfl) (fun _ _ _ h => h) (Below.refl wr.heap.size wr).drew (fun W hW => by go_simp; all_goals first | with_reducible rfl | rfl) ?_
          simp only [List.getElem_toArray, List.getElem_cons_zero, List.getElem_cons_succ, Act.put, List.setIfInBounds_toArray, List.set_cons_succ, List.set_cons_zero]
          refine wpIn_takeV 6 [7, 16] (.pointer (some ⟨gi, i, none⟩)) rfl (by kernel_rfl) (by kernel_rfl) (by kernel_rfl) (by kernel_rfl) (by kernel_rfl) (by kernel_rfl) (by kernel_rfl) (by rfl) (fun _ _ _ h => h) (Below.refl wr.heap.size wr).drew (fun W hW => by go_simp; all_goals first | with_reducible rfl | rfl) ?_
          simp only [List.getElem_toArray, List.getElem_cons_zero, List.getElem_cons_succ, Act.put, List.setIfInBounds_toArray, List.set_cons_succ, List.set_cons_zero]
          refine wpIn_take 7 (.int .i64 ((i + 2 : Nat) : Int)) rfl (by kernel_rfl) (by kernel_rfl) (by kernel_rfl) (by kernel_rfl) (by kernel_rfl) (by rfl) (fun _ _ _ h => h) (Below.refl wr.heap.size wr).drew (fun W hW => by have hc := (hW.cell (p := ⟨gi, i, none⟩) hgi).trans CI.out; go_simp; all_goals first | with_reducible rfl | rfl) ?_
          simp only [List.getElem_toArray, List.getElem_cons_zero, List.getElem_cons_succ, Act.put, List.setIfInBounds_toArray, List.set_cons_succ, List.set_cons_zero]
          refine wpIn_takeV 8 [9, 10, 11, 13, 14, 15, 16] (.pointer (some ⟨s, 0, none⟩)) rfl (by kernel_rfl) (by kernel_rfl) (by kernel_rfl) (by kernel_rfl) (by kernel_rfl) (by kernel_rfl) (by kernel_rfl) (by rfl) (fun _ _ _ h => h) (Below.refl wr.heap.size wr).drew (fun W hW => by go_simp; all_goals first | with_reducible rfl | rfl) ?_
          simp only [List.getElem_toArray, List.getElem_cons_zero, List.getElem_cons_succ, Act.put, List.setIfInBounds_toArray, List.set_cons_succ, List.set_cons_zero]
          refine wpIn_takeV 9 [10, 11, 13, 14, 15, 16] (.pointer (some ⟨s, 0, none⟩)) rfl (by kernel_rfl) (by kernel_rfl) (by kernel_rfl) (by kernel_rfl) (by kernel_rfl) (by kernel_rfl) (by kernel_rfl) (by rfl) (fun _ _ _ h => h) (Below.refl wr.heap.size wr).drew (fun W hW => by go_simp; all_goals first | with_reducible rfl | rfl) ?_
          simp only [List.getElem_toArray, List.getElem_cons_zero, List.getElem_cons_succ, Act.put, List.setIfInBounds_toArray, List.set_cons_succ, List.set_cons_zero]
          refine wpIn_takeV 10 [11, 13, 14, 15, 16] (.pointer (some ⟨s, 6, none⟩)) rfl (by kernel_rfl) (by kernel_rfl) (by kernel_rfl) (by kernel_rfl) (by kernel_rfl) (by kernel_rfl) (by kernel_rfl) (by rfl) (fun _ _ _ h => h) (Below.refl wr.heap.size wr).drew (fun W hW => by go_simp; all_goals first | with_reducible rfl | rfl) ?_
          simp only [List.getElem_toArray, List.getElem_cons_zero, List.getElem_cons_succ, Act.put, List.setIfInBounds_toArray, List.set_cons_succ, List.set_cons_zero]
          refine wpIn_takeV 11 [13, 14, 15, 16] (.slice (some ⟨gp, 0, none⟩) P.length cp) rfl (by kernel_rfl) (by kernel_rfl) (by kernel_rfl) (by kernel_rfl) (by kernel_rfl) (by kernel_rfl) (by kernel_rfl) (by rfl) (fun _ _ _ h => h) (Below.refl wr.heap.size wr).drew (fun W hW => by have hc := (hW.cell (p := ⟨s, 6, none⟩) hsw).trans C6.out; go_simp; all_goals first | with_reducible rfl | rfl) ?_
          simp only [List.getElem_toArray, List.getElem_cons_zero, List.getElem_cons_succ, Act.put, List.setIfInBounds_toArray, List.set_cons_succ, List.set_cons_zero]
          refine wpIn_takeV 12 [13, 14, 15, 16] (.int .i64 (i : Int)) rfl (by kernel_rfl) (by kernel_rfl) (by kernel_rfl) (by kernel_rfl) (by kernel_rfl) (by kernel_rfl) (by kernel_rfl) (by rfl) (fun _ _ _ h => h) (Below.refl wr.heap.size wr).drew (fun W hW => by go_simp; all_goals first | with_reducible rfl | rfl) ?_
          simp only [List.getElem_toArray, List.getElem_cons_zero, List.getElem_cons_succ, Act.put, List.setIfInBounds_toArray, List.set_cons_succ, List.set_cons_zero]
          refine wpIn_takeV 13 [14, 15, 16] (.pointer (some ⟨gp, i * 14, none⟩)) rfl (by kernel_rfl) (by kernel_rfl) (by kernel_rfl) (by kernel_rfl) (by kernel_rfl) (by kernel_rfl) (by kernel_rfl) (by rfl) (fun _ _ _ h => h) (Below.refl wr.heap.size wr).drew (fun W hW => by go_simp; all_goals first | with_reducible rfl | rfl) ?_
          simp only [List.getElem_toArray, List.getElem_cons_zero, List.getElem_cons_succ, Act.put, List.setIfInBounds_toArray, List.set_cons_succ, List.set_cons_zero]
          refine wpIn_takeV 14 [15, 16] (.agg (pageV p r).toArray) rfl (by kernel_rfl) (by kernel_rfl) (by kernel_rfl) (by kernel_rfl) (by kernel_rfl) (by kernel_rfl) (by kernel_rfl) (by rfl) (fun _ _ _ h => h) ((Below.refl wr.heap.size wr).drew) (fun W hW => exec_load_at PageT _ rfl gp (i * 14) rfl W (pageV p r).toArray _ (fun j v hv => (hW.cell (p := ⟨gp, i * 14 + j, none⟩) hgp).trans (CP.out j v hv)) Tryz.underlying59 rfl (by kernel_rfl)) ?_
          simp only [List.getElem_toArray, List.getElem_cons_zero, List.getElem_cons_succ, Act.put, List.setIfInBounds_toArray, List.set_cons_succ, List.set_cons_zero]
          refine wpIn_one 15 rfl (by kernel_rfl) (fun _ => (Below.refl wr.heap.size wr).drew) (by rfl) ?_
          go_simp
          go_at_call 24
          refine (dBytes_any (M := OneM s) p r _ (HPR.out.go ((Below.refl _ _).drew))).mono ?_
          rintro e w4 ⟨rfl, hb4⟩
          have S4 := Lib.hid ((S.out.go ((Below.refl _ _).drew)).go hb4)
          have hB4 : Below wr.heap.size wr w4 := ((Below.refl wr.heap.size wr).drew).trans hb4
          dsimp only
          try simp only [List.getElem_toArray, List.getElem_cons_zero, List.getElem_cons_succ, Act.put, List.setIfInBounds_toArray, List.set_cons_succ, List.set_cons_zero]
          refine wpIn_one 16 rfl (by kernel_rfl) (fun _ => hB4) (by rfl) ?_
          go_simp
          go_at_call 43
          refine (dWrite_any f ([[], []] ++ (P.take i).map Sp.bytes) (i + 2) (Sp.bytes p) _ S4.out.df (by simp) (by simp; omega) (by omega)).mono ?_
          rintro e w5 ⟨rfl, hd5, hk5⟩
          have S5 := Lib.hid (HWV.out ▸ S4.out.write hk5 hd5)
          clear hd5 hk5
          dsimp only
          try simp only [List.getElem_toArray, List.getElem_cons_zero, List.getElem_cons_succ, Act.put, List.setIfInBounds_toArray, List.set_cons_succ, List.set_cons_zero]
          refine wpIn_done (by kernel_rfl) (by kernel_rfl) ?_ _
          go_wp2_with fail
          refine ⟨⟨i + 1, by omega, by go_num, S5⟩, by simp [intOf]; omega⟩
        · obtain rfl : i = P.length := by omega
          have S := Lib.hid (show TgS w wr f s P ([[], []] ++ P.map Sp.bytes) by have := S.out; rwa [List.take_length] at this)
          go_upto_region 15 with (go_at_call 44; refine (dSync_any f ([[], []] ++ P.map Sp.bytes) _ S.out.df (by simp) (by simp; omega)).mono ?_; rintro e w4 ⟨rfl, hd4, hk4⟩; have S4 := Lib.hid (S.out.write hk4 hd4); clear hd4 hk4)
          have c1 : w4.cell? ⟨s, 1, none⟩ = some (.int .i64 ((P.length + 2 : Nat) : Int)) := by
            obtain ⟨_, _, h, _⟩ := S4.out.st
            exact h.bs.cell 1
          clear c5 c6 S
          obtain ⟨np, hnp⟩ : ∃ np : Nat, np = P.length + 2 := ⟨_, rfl⟩
          rw [← hnp] at c1
          have HNP := Lib.hid hnp
          clear hnp
          go_region
          go_wp2_with fail
          refine bodyPost_ret (v := .tuple #[.pointer (some ⟨f, 0, none⟩), .int .i64 (rt : Int), .int .i64 (np : Int)]) (by simp [results, Tryz.results16, go_sem]) rfl ?_
          refine ⟨f, P, by rw [hrt, HNP.out], S4.out.hf, S4.out.df.go (Below.refl _ _).drew, HTA.out, S4.out.hb.drew⟩
end Go.Proofs.YtlpmjeiogdlifaaGreat
namespace Go.Proofs.YtlpmjeiogdlifaaGreat
open Go.RowKit
attribute [local go_sem low] mk_extract
attribute [local go_sem] After.cell After.frozen mk_extract_end ByteArray.mk_append_mk
theorem Sp.bytes_le9 (p : Sp.Page) : (Sp.bytes p).length ≤ 2000000 := by
  cases h : Sp.isPage p with
  | false => simp [Sp.bytes, h]
  | true =>
    have := Sp.partsB_le h
    rw [Sp.bytes_of h]
    simp only [Sp.body, List.length_append, Sp.le8_length]
    omega
theorem DfAt.opn9 {w : World} {f : Nat} {V : List Txt} (h : DfAt w f V) (h0 : 0 < V.length) (hn : V.length ≤ 400) : ∃ g cap, w.cell? ⟨f, 0, none⟩ = some (.slice (some ⟨g, 0, none⟩) V.length cap) ∧ Txts w NoM (some ⟨g, 0, none⟩) V ∧ V.length ≤ cap := by
  obtain ⟨v, dA, dn, dc, u, h1, h2, _⟩ := h.bf
  obtain ⟨g, cap, rfl, _, _⟩ := own_some h2 h0
  exact ⟨g, cap, h1.cell 0, Txts.of_own h2 (by omega), (own_cap h2).1⟩
theorem file_small9 (P : List Sp.Page) : ∀ s ∈ [[], []] ++ P.map Sp.bytes, s.length ≤ 4611686018427387904 := by
  intro s hs
  rcases List.mem_append.1 hs with hs | hs
  · have : s = [] := by simpa using hs
    rw [this]; simp
  · obtain ⟨p, _, rfl⟩ := List.mem_map.1 hs
    have := Sp.bytes_le9 p
    omega
structure T9 (w W : World) (t : Nat) (keys : List Nat) (n : Nat) (V : List Txt) (s : Sp.Sto) : Prop where
  st : ∃ M f m d fv, StAt W M t f m d fv V s
  ok : s.Ok
  hV : V.length ≤ 400
  vs : ValsP V s
  wh : Sp.Whole V ((n : Nat) : Int) [] s (Sp.treeN keys).1
  it : Sp.Rt.items (Sp.treeN keys).1 = (Sp.numsOf keys).map Sp.itN
  sm : (Sp.Rt.items (Sp.treeN keys).1).length < 256
  cn : (Sp.Rt.ids (Sp.treeN keys).1).length + 2 = n
  bl : ∀ i : Int, (n : Int) ≤ i → i < 400 → s.read V i = (Sp.pg0, some 12)
  hb : Below w.heap.size w W
theorem T9.go {w W W' : World} {t : Nat} {keys : List Nat} {n : Nat} {V : List Txt} {s : Sp.Sto} (h : T9 w W t keys n V s) (hb : Below W.heap.size W W') : T9 w W' t keys n V s := by
  obtain ⟨M, f, m, d, fv, hs⟩ := h.st
  exact ⟨⟨M, f, m, d, fv, hs.go hb⟩, h.ok, h.hV, h.vs, h.wh, h.it, h.sm, h.cn, h.bl, h.hb.trans (hb.mono h.hb.size)⟩
theorem T9.of {w W : World} {M : Nat → Prop} {t f m d n : Nat} {fv : Value} {keys : List Nat} {P : List Sp.Page} (hta : Sp.TreeAt keys P) (hn : keys.length ≤ 120) (hnp : P.length + 2 = n) (hs : StAt W M t f m d fv ([[], []] ++ P.map Sp.bytes) (Sp.Sto.new (n : Int) 400 [])) (hb : Below w.heap.size w W) : T9 w W t keys n ([[], []] ++ P.map Sp.bytes) (Sp.Sto.new (n : Int) 400 []) := by
  subst hnp
  have hlen := hta.len
  have hit := hta.items
  have hnl := Sp.numsOf_len keys
  have hw := Sp.whole_new hta hn
  have hl : (Sp.Sto.new ((P.length + 2 : Nat) : Int) 400 []).last = ((P.length + 2 : Nat) : Int) := by
    show min (max ((P.length + 2 : Nat) : Int) 2) 400 = _
    omega
  have hc := hw.count
  rw [hl] at hc
  have h1 : (Sp.Sto.new ((P.length + 2 : Nat) : Int) 400 []).freed.length = 0 := rfl
  have h2 : (Sp.Sto.new ((P.length + 2 : Nat) : Int) 400 []).avail.length = 0 := rfl
  refine ⟨⟨M, f, m, d, fv, hs⟩, Sp.Sto.new_ok _ _ _, by simp; omega, Sp.tree_vals hta hn, hw, hit, by rw [hit, List.length_map]; omega, by omega, fun i h3 h4 => ?_, hb⟩
  unfold Sp.Sto.read
  rw [if_neg]
  · show Sp.readF (Sp.atV _ i) = _
    rw [Sp.atV_out (by simp; omega)]
    rfl
  · have : (Sp.Sto.new ((P.length + 2 : Nat) : Int) 400 []).most = 400 := rfl
    rw [this]
    omega
section
variable {w W : World} {t : Nat} {keys : List Nat} {n : Nat} {V : List Txt} {s : Sp.Sto}
theorem T9.right (h : T9 w W t keys n V s) : Calls Tryz.prog 20 #[.pointer (some ⟨t, 0, none⟩), .int .i64 ((Sp.Rt.root (Sp.treeN keys).1 : Nat) : Int)] W fun e W' => e = .returned (.bool true) ∧ Below W.heap.size W W' := by
  obtain ⟨M, f, m, d, fv, hs⟩ := h.st
  refine (right_any M t f m d fv V s _ W hs h.ok h.hV h.vs).mono ?_
  rintro e W' ⟨h1, hb⟩
  exact ⟨by rw [h1, h.wh.right h.sm], hb⟩
theorem T9.right0 (h : T9 w W t keys n V s) : Calls Tryz.prog 20 #[.pointer (some ⟨t, 0, none⟩), .int .i64 0] W fun e W' => e = .returned (.bool true) ∧ Below W.heap.size W W' := by
  obtain ⟨M, f, m, d, fv, hs⟩ := h.st
  refine (right_any M t f m d fv V s _ W hs h.ok h.hV h.vs).mono ?_
  rintro e W' ⟨h1, hb⟩
  exact ⟨by rw [h1, Sp.right_zero], hb⟩
theorem T9.rightX (h : T9 w W t keys n V s) {i : Int} (h1 : (n : Int) ≤ i) (h2 : i < 400) : Calls Tryz.prog 20 #[.pointer (some ⟨t, 0, none⟩), .int .i64 i] W fun e W' => e = .returned (.bool false) ∧ Below W.heap.size W W' := by
  obtain ⟨M, f, m, d, fv, hs⟩ := h.st
  refine (right_any M t f m d fv V s _ W hs h.ok h.hV h.vs).mono ?_
  rintro e W' ⟨h3, hb⟩
  have hc := h.cn
  have h0 : i ≠ 0 := by omega
  exact ⟨by rw [h3, Sp.right_err h0 (k := 12) (by rw [Sp.walkI_err h0 (h.bl i h1 h2)])], hb⟩
theorem T9.shape (h : T9 w W t keys n V s) : Calls Tryz.prog 22 #[.pointer (some ⟨t, 0, none⟩), .int .i64 ((Sp.Rt.root (Sp.treeN keys).1 : Nat) : Int)] W fun e W' => e = .returned (.tuple #[.string ⟨(Sp.Rt.shape (Sp.treeN keys).1).toArray⟩, .nilIface]) ∧ Below W.heap.size W W' := by
  obtain ⟨M, f, m, d, fv, hs⟩ := h.st
  refine (treeShape_any M t f m d fv V s _ W hs h.ok h.hV h.vs.rt).mono ?_
  rintro e W' ⟨h1, hb⟩
  exact ⟨by rw [h1, h.wh.shapeT h.sm]; rfl, hb⟩
theorem T9.pages (h : T9 w W t keys n V s) : Calls Tryz.prog 23 #[.pointer (some ⟨t, 0, none⟩), .int .i64 ((Sp.Rt.root (Sp.treeN keys).1 : Nat) : Int)] W fun e W' => (∃ A c, e = .returned (.tuple #[.slice A (Sp.Rt.ids (Sp.treeN keys).1).length c, .nilIface])) ∧ Below W.heap.size W W' := by
  obtain ⟨M, f, m, d, fv, hs⟩ := h.st
  refine (pages_any M t f m d fv V s _ W hs h.ok h.hV h.vs).mono ?_
  rintro e W' ⟨A, c, h1, _, hb⟩
  exact ⟨⟨A, c, by rw [h1, h.wh.pages h.sm, h.wh.walk h.sm]; rfl⟩, hb⟩
theorem T9.listX (h : T9 w W t keys n V s) {i : Int} (h1 : (n : Int) ≤ i) (h2 : i < 400) : Calls Tryz.prog 19 #[.pointer (some ⟨t, 0, none⟩), .int .i64 i] W fun e W' => e = .returned (.tuple #[.slice none 0 0, .iface ErrT (.int .i64 12)]) ∧ Below W.heap.size W W' := by
  obtain ⟨M, f, m, d, fv, hs⟩ := h.st
  refine (treeList_any M t f m d fv V s _ W hs h.ok h.hV h.vs.rt.small).mono ?_
  rintro e W' ⟨h3, hb⟩
  have hc := h.cn
  have h0 : i ≠ 0 := by omega
  unfold ListIs at h3
  rw [Sp.walkI_err h0 (h.bl i h1 h2)] at h3
  exact ⟨h3, hb⟩
def KeysAt (W : World) (A : Option Addr) (L : List Nat) : Prop := ∀ j, j < L.length → ∃ g, A = some ⟨g, 0, none⟩ ∧ g < W.heap.size ∧ W.cell? ⟨g, j * 10, none⟩ = some (.string ⟨(Sp.keyN (L.getD j 0)).toArray⟩)
theorem T9.list (h : T9 w W t keys n V s) : Calls Tryz.prog 19 #[.pointer (some ⟨t, 0, none⟩), .int .i64 ((Sp.Rt.root (Sp.treeN keys).1 : Nat) : Int)] W fun e W' => (∃ A c, e = .returned (.tuple #[.slice A (Sp.numsOf keys).length c, .nilIface]) ∧ KeysAt W' A (Sp.numsOf keys)) ∧ Below W.heap.size W W' := by
  obtain ⟨M, f, m, d, fv, hs⟩ := h.st
  refine (treeList_any M t f m d fv V s _ W hs h.ok h.hV h.vs.rt.small).mono ?_
  rintro e W' ⟨h3, hb⟩
  unfold ListIs at h3
  rw [h.wh.walk h.sm] at h3
  dsimp only at h3
  obtain ⟨A, c, xs, h4, h5, h6⟩ := h3
  have hits : itsOf (Sp.Rt.nodes (Sp.treeN keys).1) = (Sp.numsOf keys).map Sp.itN := (Sp.Rt.nodes_items _).trans h.it
  rw [hits] at h4 h5 h6
  rw [List.length_map] at h4 h5
  refine ⟨⟨A, c, h4, fun j hj => ?_⟩, hb⟩
  rcases own_none h5 with ⟨_, h0, _⟩ | ⟨g, cur, hA, _, hbg, hcg⟩
  · omega
  · obtain ⟨V2, c2, _, hv⟩ := SeqQ.at_ (K := 10) (fun x V c => rfl) Sp.item0 h6 j (by rw [List.length_map]; exact hj)
    refine ⟨g, hA, hbg.lt, ?_⟩
    have e : ((Sp.numsOf keys).map Sp.itN).getD j Sp.item0 = Sp.itN ((Sp.numsOf keys).getD j 0) := by simp [List.getD, hj]
    rw [e] at hv
    have := hcg _ _ (hv 0 _ rfl)
    rw [Nat.zero_add, Nat.add_zero] at this
    exact this
end
end Go.Proofs.YtlpmjeiogdlifaaGreat
namespace Go.Proofs.YtlpmjeiogdlifaaGreat
open Go.RowKit
attribute [local go_sem low] mk_extract
attribute [local go_sem] After.cell After.frozen mk_extract_end ByteArray.mk_append_mk
theorem nil_iv9 (w : World) : IV w (.slice none 0 0) [] := own_iv (own_nilV w 0 IntT 1) (by simp)
set_option maxRecDepth 100000 in
set_option maxHeartbeats 1600000 in
theorem known9_any (w : World) : Calls Tryz.prog 15 #[] w fun e w' => e = .returned (.bool true) ∧ Below w.heap.size w w' := by
  have hal : Below w.heap.size w (w.alloc (.cells #[.int .u8 1, .int .u8 2, .int .u8 3, .int .u8 4, .int .u8 5] 5)) := (Below.refl _ _).alloc (Nat.le_refl _) _
  have htr : Calls Tryz.prog 16 #[.slice (some ⟨w.heap.size, 0, none⟩) 5 5] (w.alloc (.cells #[.int .u8 1, .int .u8 2, .int .u8 3, .int .u8 4, .int .u8 5] 5)) _ := tree_any [1, 2, 3, 4, 5] (some ⟨w.heap.size, 0, none⟩) 5 _ ⟨by simp, .inr ⟨w.heap.size, 0, rfl, (Blk.new w _ _).lt, id, fun j u hu => by
    rw [Nat.zero_add, (Blk.new w 5 _).cell]
    simpa [u8v] using hu⟩⟩ (by decide) (by decide)
  have hf0 : (Sp.numsOf [1, 2, 3, 4, 5]).length = 5 := by decide +kernel
  have hf1 : (Sp.Rt.ids (Sp.treeN [1, 2, 3, 4, 5]).1).length = 3 := by decide +kernel
  have hf2 : Sp.Rt.shape (Sp.treeN [1, 2, 3, 4, 5]).1 = [91, 40, 97, 98, 32, 97, 99, 32, 97, 100, 41, 40, 97, 101, 32, 97, 102, 41, 93] := by decide +kernel
  have hkl : [1, 2, 3, 4, 5].length ≤ 20 := by decide
  generalize [1, 2, 3, 4, 5] = keys at htr hkl hf0 hf1 hf2
  have HTR := Lib.hid htr
  have HAL := Lib.hid hal
  have HF0 := Lib.hid hf0
  have HF1 := Lib.hid hf1
  have HF2 := Lib.hid hf2
  clear htr hal hf0 hf1 hf2
  go_enter Tryz.func15, Tryz.ntmps15
  go_upto_region 2 with (go_at_call 16; refine HTR.out.mono ?_; rintro e w2 ⟨f, P, rfl, _, hd, hta, hb⟩; generalize hnp : P.length + 2 = np; have HNP := Lib.hid hnp; clear hnp; have HD := Lib.hid hd; have HTA := Lib.hid hta; have HB := Lib.hid (HAL.out.trans (hb.mono HAL.out.size)); clear hd hta hb HTR HAL)
  have hpl := HTA.out.len
  have hsm := file_small9 P
  have hnw := fun (w W : World) (M : Nat → Prop) (t f' m d : Nat) (v : Value) (hst : StAt W M t f' m d v ([[], []] ++ P.map Sp.bytes) (Sp.Sto.new (np : Int) 400 [])) hl hb => T9.of (w := w) (W := W) (M := M) (t := t) (f := f') (m := m) (d := d) (fv := v) HTA.out hl HNP.out hst hb
  have hl2 : ([[], []] ++ P.map Sp.bytes).length = P.length + 2 := by simp
  generalize [[], []] ++ P.map Sp.bytes = V at *
  obtain ⟨g, cap, c0, htx, hcap⟩ := HD.out.opn9 (by omega) (by omega)
  have HTX := Lib.hid htx
  have HSM := Lib.hid hsm
  have HNW := Lib.hid hnw
  have hV4 : V.length ≤ 400 := by omega
  clear hsm hnw htx HD HTA
  have hnp := HNP.out
  have hnp2 : (2 : Int) ≤ (np : Int) := by omega
  have hnp4 : (np : Int) ≤ 400 := by omega
  clear hnp HNP hl2 hpl
  go_upto_region 3 with (first
    | (go_at_call 18; refine (fileNew_any V g 0 cap _ HTX.out hV4 hcap HSM.out).mono ?_; rintro e w3 ⟨f', v, m, rfl, hfa, _, _, _, hb3⟩; have HFA := Lib.hid hfa; have HB3 := Lib.hid (HB.out.trans (hb3.mono HB.out.size)); clear hfa hb3)
    | (go_at_call 17; refine (stoNew_any f' m v V (np : Int) 400 (.slice none 0 0) [] _ HFA.out (nil_iv9 _)).mono ?_; rintro e w4 ⟨t, d, M, rfl, hst, _, hb4, _, _⟩; have HST := Lib.hid hst; have HB4 := Lib.hid (HB3.out.trans (hb4.mono HB3.out.size)); clear hst hb4))
  have S := Lib.hid (HNW.out w w4 M t f' m d v HST.out (by omega) HB4.out)
  clear HNW HST HB4 HFA HB3 HTX HSM HB c0
  generalize Sp.Sto.new (np : Int) 400 [] = st9 at *
  obtain ⟨rt, hrt⟩ : ∃ rt : Nat, rt = Sp.Rt.root (Sp.treeN keys).1 := ⟨_, rfl⟩
  rw [← hrt]
  have HRT := Lib.hid hrt
  clear hrt
  have hcn := S.out.cn
  rw [HF1.out] at hcn
  subst hcn
  go_upto_region 6 with (go_at_call 19; refine (HRT.out ▸ S.out.list).mono ?_; rintro e w5 ⟨⟨A5, c5, rfl, _⟩, hs⟩; have S5 := Lib.hid (S.out.go hs); clear hs S; rw [HF0.out])
  go_upto_region 7 with (go_at_call 22; refine (HRT.out ▸ S5.out.shape).mono ?_; rintro e w6 ⟨rfl, hs⟩; have S6 := Lib.hid (S5.out.go hs); clear hs S5; rw [HF2.out])
  go_upto_region 8 with (go_at_call 23; refine (HRT.out ▸ S6.out.pages).mono ?_; rintro e w7 ⟨⟨A7, c7, rfl⟩, hs⟩; have S7 := Lib.hid (S6.out.go hs); clear hs S6; rw [HF1.out])
  go_upto_region 9 with (go_at_call 19; refine (S7.out.listX (i := 99) (by decide) (by decide)).mono ?_; rintro e w8 ⟨rfl, hs⟩; have S8 := Lib.hid (S7.out.go hs); clear hs S7)
  go_wp2_with (first
    | (go_at_call 20; refine (HRT.out ▸ S8.out.right).mono ?_; rintro e w9 ⟨rfl, hs⟩; have S9 := Lib.hid (S8.out.go hs); clear hs S8)
    | (go_at_call 20; refine (S9.out.right0).mono ?_; rintro e wa ⟨rfl, hs⟩; have Sa := Lib.hid (S9.out.go hs); clear hs S9)
    | (go_at_call 20; refine (Sa.out.rightX (i := 99) (by decide) (by decide)).mono ?_; rintro e wb ⟨rfl, hs⟩; have Sb := Lib.hid (Sa.out.go hs); clear hs Sa)
    | (go_at_call 31; refine (errIs_same 12 _).mono ?_; rintro e wg ⟨rfl, rfl⟩))
  go_ret
  exact ⟨by simp, Sb.out.hb⟩
end Go.Proofs.YtlpmjeiogdlifaaGreat
