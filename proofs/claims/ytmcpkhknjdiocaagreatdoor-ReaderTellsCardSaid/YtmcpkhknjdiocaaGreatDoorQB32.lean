/- ReaderTells: the law's walk. -/
import Derived.Test.YtmcpkhknjdiocaaGreatDoorQB26
import Derived.Test.YtmcpkhknjdiocaaGreatDoorQB31
import Derived.Deep.CutBlock
set_option linter.unusedSimpArgs false
set_option linter.unusedVariables false
namespace Go.Proofs.YtmcpkhknjdiocaaGreatDoor
open Go.RowKit
attribute [local go_sem low] mk_extract
attribute [local go_sem] After.cell After.frozen mk_extract_end ByteArray.mk_append_mk
theorem fileNew_at1B (b : Nat) {M : Nat → Prop} (w : World) (hl : Txts w M (some ⟨b, 0, none⟩) (Sp.filesAt 1)) :
    Calls Tryz.prog 9 #[.slice (some ⟨b, 0, none⟩) 2 2] w fun e w' => ∃ f, e = .returned (.pointer (some ⟨f, 0, none⟩)) ∧ w.heap.size ≤ f ∧ DfB w' w.heap.size f (Sp.filesAt 1) ∧ Below w.heap.size w w' := by
  have h := dNewFileB_any (Sp.filesAt 1) b 0 2 w hl (by rw [Sp.filesAt_len]; omega) (by rw [Sp.filesAt_len]; omega) (by rw [Sp.filesAt_len]; omega)
  rw [Sp.filesAt_len] at h
  exact h
theorem code22_any (o : Option Int) (w : World) (hg : ErrVar w) : Calls Tryz.prog 23 #[erV o] w fun e w' => e = .returned (.int .i64 (erN o)) ∧ Below w.heap.size w w' := by
  rcases o with _ | n
  · exact code_nil w
  · exact code_no n w hg
/-- The law's state between rounds. -/
def RtW (w : World) (f m l p : Nat) (v : Value) (g q b : Nat) (T : Int) (W : World) : Prop :=
  ∃ (x y : Txt) (sl : List Sp.Sl) (r : Sp.Rdr) (B : Nat), RtS w f m l p v [x, y] sl r g q b B [x, y] sl r W ∧ Sp.RtI T x y sl r
theorem and1 (n : Int) : ∃ q : Nat, q < 2 ∧ bits BinOp.and IntKind.i64 n 1 = (q : Int) := by
  refine ⟨(BitVec.ofInt 64 n).toNat % 2, by omega, ?_⟩
  have h : (BitVec.ofInt 64 n &&& BitVec.ofInt 64 1).toNat = (BitVec.ofInt 64 n).toNat % 2 := by
    rw [BitVec.toNat_and]
    exact Nat.and_one_is_mod _
  show IntKind.i64.wrap (((BitVec.ofInt 64 n &&& BitVec.ofInt 64 1).toNat : Nat) : Int) = _
  rw [h, IntKind.wrap_i64]
  omega
theorem writeV_set {V : List Txt} {i : Nat} {s : Txt} (h : i < V.length) : Sp.writeV V i s = V.set i s := by
  unfold Sp.writeV
  rw [show i + 1 - V.length = 0 by omega]
  simp
theorem drd_mt {w : World} {p : Nat} {r : Sp.Rdr} (h : DRdAt w p r) : ∀ j v, (mtV r.mt).toArray[j]? = some v → w.cell? ⟨p, 4 + j, none⟩ = some v := fun j v hv => by
  rw [Blk.cell h (4 + j)]
  match j, hv with
  | 0, hv => exact hv
  | 1, hv => exact hv
  | 2, hv => exact hv
  | 3, hv => exact hv
  | 4, hv => exact hv
  | 5, hv => exact hv
  | j + 6, hv => exact absurd hv (by simp [mtV])
section
variable {W0 W W' : World} {f m l p : Nat} {v : Value} {x y : Txt} {V V2 : List Txt} {sl : List Sp.Sl} {r : Sp.Rdr} {g q b B : Nat} {sl2 : List Sp.Sl} {r2 : Sp.Rdr}
theorem RtS.pcall (h : RtS W0 f m l p v [x, y] sl r g q b B [x, y] sl2 r2 W) (hi : r.Inv) :
    Calls Tryz.prog 21 #[.pointer (some ⟨p, 0, none⟩), .pointer (some ⟨f, 0, none⟩), .pointer (some ⟨l, 0, none⟩)] W fun e w' => e = .returned (.tuple #[.bool (r.step x y sl).1.1, erV (r.step x y sl).1.2]) ∧ RtS W0 f m l p v [x, y] (r.step x y sl).2.2 (r.step x y sl).2.1 g q b B [x, y] sl2 r2 w' :=
  (rdStep_any p f m l r v [x, y] 0 sl W h.s.rd h.s.ff h.s.lk (by simp) hi.ph).mono fun _ _ ⟨h1, h2, h3, h4⟩ => ⟨h1, h.step h2 h3 h4⟩
theorem RtS.dcall (h : RtS W0 f m l p v [x, y] sl r g q b B [x, y] sl2 r2 W) (hi : r2.Inv) (hz : x.length ≤ 4611686018427387904 ∧ y.length ≤ 4611686018427387904)
    (hc : r2.phase = 4 → (Sp.see r2.most x y).2 = none → (Sp.see r2.most x y).1.txn = r2.mt.txn → (Sp.see r2.most x y).1 = r2.mt) :
    Calls Tryz.prog 22 #[.pointer (some ⟨b, 0, none⟩), .pointer (some ⟨g, 0, none⟩), .pointer (some ⟨q, 0, none⟩)] W fun e w' => e = .returned (.tuple #[.bool (r2.step x y sl2).1.1, .int .i64 (erN (r2.step x y sl2).1.2)]) ∧ RtS W0 f m l p v [x, y] sl r g q b B [x, y] (r2.step x y sl2).2.2 (r2.step x y sl2).2.1 w' :=
  (dStep_any b q g r2 0 sl2 [x, y] W h.dr h.dl h.df.at_ (by simp) (fun s hs => by
    rcases List.mem_cons.1 hs with rfl | hs
    · exact hz.1
    · rw [List.mem_singleton.1 hs]; exact hz.2) hi hc).mono fun _ _ ⟨h1, h2, h3, h4⟩ => ⟨h1, h.dstep h2 h3 h4⟩
theorem RtS.pwrite (h : RtS W0 f m l p v [x, y] sl r g q b B V2 sl2 r2 W) (k : Nat) (hk : k < 2) (s : Txt) (hs : s.length ≤ 1000) :
    Calls Tryz.prog 14 #[.pointer (some ⟨f, 0, none⟩), .int .i64 (k : Int), .string ⟨s.toArray⟩] W fun e w' => e = .returned .nilIface ∧ RtS W0 f m l p v ([x, y].set k s) sl r g q b B V2 sl2 r2 w' ∧ Chg (fun k => k = m ∨ v.ownBlock = some k) W w' :=
  (fileWrite_any f m k v [x, y] s W h.s.ff hk (by simp) (by omega)).mono fun _ _ ⟨h1, h2, h3⟩ => ⟨h1, h.write h2 h3, h3⟩
theorem RtS.dwrites (h : RtS W0 f m l p v V sl r g q b B [x, y] sl2 r2 W) (k : Nat) (hk : k < 2) (s : Txt) :
    Calls Tryz.prog 16 #[.pointer (some ⟨g, 0, none⟩), .int .i64 (k : Int), .string ⟨s.toArray⟩] W fun e w' => e = .returned (.int .i64 0) ∧ RtS W0 f m l p v V sl r g q b W.heap.size ([x, y].set k s) sl2 r2 w' :=
  (dWriteB_any g [x, y] k s W h.df.at_ (by simp) (by simp) (by omega)).mono fun _ _ ⟨h1, h2, h3⟩ => ⟨h1, by rw [writeV_set hk] at h2; exact h.dwrite h2 h3⟩
end
set_option maxRecDepth 100000 in
set_option maxHeartbeats 6400000 in
theorem tells22_walk (pid most : Int) (hp0 : 0 ≤ pid) (hp1 : pid ≤ 255) (l0 : List Sp.Stp) (A : Option Addr) (c : Nat) (w : World) (hl : Stps w A l0) (hev : ErrVar w) :
    Calls Tryz.prog 3 #[.int .u8 pid, .int .i64 most, .slice A l0.length c] w fun e w' => e = .returned (.bool true) ∧ Below w.heap.size w w' := by
  have HL0 := Lib.hid hl
  have HEV := Lib.hid hev
  clear hl hev
  by_cases h60 : (60 : Int) < (l0.length : Int)
  · go_enter Tryz.func3, Tryz.ntmps3
    go_wp2_with (go_at_call 6; refine (known22_any _).mono ?_; rintro e w0 ⟨rfl, hb0⟩; have HB0 := Lib.hid hb0; clear hb0)
    go_ret
    exact ⟨rfl, HB0.out⟩
  · go_enter Tryz.func3, Tryz.ntmps3
    go_upto_region 8 with (first
      | (go_at_call 6; refine (known22_any _).mono ?_; rintro e w0 ⟨rfl, hb0⟩; have HB0 := Lib.hid hb0; clear hb0)
      | (go_at_call 8; refine (empty_any _).mono ?_; rintro e w1 ⟨b1, rfl, ht, hb1⟩; have HT := Lib.hid ht; have HB1 := Lib.hid (HB0.out.trans (hb1.mono HB0.out.size)); clear ht hb1)
      | (go_at_call 7; refine (fileNew_at1 b1 _ HT.out).mono ?_; rintro e w2 ⟨f, v, m, rfl, hf, h1, h2, h3, hb2⟩; have HF := Lib.hid hf; have H2 := Lib.hid h2; have H3 := Lib.hid h3; have HB2 := Lib.hid (HB1.out.trans (hb2.mono HB1.out.size)); have HZ2 := Lib.hid (And.intro HB1.out.size hb2.size); clear hf h1 h2 h3 hb2 HT HB0)
      | (go_at_call 8; refine (empty_any _).mono ?_; rintro e w3 ⟨b3, rfl, ht, hb3⟩; have HT3 := Lib.hid ht; have HB3 := Lib.hid (HB2.out.trans (hb3.mono HB2.out.size)); have HF3 := Lib.hid (HF.out.go hb3); have HZ3 := Lib.hid hb3.size; clear ht hb3)
      | (go_at_call 9; refine (fileNew_at1B b3 _ HT3.out).mono ?_; rintro e w4 ⟨g, rfl, h1, hd, hb4⟩; have HD4 := Lib.hid hd; have HF4 := Lib.hid (HF3.out.go hb4); have HG4 := Lib.hid h1; have HB4 := Lib.hid (HB3.out.trans (hb4.mono HB3.out.size)); have HZ4 := Lib.hid hb4.size; clear hd h1 hb4 HT3)
      | (go_at_call 10; refine (lockNew_any _).mono ?_; rintro e w5 ⟨rfl, hl, hb5⟩; have HL5 := Lib.hid hl; have HD5 := Lib.hid (HD4.out.go hb5); have HF5 := Lib.hid (HF4.out.go hb5); have HB5 := Lib.hid (HB4.out.trans (hb5.mono HB4.out.size)); have HZ5 := Lib.hid hb5.size; clear hl hb5)
      | (go_at_call 11; refine (rdNew_any pid most _).mono ?_; rintro e w6 ⟨rfl, hr, hb6⟩; have HR6 := Lib.hid hr; have HB6 := Lib.hid hb6; clear hr hb6)
      | (go_at_call 12; refine (dRdNew_any pid most _).mono ?_; rintro e w7 ⟨rfl, hr, hb7⟩; have HR7 := Lib.hid hr; have HB7 := Lib.hid hb7; clear hr hb7))
    have S0 := Lib.hid (show RtW w f m w4.heap.size (w5.heap.size + 1) v g w5.heap.size w6.heap.size ((0 + 1 : Nat) : Int) w7 from by
      have z6 := HB6.out.size
      have hal : Below w5.heap.size w5 (w5.alloc (.cells (lkV 0 (List.replicate 8 Sp.sl0)).toArray DLockT)) := (Below.refl _ _).alloc (Nat.le_refl _) _
      have hsz : (w5.alloc (.cells (lkV 0 (List.replicate 8 Sp.sl0)).toArray DLockT)).heap.size = w5.heap.size + 1 := by simp
      have hq : DLockAt (w5.alloc (.cells (lkV 0 (List.replicate 8 Sp.sl0)).toArray DLockT)) w5.heap.size 0 (List.replicate 8 Sp.sl0) := ⟨Blk.new _ _ _, rfl⟩
      have hb6 : Below (w5.alloc (.cells (lkV 0 (List.replicate 8 Sp.sl0)).toArray DLockT)).heap.size (w5.alloc (.cells (lkV 0 (List.replicate 8 Sp.sl0)).toArray DLockT)) w6 := HB6.out
      have hr6 : RdAt w6 (w5.alloc (.cells (lkV 0 (List.replicate 8 Sp.sl0)).toArray DLockT)).heap.size ⟨pid, most, 1, -1, Sp.mt0, none⟩ := HR6.out
      rw [hsz] at hr6
      have z := HZ2.out
      have z3 := HZ3.out
      have z4 := HZ4.out
      have z5 := HZ5.out
      have zm := H2.out
      have zg := HG4.out
      have z6' := hb6.size
      rw [hsz] at z6'
      have hb57 : Below w5.heap.size w5 w7 := (hal.trans (hb6.mono (by omega))).trans (HB7.out.mono (by omega))
      refine ⟨_, _, List.replicate 8 Sp.sl0, ⟨pid, most, 1, -1, Sp.mt0, none⟩, w3.heap.size, ⟨⟨HB5.out.trans (hb57.mono HB5.out.size), HF5.out.go hb57, HL5.out.go hb57, hr6.go HB7.out, ⟨by omega, by omega, by omega⟩, fun k hk => by have := H3.out k hk; omega⟩, HD5.out.go hb57, (hq.go hb6).go HB7.out, HR7.out, ⟨by omega, by omega, by omega⟩, ⟨by omega, fun k hk => own_lt HF3.out.own k hk⟩⟩, Sp.RtI.start ⟨hp0, hp1⟩⟩)
    clear HB1 HF H2 H3 HB2 HZ2 HB3 HF3 HZ3 HD4 HF4 HG4 HB4 HZ4 HL5 HD5 HF5 HB5 HZ5 HR6 HB6 HR7 HB7
    generalize w4.heap.size = l at *
    generalize w5.heap.size + 1 = p at *
    generalize w5.heap.size = q at *
    generalize w6.heap.size = b at *
    go_wp2_with fail
    go_loopw [13, 14] (fun n i wr => ∃ (k t : Nat), (k ≤ l0.length ∧ t ≤ k) ∧ n = .int .u64 ((t + 1 : Nat) : Int) ∧ i = .int .i64 (k : Int) ∧ RtW w f m l p v g q b ((t + 1 : Nat) : Int) wr) (fun _ i _ => l0.length - (intOf i).toNat)
    case atStart => exact ⟨0, 0, ⟨by omega, by omega⟩, rfl, rfl, S0.out⟩
    case round =>
      obtain ⟨k, t, ⟨hk, htk⟩, rfl, rfl, hst⟩ := hrel
      clear S0
      by_cases hk8 : k < l0.length
      · obtain ⟨b0, off, rfl, hbl, hcl⟩ := HL0.out.2.resolve_left (by intro e; rw [e] at hk8; simp at hk8)
        obtain ⟨x, y, sl, r, B, hs, hI⟩ := hst
        have S := Lib.hid hs
        have ci := (hs.s.hb.cell (p := ⟨b0, off + k * 2, none⟩) hbl).trans (hcl k hk8).1
        have cj := (hs.s.hb.cell (p := ⟨b0, off + k * 2 + 1, none⟩) hbl).trans (hcl k hk8).2
        have I := Lib.hid hI
        clear hcl hs hI
        generalize (l0.getD k Sp.stp0).what = wh at *
        generalize (l0.getD k Sp.stp0).last = la at *
        go_upto_region 13 with fail
        refine wp_gen (fun W => RtS w f m l p v [x, y] sl r g q b B [x, y] sl r W ∧ Blk W wr.heap.size 44 #[.int .i64 wh, .int .i64 la]) ⟨S.out.go ((Below.refl _ _).alloc (Nat.le_refl _) _), Blk.new _ _ _⟩ ?_
        clear S ci cj
        generalize wr.heap.size = bx at *
        rintro W1 ⟨hs, hbx⟩
        have S := Lib.hid hs
        have HX := Lib.hid hbx
        have x0 : W1.cell? ⟨bx, 0, none⟩ = some (.int .i64 wh) := hbx.cell 0
        have x1 : W1.cell? ⟨bx, 1, none⟩ = some (.int .i64 la) := hbx.cell 1
        have hbl1 := hbx.lt
        clear hs hbx
        go_upto_block 2 with fail
        go_cut [13] (fun s13 W => ∃ t' : Nat, s13 = .int .u64 ((t' + 1 : Nat) : Int) ∧ t' ≤ k + 1 ∧ RtW w f m l p v g q b ((t' + 1 : Nat) : Int) W)
        case first =>
          by_cases h5 : wh = 5
          · subst h5
            go_upto_region 19 with fail
            go_cut [13] (fun s9 W => s9 = .int .u64 ((t + 1 + 1 : Nat) : Int) ∧ W = W1)
            case first =>
              go_wp2_with fail
              go_meet
              case rel => exact ⟨by go_num, rfl⟩
            case rest =>
              obtain ⟨rfl, rfl⟩ := hcut
              obtain ⟨qq, hq2, hpl, hqn⟩ : ∃ q : Nat, q < 2 ∧ ((t : Int) + 1 + 1) % 2 = (q : Int) ∧ (((t + 1 + 1 : Nat) : Int) % 2).toNat = q := ⟨(t + 1 + 1) % 2, by omega, by omega, by omega⟩
              go_upto_region 20 with fail
              have hml := Sp.metaB_le (Sp.mt2 ((t : Int) + 1 + 1) (max 2 (min la 400)))
              have I2 := Lib.hid (show Sp.RtI ((t + 1 + 1 : Nat) : Int) (Sp.pg2 x y qq (Sp.metaB (Sp.mt2 ((t : Int) + 1 + 1) (max 2 (min la 400)))) 0) (Sp.pg2 x y qq (Sp.metaB (Sp.mt2 ((t : Int) + 1 + 1) (max 2 (min la 400)))) 1) sl r from I.out.write (T := ((t + 1 : Nat) : Int)) (by omega) (k := max 2 (min la 400)) (by omega) (by rw [← hpl]; rfl))
              have HPG := Lib.hid (Sp.pg2_eq (a := x) (b := y) (s := Sp.metaB (Sp.mt2 ((t : Int) + 1 + 1) (max 2 (min la 400)))) hq2)
              have HMB := Lib.hid (fun W => dMetaBytes_any (Sp.mt2 ((t : Int) + 1 + 1) (max 2 (min la 400))) W (by show 0 ≤ (t : Int) + 1 + 1 ∧ (t : Int) + 1 + 1 < 18446744073709551616; omega))
              clear I x0 HX hqn
              generalize Sp.metaB (Sp.mt2 ((t : Int) + 1 + 1) (max 2 (min la 400))) = ms at *
              go_wp2_with (first
                | (go_at_call 15; refine (dPlace_any _ (by omega) (by omega) _).mono ?_; rintro e w6 ⟨rfl, rfl⟩; rw [hpl])
                | (go_at_call 13; refine (HMB.out _).mono ?_; rintro e w6 ⟨rfl, hb6⟩; replace S := Lib.hid (S.out.go hb6); clear hb6)
                | (go_at_call 14; refine (S.out.pwrite qq hq2 ms (by omega)).mono ?_; rintro e w6 ⟨rfl, hs6, _⟩; replace S := Lib.hid hs6; clear hs6)
                | (go_at_call 16; refine (S.out.dwrites qq hq2 ms).mono ?_; rintro e w7 ⟨rfl, hs7⟩; replace S := Lib.hid hs7; clear hs7))
              go_meet
              case rel => exact ⟨t + 1, by go_num, by omega, _, _, sl, r, _, HPG.out ▸ S.out, I2.out⟩
          · by_cases h6 : wh = 6
            · subst h6
              go_wp2_with (first
                | (go_at_call 17; refine (claim_any l 0 sl 300 _ S.out.s.lk).mono ?_; rintro e w6 ⟨rfl, hl6, hk6⟩; generalize claimV sl 300 = cv; replace S := Lib.hid (S.out.lock hl6 hk6); clear hl6 hk6)
                | (go_at_call 18; refine (dClaim_any q 0 sl 300 _ S.out.dl).mono ?_; rintro e w7 ⟨rfl, hl7, hk7⟩; generalize dClV (Sp.claim sl 300) = cw; replace S := Lib.hid (S.out.dlock hl7 hk7); clear hl7 hk7))
              go_meet
              case rel => exact ⟨t, rfl, by omega, x, y, _, r, B, S.out, I.out.claim⟩
            · by_cases h7 : wh = 7
              · subst h7
                go_upto_region 28 with (go_at_call 19; refine (freeSl_any l 0 sl la 300 _ S.out.s.lk).mono ?_; rintro e w6 ⟨rfl, hl6, hk6⟩; have HX6 := Lib.hid (HX.out.chg hk6 (by unfold OneM; exact fun e => blk_ne HX.out S.out.s.lk.bl (by decide) e)); replace S := Lib.hid (S.out.lock hl6 hk6); clear hl6 hk6)
                clear x0 x1 HX
                have x1 : w6.cell? ⟨bx, 1, none⟩ = some (.int .i64 la) := HX6.out.cell 1
                go_wp2_with (go_at_call 20; refine (dFreeSl_any q 0 sl la 300 _ S.out.dl).mono ?_; rintro e w7 ⟨rfl, hl7, hk7⟩; replace S := Lib.hid (S.out.dlock hl7 hk7); clear hl7 hk7)
                all_goals
                  go_meet
                  case rel => exact ⟨t, rfl, by omega, x, y, _, r, B, S.out, I.out.free la⟩
              · by_cases h8 : wh = 8
                · subst h8
                  obtain ⟨qq, hq2, hqe⟩ := and1 la
                  have HPG := Lib.hid (Sp.pg2_eq (a := x) (b := y) (s := Sp.spoilt) hq2)
                  go_upto_region 31 with (go_at_call 14; refine (S.out.pwrite qq hq2 Sp.spoilt (by decide)).mono ?_; rintro e w6 ⟨rfl, hs6, hk6⟩; have HX6 := Lib.hid (HX.out.chg hk6 (by rintro (e | e); exact (show False from by subst e; exact S.out.s.ff.map.not_blk HX.out); exact own_not S.out.s.ff.own (by decide) _ e _ HX.out)); replace S := Lib.hid hs6; clear hs6 hk6)
                  clear x0 x1 HX
                  have x1 : w6.cell? ⟨bx, 1, none⟩ = some (.int .i64 la) := HX6.out.cell 1
                  go_wp2_with (go_at_call 16; refine (S.out.dwrites qq hq2 Sp.spoilt).mono ?_; rintro e w7 ⟨rfl, hs7⟩; replace S := Lib.hid hs7; clear hs7)
                  go_meet
                  case rel => exact ⟨t, rfl, by omega, _, _, sl, r, _, HPG.out ▸ S.out, I.out.spoil qq⟩
                · have e5 : (wh == 5) = false := beq_eq_false_iff_ne.2 h5
                  have e6 : (wh == 6) = false := beq_eq_false_iff_ne.2 h6
                  have e7 : (wh == 7) = false := beq_eq_false_iff_ne.2 h7
                  have e8 : (wh == 8) = false := beq_eq_false_iff_ne.2 h8
                  clear h5 h6 h7 h8
                  have HP := Lib.hid (S.out.pcall I.out.inv)
                  have HD := Lib.hid (fun (W : World) (h : RtS w f m l p v [x, y] (r.step x y sl).2.2 (r.step x y sl).2.1 g q b B [x, y] sl r W) => h.dcall I.out.inv I.out.sz I.out.looks)
                  have I2 := Lib.hid I.out.step
                  generalize r.step x y sl = st at *
                  obtain ⟨⟨d, er⟩, r', sl'⟩ := st
                  dsimp only at HP HD I2
                  clear I x0 x1 HX
                  go_upto_region 16 with (first
                    | (go_at_call 21; refine HP.out.mono ?_; rintro e w6 ⟨rfl, hs6⟩; have S6 := Lib.hid hs6; clear hs6)
                    | (go_at_call 22; refine (HD.out _ S6.out).mono ?_; rintro e w7 ⟨rfl, hs7⟩; have S7 := Lib.hid hs7; clear hs7))
                  rcases d with _ | _
                  all_goals
                    go_wp2_with (go_at_call 23; refine (code22_any er _ (HEV.out.go S7.out.s.hb)).mono ?_; rintro e w8 ⟨rfl, hb8⟩; have S8 := Lib.hid (S7.out.go hb8); clear hb8)
                    go_meet
                    case rel => exact ⟨t, rfl, by omega, x, y, sl', r', B, S8.out, I2.out⟩
        case rest =>
          obtain ⟨t', rfl, ht', x', y', sl', r', B', hs', hI'⟩ := hcut
          obtain ⟨W2, rfl⟩ : ∃ W, W = wc := ⟨_, rfl⟩
          clear S I HX x0 x1 hbl1
          have S := Lib.hid hs'
          have I := Lib.hid hI'
          have hbw := Blk.lt (show Blk W2 b DReaderT _ from hs'.dr)
          have d2 : W2.cell? ⟨b, 2, none⟩ = some (.int .i64 r'.phase) := Blk.cell hs'.dr 2
          have d3 : W2.cell? ⟨b, 3, none⟩ = some (.int .i64 r'.slot) := Blk.cell hs'.dr 3
          clear hs' hI'
          have hq : ∀ W, (binOp .neq 49 (.agg #[.int .u64 r'.mt.txn, .int .i64 r'.mt.main.page, .int .i64 r'.mt.main.count, .int .i64 r'.mt.main.flags, .int .i64 r'.mt.free, .int .i64 r'.mt.last]) (.agg #[.int .u64 r'.mt.txn, .int .i64 r'.mt.main.page, .int .i64 r'.mt.main.count, .int .i64 r'.mt.main.flags, .int .i64 r'.mt.free, .int .i64 r'.mt.last])).run Tryz.prog W = .ok (.bool false) W := fun W => (mt_neqR r'.mt r'.mt W).trans (by simp)
          go_upto_region 32 with fail
          refine wp_region_after (by kernel_rfl) (by kernel_rfl) W2.heap.size ?_
          repeat (first
            | go_big_quiet_skip
            | (refine wpQuiet_at MetaT _ rfl b 4 rfl rfl #[.int .u64 r'.mt.txn, .int .i64 r'.mt.main.page, .int .i64 r'.mt.main.count, .int .i64 r'.mt.main.flags, .int .i64 r'.mt.free, .int .i64 r'.mt.last] _ (fun w' hw' => by obtain ⟨X, rfl⟩ := hw'; exact drd_mt (S.out.dr.go X.h)) Tryz.underlying49 rfl rfl ?_; simp only [Act.put, List.setIfInBounds_toArray, List.set_cons_succ, List.set_cons_zero])
            | (refine wpQuiet_bin .neq MetaT (.tmp 143) (.tmp 147) _ rfl rfl _ _ _ rfl rfl (fun W => by kernel_rfl) hq ?_; simp only [Act.put, List.setIfInBounds_toArray, List.set_cons_succ, List.set_cons_zero])
            | (go_big_quiet_step (first
              | (go_at_call 24; exact after_call (Nat.le_refl _) ((rdPhase_any p r' _ (S.out.s.rd.go (After.h _))).mono fun _ _ h => ⟨h.1, h.2 ▸ Below.refl _ _⟩))
              | (go_at_call 25; exact after_call (Nat.le_refl _) ((rdSlot_any p r' _ (S.out.s.rd.go (After.h _))).mono fun _ _ h => ⟨h.1, h.2 ▸ Below.refl _ _⟩))
              | (go_at_call 26; exact after_call (v := .agg #[.int .u64 r'.mt.txn, .int .i64 r'.mt.main.page, .int .i64 r'.mt.main.count, .int .i64 r'.mt.main.flags, .int .i64 r'.mt.free, .int .i64 r'.mt.last]) (Nat.le_refl _) (rdMeta_any p r' _ (S.out.s.rd.go (After.h _))))
              | (go_at_call 27; exact after_call (Nat.le_refl _) (lkBytes_any l 0 sl' _ (S.out.s.lk.go (After.h _)) (by decide) I.out.ok))
              | (go_at_call 28; exact after_call (Nat.le_refl _) (dLkBytes_any q 0 sl' _ (S.out.dl.go (After.h _)) (by decide) I.out.ok)))))
          refine wpQuiet_nil ?_
          intro w9 hb9
          replace S := Lib.hid (S.out.go hb9)
          clear hb9 d2 d3
          go_wp2_with fail
          go_roundw
          case rel => exact ⟨k + 1, t', ⟨by omega, by omega⟩, rfl, by go_num, x', y', sl', r', B', S.out, I.out⟩
          case measure => simp [intOf]; omega
      · go_wp2_with fail
        go_ret
        obtain ⟨x, y, sl, r, B, hs, _⟩ := hst
        exact ⟨rfl, hs.s.hb⟩
end Go.Proofs.YtmcpkhknjdiocaaGreatDoor
