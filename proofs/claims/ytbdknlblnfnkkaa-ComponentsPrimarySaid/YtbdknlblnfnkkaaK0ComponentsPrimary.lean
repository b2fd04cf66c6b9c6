/- The code does what the models say. The conditions stand in each statement. -/
import Derived.Test.YtbdknlblnfnkkaaLb
namespace Go.Proofs.Ytbdknlblnfnkkaa
open Go Go.EL Go.RowKit Go.Proofs
theorem L_law21_vars (x1 : T_law21_Input) (x1lp : Option Addr) (x1lc : Nat) (r : Int) (hr : (law21_vars x1).Ret r) : Ctr Try.prog 12 #[.agg ([.slice x1lp x1.l.length x1lc, .int .u8 x1.n]).toArray] (fun G => SlR (Rp.vec .u8 4) G (.slice x1lp x1.l.length x1lc) x1.l) (fun G v => v = .int .i64 r) := by
  refine Ctr.enter (args := [_]) (N := 7) Try.func12 rfl rfl rfl (fun w0 G0 hL0 hpre => ?_)
  have x1lh := hpre
  refine WC.seq ?_
  refine WC.region ?_
  refine WL.box 1 guard_none rfl rfl (fun b1 => ?_)
  refine WL.y0' guard_none (Y0.assign rfl) rfl ?_
  refine WL.nil ?_
  refine WE.then ?_
  refine WC.seq ?_
  refine WC.region ?_
  refine WL.y0' guard_none (Y0.fieldAddr Try.underlying25 rfl (fun _ => by kernel_rfl) rfl) rfl ?_
  refine WL.y0' guard_none (Y0.loadL 1 sc5 rfl rfl rfl) rfl ?_
  refine WL.y0' guard_none (Y0.rem rfl rfl (by decide)) rfl ?_
  refine WL.y0' guard_none (Y0.conv Try.underlying5 Try.underlying3 rfl) rfl ?_
  refine WL.y0' guard_none (Y0.assign rfl) rfl ?_
  refine WL.nil ?_
  refine WE.then ?_
  refine WC.ret ?_
  replace hr : _ = r := hr
  subst hr
  exact WE.ret1 rfl rfl rfl
theorem L_R18_Made (x1 : (List (Fin 4 → Int))) (n1 : Int) (most1 : Int) (top1 : Int) (x1p : Option Addr) (x1c : Nat) (r : (List (Fin 8 → Int))) (hr : (R18_Made x1 n1 most1 top1).Ret r) : Ctr Try.prog 13 #[.slice x1p x1.length x1c, .int .i64 n1, .int .i64 most1, .int .i64 top1] (fun G => SlR (Rp.vec .u8 4) G (.slice x1p x1.length x1c) x1) (fun G v => ∃ zp zc, v = .slice zp r.length zc ∧ SlR (Rp.vec .i64 8) G (.slice zp r.length zc) r) := by
  refine Ctr.enter (args := [_, _, _, _]) (N := 52) Try.func13 rfl rfl rfl (fun w0 G0 hL0 hpre => ?_)
  have x1h := hpre
  refine WC.seq ?_
  refine WC.region ?_
  refine WL.y0' guard_none (Y0.assign rfl) rfl ?_
  refine WL.nil ?_
  refine WE.then ?_
  refine WC.seq ?_
  refine WC.region ?_
  refine WL.litR (e := 48) (r := (Rp.vec .i64 8)) (vs := #[]) (cs := []) ([] : List (Fin 8 → Int)) guard_none rfl rfl rfl rfl (by decide) (fun _ => by kernel_rfl) (rfl) (key := 999) rfl (by rw [hL0]; rfl) (fun p1 Gv1 Gv1le p1h => ?_)
  refine WL.y0' guard_none (Y0.assign rfl) rfl ?_
  refine WL.nil ?_
  refine WE.then ?_
  refine WC.seq ?_
  refine WC.seq ?_
  refine WC.region ?_
  refine WL.y0' guard_none (Y0.assign rfl) rfl ?_
  refine WL.nil ?_
  refine WE.then ?_
  refine WC.meetH (fun (gx : (List (Fin 8 → Int)) × Option Addr × Nat × Option Ow × Mem) => match gx with | ⟨out1, out1p, out1c, out1tk, Gm1⟩ => [(9, .slice out1p out1.length out1c)]) (fun (gx : (List (Fin 8 → Int)) × Option Addr × Nat × Option Ow × Mem) => match gx with | ⟨out1, out1p, out1c, out1tk, Gm1⟩ => Mem.le Gv1 Gm1 ∧ SlR (Rp.vec .i64 8) Gm1 (.slice out1p out1.length out1c) out1 ∧ Tok 8 48 (.slice out1p out1.length out1c) out1.length out1tk ∧ (R18_Made_k1 out1).Ret r) (fun (gx : (List (Fin 8 → Int)) × Option Addr × Nat × Option Ow × Mem) => match gx with | ⟨out1, out1p, out1c, out1tk, Gm1⟩ => St w0 G0 Gm1 [(1009, out1tk)]) ?_ ?_
  · refine WC.block ?_
    let Phi1 : (((List (Fin 8 → Int)))) → Prop := fun oo => ((fun ov => match ov with | out1 => R18_Made_k1 out1 : (((List (Fin 8 → Int)))) → Comp ((List (Fin 8 → Int)))) oo).wp (fun a => a = r)
    replace hr : (Comp.loop _ _).wp Phi1 := hr
    refine WC.loopR (Φ := Phi1) (fun (gx : (List (Fin 8 → Int)) × Option Addr × Nat × Option Ow × Int × Mem) => match gx with | ⟨out2, out2p, out2c, out2tk, i1, Gm2⟩ => ((out2, i1) : (List (Fin 8 → Int)) × Int)) (fun (gx : (List (Fin 8 → Int)) × Option Addr × Nat × Option Ow × Int × Mem) => match gx with | ⟨out2, out2p, out2c, out2tk, i1, Gm2⟩ => [(0, .slice x1p x1.length x1c), (1, .int .i64 n1), (2, .int .i64 most1), (3, .int .i64 top1), (9, .slice out2p out2.length out2c), (10, .int .i64 i1)]) (fun (gx : (List (Fin 8 → Int)) × Option Addr × Nat × Option Ow × Int × Mem) => match gx with | ⟨out2, out2p, out2c, out2tk, i1, Gm2⟩ => Mem.le Gv1 Gm2 ∧ SlR (Rp.vec .i64 8) Gm2 (.slice out2p out2.length out2c) out2 ∧ Tok 8 48 (.slice out2p out2.length out2c) out2.length out2tk) (fun (gx : (List (Fin 8 → Int)) × Option Addr × Nat × Option Ow × Int × Mem) => match gx with | ⟨out2, out2p, out2c, out2tk, i1, Gm2⟩ => St w0 G0 Gm2 [(1009, out2tk)]) ⟨[], p1, 0, none, 0, Gv1⟩ hr (Fr.sub_cons rfl (Fr.sub_cons rfl (Fr.sub_cons rfl (Fr.sub_cons rfl (Fr.sub_cons rfl (Fr.sub_cons rfl (Fr.sub_nil _))))))) ⟨(Mem.le_refl _), p1h, Tok.full⟩ ?_ ?_
    · intro w hs
      exact hs.weaken (Lo.sub_no (Lo.sub_nil _))
    · intro Aq1 gx hx hr
      obtain ⟨out2, out2p, out2c, out2tk, i1, Gm2⟩ := gx
      obtain ⟨Gm2le, out2h, out2ht⟩ := hx
      refine WC.seq ?_
      refine WC.seq ?_
      refine WC.region ?_
      refine WL.y0' guard_none (Y0.move rfl) rfl ?_
      refine WL.y0' guard_none (Y0.move rfl) rfl ?_
      refine WL.y0' guard_none (Y0.lenR Try.underlying23 (x1h.mono (Mem.le_trans Gv1le Gm2le)) rfl) rfl ?_
      refine WL.caseY0 (p := i1 < (x1.length : Int)) guard_none (Y0.lss rfl rfl) rfl (fun hb1 => ?_) (fun hb1 => ?_)
      · replace hr := hr.pos hb1
        refine WL.y0' guard_none (Y0.move rfl) rfl ?_
        refine WL.y0' (guard_yes rfl rfl) (Y0.move rfl) rfl ?_
        refine WL.y0' (guard_yes rfl rfl) (Y0.move rfl) rfl ?_
        refine WL.y0' (guard_yes rfl rfl) (Y0.lss rfl rfl) rfl ?_
        refine WL.y0' guard_none (Y0.pickT rfl rfl) rfl ?_
        refine WL.nil ?_
        refine WE.then ?_
        refine WC.condD (p := i1 < most1) rfl (fun hc1 => ?_) (fun hc1 => ?_)
        · replace hr := hr.pos hc1
          refine WC.skip ?_
          refine WE.then ?_
          refine WC.seq ?_
          refine WC.block ?_
          refine WC.seq ?_
          refine WC.region ?_
          refine WL.y0' guard_none (Y0.build (vs := #[]) (v := .agg (vecG (Value.int .i64) 8 (fun _ => 0)).toArray) rfl rfl (fun _ => by kernel_rfl)) rfl ?_
          refine WL.alloc 11 guard_none z48 rfl (fun b1 => ?_)
          refine WL.storeLA 11 guard_none sz48 rfl rfl rfl (vecG_size _ _ _) (vecG_size _ _ _) (fun u hu => Rp.one (Rp.vec .i64 8) (G := Gm2) (x := (fun _ => 0)) (cs := vecG (Value.int .i64) 8 (fun _ => 0)) rfl u (by simpa using hu)) ?_
          refine WL.nil ?_
          refine WE.then ?_
          refine WC.seq ?_
          refine WC.seq ?_
          refine WC.region ?_
          refine WL.y0' guard_none (Y0.assign rfl) rfl ?_
          refine WL.nil ?_
          refine WE.then ?_
          refine WC.meetH (fun (gx : (Fin 8 → Int) × Mem) => match gx with | ⟨bx1, Gm3⟩ => [(0, .slice x1p x1.length x1c), (1, .int .i64 n1), (2, .int .i64 most1), (3, .int .i64 top1), (9, .slice out2p out2.length out2c), (10, .int .i64 i1), (11, .pointer (some ⟨b1, 0, none⟩))]) (fun (gx : (Fin 8 → Int) × Mem) => match gx with | ⟨bx1, Gm3⟩ => Mem.le Gm2 Gm3 ∧ (R18_Made_k3 out2 i1 bx1).wp (Out Aq1 Phi1)) (fun (gx : (Fin 8 → Int) × Mem) => match gx with | ⟨bx1, Gm3⟩ => St w0 G0 Gm3 [(11, some ⟨b1, .cells (vecG (Value.int .i64) 8 bx1).toArray 48 (0, 0), 0⟩), (1009, out2tk)]) ?_ ?_
          · refine WC.block ?_
            let Phi2 : (Fin 8 → Int) → Prop := fun oo => ((fun ov => match ov with | bx1 => R18_Made_k3 out2 i1 bx1 : (Fin 8 → Int) → Comp (((List (Fin 8 → Int)) × Int) ⊕ (((List (Fin 8 → Int)))))) oo).wp (Out Aq1 Phi1)
            replace hr : (Comp.loop _ _).wp Phi2 := hr
            refine WC.loopR (Φ := Phi2) (fun (gx : Int × (Fin 8 → Int) × Mem) => match gx with | ⟨k1, bx2, Gm4⟩ => ((k1, bx2) : Int × (Fin 8 → Int))) (fun (gx : Int × (Fin 8 → Int) × Mem) => match gx with | ⟨k1, bx2, Gm4⟩ => [(0, .slice x1p x1.length x1c), (1, .int .i64 n1), (2, .int .i64 most1), (3, .int .i64 top1), (9, .slice out2p out2.length out2c), (10, .int .i64 i1), (11, .pointer (some ⟨b1, 0, none⟩)), (12, .int .i64 k1)]) (fun (gx : Int × (Fin 8 → Int) × Mem) => match gx with | ⟨k1, bx2, Gm4⟩ => Mem.le Gm2 Gm4) (fun (gx : Int × (Fin 8 → Int) × Mem) => match gx with | ⟨k1, bx2, Gm4⟩ => St w0 G0 Gm4 [(11, some ⟨b1, .cells (vecG (Value.int .i64) 8 bx2).toArray 48 (0, 0), 0⟩), (1009, out2tk)]) ⟨0, (fun _ => 0), Gm2⟩ hr (Fr.sub_cons rfl (Fr.sub_cons rfl (Fr.sub_cons rfl (Fr.sub_cons rfl (Fr.sub_cons rfl (Fr.sub_cons rfl (Fr.sub_cons rfl (Fr.sub_cons rfl (Fr.sub_nil _))))))))) (Mem.le_refl _) ?_ ?_
            · intro w hs
              exact hs.weaken (Lo.sub_cons rfl (Lo.sub_cons rfl (Lo.sub_nil _)))
            · intro Aq2 gx hx hr
              obtain ⟨k1, bx2, Gm4⟩ := gx
              have Gm4le := hx
              refine WC.seq ?_
              refine WC.seq ?_
              refine WC.region ?_
              refine WL.y0' guard_none (Y0.move rfl) rfl ?_
              refine WL.y0' guard_none (Y0.move rfl) rfl ?_
              refine WL.caseY0 (p := k1 < n1) guard_none (Y0.lss rfl rfl) rfl (fun hb2 => ?_) (fun hb2 => ?_)
              · replace hr := hr.pos hb2
                refine WL.y0' guard_none (Y0.move rfl) rfl ?_
                refine WL.y0' (guard_yes rfl rfl) (Y0.move rfl) rfl ?_
                refine WL.y0' (guard_yes rfl rfl) (Y0.lss rfl rfl) rfl ?_
                refine WL.y0' guard_none (Y0.pickT rfl rfl) rfl ?_
                refine WL.nil ?_
                refine WE.then ?_
                refine WC.condD (p := k1 < 4) rfl (fun hc2 => ?_) (fun hc2 => ?_)
                · replace hr := hr.pos hc2
                  refine WC.skip ?_
                  refine WE.then ?_
                  refine WC.seq ?_
                  refine WC.block ?_
                  refine WC.region ?_
                  refine WL.y0' guard_none (Y0.move rfl) rfl ?_
                  refine WL.y0' guard_none (Y0.move rfl) rfl ?_
                  refine WL.y0' guard_none (Y0.move rfl) rfl ?_
                  refine WL.y0' guard_none (Y0.move rfl) rfl ?_
                  obtain ⟨x2, hx2, hr⟩ := hr
                  refine WL.y0' guard_none (Y0.idxR Try.underlying23 sz65 (x1h.mono (Mem.le_trans (Mem.le_trans Gv1le Gm2le) Gm4le)) rfl rfl hx2) rfl ?_
                  obtain ⟨hi1, hr⟩ := hr
                  refine WL.y0' guard_none (Y0.idxA Try.underlying65 sz5 rfl rfl hi1) rfl ?_
                  refine WL.y0' guard_none (Y0.loadG sc5 rfl (AtK.vecAt (At.mono (SlR.at x1h hx2) (Mem.le_trans (Mem.le_trans Gv1le Gm2le) Gm4le)) hi1)) rfl ?_
                  refine WL.y0' guard_none (Y0.conv Try.underlying5 Try.underlying3 rfl) rfl ?_
                  refine WL.y0' guard_none (Y0.move rfl) rfl ?_
                  refine WL.y0' guard_none (Y0.add rfl rfl) rfl ?_
                  obtain ⟨hd1, hr⟩ := hr
                  refine WL.y0' guard_none (Y0.rem rfl rfl hd1) rfl ?_
                  obtain ⟨hi2, hr⟩ := hr
                  refine WL.y0' guard_none (Y0.idxA0 Try.underlying48 sz3 rfl rfl hi2) rfl ?_
                  refine WL.storeL 11 (vecG (Value.int .i64) 8 (setF bx2 k1.toNat (Int.tmod (IntKind.i64.wrap (getF x2 k1)) (IntKind.i64.wrap (top1 + 1))))).toArray guard_none sz3 rfl rfl rfl (by first | (rw [vecG_size]; omega) | (show _ < (vecG _ _ _).toArray.size; rw [vecG_size]; omega)) rfl (vecG_put _ _ _ _ _) ?_
                  refine WL.nil ?_
                  refine WE.inBlock ?_
                  refine WE.then ?_
                  refine WC.region ?_
                  refine WL.y0' guard_none (Y0.move rfl) rfl ?_
                  refine WL.y0' guard_none (Y0.add rfl rfl) rfl ?_
                  refine WL.y0' guard_none (Y0.assign rfl) rfl ?_
                  refine WL.nil ?_
                  refine WE.backR ⟨IntKind.i64.wrap (k1 + 1), setF bx2 k1.toNat (Int.tmod (IntKind.i64.wrap (getF x2 k1)) (IntKind.i64.wrap (top1 + 1))), Gm4⟩ hr Gm4le (Fr.sub_cons rfl (Fr.sub_cons rfl (Fr.sub_cons rfl (Fr.sub_cons rfl (Fr.sub_cons rfl (Fr.sub_cons rfl (Fr.sub_cons rfl (Fr.sub_cons rfl (Fr.sub_nil _))))))))) ?_
                  · intro w hs
                    exact hs.weaken (Lo.sub_cons rfl (Lo.sub_cons rfl (Lo.sub_nil _)))
                · replace hr := hr.neg hc2
                  refine WC.exit ?_
                  refine WE.thenExit ?_
                  refine WE.thenExit ?_
                  refine WE.exitHere ?_
                  refine WE.endH ⟨bx2, Gm4⟩ ⟨Gm4le, hr⟩ (Fr.sub_cons rfl (Fr.sub_cons rfl (Fr.sub_cons rfl (Fr.sub_cons rfl (Fr.sub_cons rfl (Fr.sub_cons rfl (Fr.sub_cons rfl (Fr.sub_nil _)))))))) ?_
                  · intro w hs
                    exact hs.weaken (Lo.sub_cons rfl (Lo.sub_cons rfl (Lo.sub_nil _)))
              · replace hr := hr.neg hb2
                refine WL.y0' guard_none (Y0.move rfl) rfl ?_
                refine WL.skip (guard_noT rfl rfl) rfl ?_
                refine WL.skip (guard_noT rfl rfl) rfl ?_
                refine WL.y0' guard_none (Y0.pickF rfl rfl) rfl ?_
                refine WL.nil ?_
                refine WE.then ?_
                refine WC.condF rfl ?_
                refine WC.exit ?_
                refine WE.thenExit ?_
                refine WE.thenExit ?_
                refine WE.exitHere ?_
                refine WE.endH ⟨bx2, Gm4⟩ ⟨Gm4le, hr⟩ (Fr.sub_cons rfl (Fr.sub_cons rfl (Fr.sub_cons rfl (Fr.sub_cons rfl (Fr.sub_cons rfl (Fr.sub_cons rfl (Fr.sub_cons rfl (Fr.sub_nil _)))))))) ?_
                · intro w hs
                  exact hs.weaken (Lo.sub_cons rfl (Lo.sub_cons rfl (Lo.sub_nil _)))
          · rintro ⟨bx1, Gm3⟩ ⟨Gm3le, hr⟩
            refine WE.then ?_
            refine WC.region ?_
            refine WL.y0' guard_none (Y0.move rfl) rfl ?_
            refine WL.y0' guard_none (Y0.loadLA 11 ag48 rfl rfl (vecG_size _ _ _)) rfl ?_
            refine WL.litR (e := 48) (r := (Rp.vec .i64 8)) (vs := #[(0, .agg (vecG (Value.int .i64) 8 bx1).toArray)]) (cs := (vecG (Value.int .i64) 8 bx1) ++ ([])) ([bx1] : List (Fin 8 → Int)) guard_none rfl rfl rfl rfl (by decide) (fun _ => by kernel_rfl) ⟨vecG (Value.int .i64) 8 bx1, [], rfl, rfl, rfl⟩ (key := 999) rfl (by rw [hL0]; rfl) (fun p2 Gv2 Gv2le p2h => ?_)
            obtain ⟨hsm1, hr⟩ := hr
            refine WL.appendR (r := (Rp.vec .i64 8)) 1009 guard_none rfl Try.underlying28 el48 rfl (by decide) rfl rfl (out2h.mono (Mem.le_trans Gm3le Gv2le)) rfl (by rw [hL0]; rfl) out2ht p2h hsm1 (fun p3 p3c p3tk Gv3 Gv3le p3h p3ht => ?_)
            refine WL.y0' guard_none (Y0.assign rfl) rfl ?_
            refine WL.nil ?_
            refine WE.inBlock ?_
            refine WE.then ?_
            refine WC.region ?_
            refine WL.y0' guard_none (Y0.move rfl) rfl ?_
            refine WL.y0' guard_none (Y0.add rfl rfl) rfl ?_
            refine WL.y0' guard_none (Y0.assign rfl) rfl ?_
            refine WL.nil ?_
            refine WE.backR ⟨(out2 ++ [bx1]), p3, p3c, p3tk, IntKind.i64.wrap (i1 + 1), Gv3⟩ hr ⟨(Mem.le_trans (Mem.le_trans (Mem.le_trans Gm2le Gm3le) Gv2le) Gv3le), p3h, p3ht⟩ (Fr.sub_cons rfl (Fr.sub_cons rfl (Fr.sub_cons rfl (Fr.sub_cons rfl (Fr.sub_cons rfl (Fr.sub_cons rfl (Fr.sub_nil _))))))) ?_
            · intro w hs
              exact hs.weaken (Lo.sub_cons rfl (Lo.sub_nil _))
        · replace hr := hr.neg hc1
          refine WC.exit ?_
          refine WE.thenExit ?_
          refine WE.thenExit ?_
          refine WE.exitHere ?_
          refine WE.endH ⟨out2, out2p, out2c, out2tk, Gm2⟩ ⟨Gm2le, out2h, out2ht, hr⟩ (Fr.sub_cons rfl (Fr.sub_nil _)) ?_
          · intro w hs
            exact hs.weaken (Lo.sub_cons rfl (Lo.sub_nil _))
      · replace hr := hr.neg hb1
        refine WL.y0' guard_none (Y0.move rfl) rfl ?_
        refine WL.skip (guard_noT rfl rfl) rfl ?_
        refine WL.skip (guard_noT rfl rfl) rfl ?_
        refine WL.skip (guard_noT rfl rfl) rfl ?_
        refine WL.y0' guard_none (Y0.pickF rfl rfl) rfl ?_
        refine WL.nil ?_
        refine WE.then ?_
        refine WC.condF rfl ?_
        refine WC.exit ?_
        refine WE.thenExit ?_
        refine WE.thenExit ?_
        refine WE.exitHere ?_
        refine WE.endH ⟨out2, out2p, out2c, out2tk, Gm2⟩ ⟨Gm2le, out2h, out2ht, hr⟩ (Fr.sub_cons rfl (Fr.sub_nil _)) ?_
        · intro w hs
          exact hs.weaken (Lo.sub_cons rfl (Lo.sub_nil _))
  · rintro ⟨out1, out1p, out1c, out1tk, Gm1⟩ ⟨Gm1le, out1h, out1ht, hr⟩
    refine WE.then ?_
    refine WC.seq ?_
    refine WC.region ?_
    refine WL.y0' guard_none (Y0.move rfl) rfl ?_
    refine WL.y0' guard_none (Y0.assign rfl) rfl ?_
    refine WL.nil ?_
    refine WE.then ?_
    refine WC.ret ?_
    replace hr : _ = r := hr
    subst hr
    exact WE.ret1 rfl rfl ⟨_, _, rfl, out1h⟩
theorem L_R04_Bit (i1 : Int) (r : Int) (hr : (R04_Bit i1).Ret r) : Ctr Try.prog 61 #[.int .i64 i1] (fun G => True) (fun G v => v = .int .u8 r) := by
  refine Ctr.enter (args := [_]) (N := 14) Try.func61 rfl rfl rfl (fun w0 G0 hL0 hpre => ?_)
  refine WC.seq ?_
  refine WC.region ?_
  refine WL.y0' guard_none (Y0.assign rfl) rfl ?_
  refine WL.nil ?_
  refine WE.then ?_
  refine WC.seq ?_
  refine WC.region ?_
  refine WL.y0' guard_none (Y0.assign rfl) rfl ?_
  refine WL.nil ?_
  refine WE.then ?_
  refine WC.seq ?_
  refine WC.seq ?_
  refine WC.region ?_
  refine WL.y0' guard_none (Y0.assign rfl) rfl ?_
  refine WL.nil ?_
  refine WE.then ?_
  refine WC.meetH (fun (gx : Int × Mem) => match gx with | ⟨n1, Gm1⟩ => [(3, .int .i64 n1)]) (fun (gx : Int × Mem) => match gx with | ⟨n1, Gm1⟩ => Mem.le G0 Gm1 ∧ (R04_Bit_k1 n1).Ret r) (fun (gx : Int × Mem) => match gx with | ⟨n1, Gm1⟩ => St w0 G0 Gm1 []) ?_ ?_
  · refine WC.block ?_
    let Phi1 : Int → Prop := fun oo => ((fun ov => match ov with | n1 => R04_Bit_k1 n1 : Int → Comp Int) oo).wp (fun a => a = r)
    replace hr : (Comp.loop _ _).wp Phi1 := hr
    refine WC.loopR (Φ := Phi1) (fun (gx : Int × Int × Mem) => match gx with | ⟨n2, k1, Gm2⟩ => ((n2, k1) : Int × Int)) (fun (gx : Int × Int × Mem) => match gx with | ⟨n2, k1, Gm2⟩ => [(0, .int .i64 i1), (3, .int .i64 n2), (4, .int .i64 k1)]) (fun (gx : Int × Int × Mem) => match gx with | ⟨n2, k1, Gm2⟩ => Mem.le G0 Gm2) (fun (gx : Int × Int × Mem) => match gx with | ⟨n2, k1, Gm2⟩ => St w0 G0 Gm2 []) ⟨1, 0, G0⟩ hr (Fr.sub_cons rfl (Fr.sub_cons rfl (Fr.sub_cons rfl (Fr.sub_nil _)))) (Mem.le_refl _) ?_ ?_
    · intro w hs
      exact hs.weaken (Lo.sub_nil _)
    · intro Aq1 gx hx hr
      obtain ⟨n2, k1, Gm2⟩ := gx
      have Gm2le := hx
      refine WC.seq ?_
      refine WC.seq ?_
      refine WC.region ?_
      refine WL.y0' guard_none (Y0.move rfl) rfl ?_
      refine WL.y0' guard_none (Y0.move rfl) rfl ?_
      refine WL.y0' guard_none (Y0.lss rfl rfl) rfl ?_
      refine WL.nil ?_
      refine WE.then ?_
      refine WC.condD (p := k1 < i1) rfl (fun hc1 => ?_) (fun hc1 => ?_)
      · replace hr := hr.pos hc1
        refine WC.skip ?_
        refine WE.then ?_
        refine WC.seq ?_
        refine WC.block ?_
        refine WC.region ?_
        refine WL.y0' guard_none (Y0.move rfl) rfl ?_
        refine WL.y0' guard_none (Y0.mul rfl rfl) rfl ?_
        refine WL.y0' guard_none (Y0.assign rfl) rfl ?_
        refine WL.nil ?_
        refine WE.inBlock ?_
        refine WE.then ?_
        refine WC.region ?_
        refine WL.y0' guard_none (Y0.move rfl) rfl ?_
        refine WL.y0' guard_none (Y0.add rfl rfl) rfl ?_
        refine WL.y0' guard_none (Y0.assign rfl) rfl ?_
        refine WL.nil ?_
        refine WE.backR ⟨IntKind.i64.wrap (2 * n2), IntKind.i64.wrap (k1 + 1), Gm2⟩ hr Gm2le (Fr.sub_cons rfl (Fr.sub_cons rfl (Fr.sub_cons rfl (Fr.sub_nil _)))) ?_
        · intro w hs
          exact hs.weaken (Lo.sub_nil _)
      · replace hr := hr.neg hc1
        refine WC.exit ?_
        refine WE.thenExit ?_
        refine WE.thenExit ?_
        refine WE.exitHere ?_
        refine WE.endH ⟨n2, Gm2⟩ ⟨Gm2le, hr⟩ (Fr.sub_cons rfl (Fr.sub_nil _)) ?_
        · intro w hs
          exact hs.weaken (Lo.sub_nil _)
  · rintro ⟨n1, Gm1⟩ ⟨Gm1le, hr⟩
    refine WE.then ?_
    refine WC.seq ?_
    refine WC.region ?_
    refine WL.y0' guard_none (Y0.move rfl) rfl ?_
    refine WL.y0' guard_none (Y0.conv Try.underlying3 Try.underlying5 rfl) rfl ?_
    refine WL.y0' guard_none (Y0.assign rfl) rfl ?_
    refine WL.nil ?_
    refine WE.then ?_
    refine WC.ret ?_
    replace hr : _ = r := hr
    subst hr
    exact WE.ret1 rfl rfl rfl
theorem L_R04_Support (m1 : (Fin 8 → Int)) (r : Int) (hr : (R04_Support m1).Ret r) : Ctr Try.prog 39 #[.agg (vecG (Value.int .i64) 8 m1).toArray] (fun G => True) (fun G v => v = .int .u8 r) := by
  refine Ctr.enter (args := [_]) (N := 18) Try.func39 rfl rfl rfl (fun w0 G0 hL0 hpre => ?_)
  refine WC.seq ?_
  refine WC.region ?_
  refine WL.box 1 guard_none rfl rfl (fun b1 => ?_)
  refine WL.y0' guard_none (Y0.assign rfl) rfl ?_
  refine WL.nil ?_
  refine WE.then ?_
  refine WC.seq ?_
  refine WC.region ?_
  refine WL.y0' guard_none (Y0.assign rfl) rfl ?_
  refine WL.nil ?_
  refine WE.then ?_
  refine WC.seq ?_
  refine WC.seq ?_
  refine WC.region ?_
  refine WL.y0' guard_none (Y0.assign rfl) rfl ?_
  refine WL.nil ?_
  refine WE.then ?_
  refine WC.meetH (fun (gx : Int × Mem) => match gx with | ⟨n1, Gm1⟩ => [(3, .int .u8 n1)]) (fun (gx : Int × Mem) => match gx with | ⟨n1, Gm1⟩ => Mem.le G0 Gm1 ∧ (R04_Support_k1 n1).Ret r) (fun (gx : Int × Mem) => match gx with | ⟨n1, Gm1⟩ => St w0 G0 Gm1 []) ?_ ?_
  · refine WC.block ?_
    let Phi1 : Int → Prop := fun oo => ((fun ov => match ov with | n1 => R04_Support_k1 n1 : Int → Comp Int) oo).wp (fun a => a = r)
    replace hr : (Comp.loop _ _).wp Phi1 := hr
    refine WC.loopR (Φ := Phi1) (fun (gx : Int × Int × Mem) => match gx with | ⟨n2, i1, Gm2⟩ => ((n2, i1) : Int × Int)) (fun (gx : Int × Int × Mem) => match gx with | ⟨n2, i1, Gm2⟩ => [(1, .pointer (some ⟨b1, 0, none⟩)), (3, .int .u8 n2), (4, .int .i64 i1)]) (fun (gx : Int × Int × Mem) => match gx with | ⟨n2, i1, Gm2⟩ => Mem.le G0 Gm2) (fun (gx : Int × Int × Mem) => match gx with | ⟨n2, i1, Gm2⟩ => St w0 G0 Gm2 [(1, some ⟨b1, .cells (vecG (Value.int .i64) 8 m1).toArray 48 (0, 0), 0⟩)]) ⟨0, 0, G0⟩ hr (Fr.sub_cons rfl (Fr.sub_cons rfl (Fr.sub_cons rfl (Fr.sub_nil _)))) (Mem.le_refl _) ?_ ?_
    · intro w hs
      exact hs.weaken (Lo.sub_cons rfl (Lo.sub_nil _))
    · intro Aq1 gx hx hr
      obtain ⟨n2, i1, Gm2⟩ := gx
      have Gm2le := hx
      refine WC.seq ?_
      refine WC.seq ?_
      refine WC.region ?_
      refine WL.y0' guard_none (Y0.move rfl) rfl ?_
      refine WL.y0' guard_none (Y0.lss rfl rfl) rfl ?_
      refine WL.nil ?_
      refine WE.then ?_
      refine WC.condD (p := i1 < 8) rfl (fun hc1 => ?_) (fun hc1 => ?_)
      · replace hr := hr.pos hc1
        refine WC.skip ?_
        refine WE.then ?_
        refine WC.seq ?_
        refine WC.block ?_
        refine WC.seq ?_
        refine WC.region ?_
        refine WL.y0' guard_none (Y0.move rfl) rfl ?_
        obtain ⟨hi1, hr⟩ := hr
        refine WL.y0' guard_none (Y0.idxA0 Try.underlying48 sz3 rfl rfl hi1) rfl ?_
        refine WL.y0' guard_none (Y0.loadL 1 sc3 rfl rfl (vecG_at _ _ _ hi1)) rfl ?_
        refine WL.y0' guard_none (Y0.gtr rfl rfl) rfl ?_
        refine WL.nil ?_
        refine WE.then ?_
        refine WC.condD (p := 0 < (getF m1 i1)) rfl (fun hc2 => ?_) (fun hc2 => ?_)
        · replace hr := hr.pos hc2
          refine WC.region ?_
          refine WL.y0' guard_none (Y0.move rfl) rfl ?_
          refine WL.y0' guard_none (Y0.move rfl) rfl ?_
          obtain ⟨yv1, hyv1, hr⟩ := hr
          refine WL.call0 guard_none rfl (YC.of E61 rfl) (L_R04_Bit _ _ hyv1) rfl (trivial) ?_
          refine WL.y0' guard_none (Y0.add rfl rfl) rfl ?_
          refine WL.y0' guard_none (Y0.assign rfl) rfl ?_
          refine WL.nil ?_
          refine WE.inBlock ?_
          refine WE.then ?_
          refine WC.region ?_
          refine WL.y0' guard_none (Y0.move rfl) rfl ?_
          refine WL.y0' guard_none (Y0.add rfl rfl) rfl ?_
          refine WL.y0' guard_none (Y0.assign rfl) rfl ?_
          refine WL.nil ?_
          refine WE.backR ⟨IntKind.u8.wrap (n2 + yv1), IntKind.i64.wrap (i1 + 1), Gm2⟩ hr Gm2le (Fr.sub_cons rfl (Fr.sub_cons rfl (Fr.sub_cons rfl (Fr.sub_nil _)))) ?_
          · intro w hs
            exact hs.weaken (Lo.sub_cons rfl (Lo.sub_nil _))
        · replace hr := hr.neg hc2
          refine WC.skip ?_
          refine WE.inBlock ?_
          refine WE.then ?_
          refine WC.region ?_
          refine WL.y0' guard_none (Y0.move rfl) rfl ?_
          refine WL.y0' guard_none (Y0.add rfl rfl) rfl ?_
          refine WL.y0' guard_none (Y0.assign rfl) rfl ?_
          refine WL.nil ?_
          refine WE.backR ⟨n2, IntKind.i64.wrap (i1 + 1), Gm2⟩ hr Gm2le (Fr.sub_cons rfl (Fr.sub_cons rfl (Fr.sub_cons rfl (Fr.sub_nil _)))) ?_
          · intro w hs
            exact hs.weaken (Lo.sub_cons rfl (Lo.sub_nil _))
      · replace hr := hr.neg hc1
        refine WC.exit ?_
        refine WE.thenExit ?_
        refine WE.thenExit ?_
        refine WE.exitHere ?_
        refine WE.endH ⟨n2, Gm2⟩ ⟨Gm2le, hr⟩ (Fr.sub_cons rfl (Fr.sub_nil _)) ?_
        · intro w hs
          exact hs.weaken (Lo.sub_nil _)
  · rintro ⟨n1, Gm1⟩ ⟨Gm1le, hr⟩
    refine WE.then ?_
    refine WC.seq ?_
    refine WC.region ?_
    refine WL.y0' guard_none (Y0.move rfl) rfl ?_
    refine WL.y0' guard_none (Y0.assign rfl) rfl ?_
    refine WL.nil ?_
    refine WE.then ?_
    refine WC.ret ?_
    replace hr : _ = r := hr
    subst hr
    exact WE.ret1 rfl rfl rfl
theorem L_R04_Divides (a1 : (Fin 8 → Int)) (b1 : (Fin 8 → Int)) (r : Bool) (hr : (R04_Divides a1 b1).Ret r) : Ctr Try.prog 58 #[.agg (vecG (Value.int .i64) 8 a1).toArray, .agg (vecG (Value.int .i64) 8 b1).toArray] (fun G => True) (fun G v => v = .bool r) := by
  refine Ctr.enter (args := [_, _]) (N := 17) Try.func58 rfl rfl rfl (fun w0 G0 hL0 hpre => ?_)
  refine WC.seq ?_
  refine WC.region ?_
  refine WL.box 2 guard_none rfl rfl (fun b2 => ?_)
  refine WL.box 3 guard_none rfl rfl (fun b3 => ?_)
  refine WL.y0' guard_none (Y0.assign rfl) rfl ?_
  refine WL.nil ?_
  refine WE.then ?_
  refine WC.seq ?_
  refine WC.seq ?_
  refine WC.region ?_
  refine WL.y0' guard_none (Y0.assign rfl) rfl ?_
  refine WL.nil ?_
  refine WE.then ?_
  refine WC.meetH (fun (gx : Mem) => match gx with | Gm1 => []) (fun (gx : Mem) => match gx with | Gm1 => Mem.le G0 Gm1 ∧ (R04_Divides_k1).Ret r) (fun (gx : Mem) => match gx with | Gm1 => St w0 G0 Gm1 []) ?_ ?_
  · refine WC.block ?_
    let Phi1 : (Bool ⊕ Unit) → Prop := fun oo => ((fun ov => match ov with | .inl rv1 => Comp.ret rv1 | .inr () => R04_Divides_k1 : (Bool ⊕ Unit) → Comp Bool) oo).wp (fun a => a = r)
    replace hr : (Comp.loop _ _).wp Phi1 := hr
    refine WC.loopR (Φ := Phi1) (fun (gx : Int × Mem) => match gx with | ⟨i1, Gm2⟩ => (i1 : Int)) (fun (gx : Int × Mem) => match gx with | ⟨i1, Gm2⟩ => [(2, .pointer (some ⟨b2, 0, none⟩)), (3, .pointer (some ⟨b3, 0, none⟩)), (5, .int .i64 i1)]) (fun (gx : Int × Mem) => match gx with | ⟨i1, Gm2⟩ => Mem.le G0 Gm2) (fun (gx : Int × Mem) => match gx with | ⟨i1, Gm2⟩ => St w0 G0 Gm2 [(2, some ⟨b2, .cells (vecG (Value.int .i64) 8 a1).toArray 48 (0, 0), 0⟩), (3, some ⟨b3, .cells (vecG (Value.int .i64) 8 b1).toArray 48 (0, 0), 0⟩)]) ⟨0, G0⟩ hr (Fr.sub_cons rfl (Fr.sub_cons rfl (Fr.sub_cons rfl (Fr.sub_nil _)))) (Mem.le_refl _) ?_ ?_
    · intro w hs
      exact hs.weaken (Lo.sub_cons rfl (Lo.sub_cons rfl (Lo.sub_nil _)))
    · intro Aq1 gx hx hr
      obtain ⟨i1, Gm2⟩ := gx
      have Gm2le := hx
      refine WC.seq ?_
      refine WC.seq ?_
      refine WC.region ?_
      refine WL.y0' guard_none (Y0.move rfl) rfl ?_
      refine WL.y0' guard_none (Y0.lss rfl rfl) rfl ?_
      refine WL.nil ?_
      refine WE.then ?_
      refine WC.condD (p := i1 < 8) rfl (fun hc1 => ?_) (fun hc1 => ?_)
      · replace hr := hr.pos hc1
        refine WC.skip ?_
        refine WE.then ?_
        refine WC.seq ?_
        refine WC.block ?_
        refine WC.seq ?_
        refine WC.drawn [false, false, false, false, false, false, false] mix (by kernel_rfl) (fun hb => ?_)
        refine Chain.y0 guard_none (fun _ hle => Y0.move rfl) ?_
        obtain ⟨hi1, hr⟩ := hr
        refine Chain.y0 guard_none (fun _ hle => Y0.idxA0 Try.underlying48 sz3 rfl rfl hi1) ?_
        refine Chain.y0 guard_none (fun _ hle => Y0.loadL 2 sc3 rfl rfl (vecG_at _ _ _ hi1)) ?_
        refine Chain.y0 guard_none (fun _ hle => Y0.move rfl) ?_
        obtain ⟨hi2, hr⟩ := hr
        refine Chain.y0 guard_none (fun _ hle => Y0.idxA0 Try.underlying48 sz3 rfl rfl hi2) ?_
        refine Chain.y0 guard_none (fun _ hle => Y0.loadL 3 sc3 rfl rfl (vecG_at _ _ _ hi2)) ?_
        refine Chain.y0 guard_none (fun _ hle => Y0.gtr rfl rfl) ?_
        refine Chain.tail0 hb ?_
        refine WL.nil ?_
        refine WE.nx ?_
        refine WE.then ?_
        refine WC.condD (p := (getF b1 i1) < (getF a1 i1)) rfl (fun hc2 => ?_) (fun hc2 => ?_)
        · replace hr := hr.pos hc2
          refine WC.seq ?_
          refine WC.region ?_
          refine WL.y0' guard_none (Y0.assign rfl) rfl ?_
          refine WL.nil ?_
          refine WE.then ?_
          refine WC.ret ?_
          replace hr : _ = r := hr
          refine WE.inBlockRet ?_
          refine WE.thenRet ?_
          refine WE.thenRet ?_
          refine WE.inBlockRet ?_
          refine WE.endRet ?_
          refine WE.thenRet ?_
          subst hr
          exact WE.ret1 rfl rfl rfl
        · replace hr := hr.neg hc2
          refine WC.skip ?_
          refine WE.inBlock ?_
          refine WE.then ?_
          refine WC.region ?_
          refine WL.y0' guard_none (Y0.move rfl) rfl ?_
          refine WL.y0' guard_none (Y0.add rfl rfl) rfl ?_
          refine WL.y0' guard_none (Y0.assign rfl) rfl ?_
          refine WL.nil ?_
          refine WE.backR ⟨IntKind.i64.wrap (i1 + 1), Gm2⟩ hr Gm2le (Fr.sub_cons rfl (Fr.sub_cons rfl (Fr.sub_cons rfl (Fr.sub_nil _)))) ?_
          · intro w hs
            exact hs.weaken (Lo.sub_cons rfl (Lo.sub_cons rfl (Lo.sub_nil _)))
      · replace hr := hr.neg hc1
        refine WC.exit ?_
        refine WE.thenExit ?_
        refine WE.thenExit ?_
        refine WE.exitHere ?_
        refine WE.endH Gm2 ⟨Gm2le, hr⟩ (Fr.sub_nil _) ?_
        · intro w hs
          exact hs.weaken (Lo.sub_nil _)
  · rintro Gm1 ⟨Gm1le, hr⟩
    refine WE.then ?_
    refine WC.seq ?_
    refine WC.region ?_
    refine WL.y0' guard_none (Y0.assign rfl) rfl ?_
    refine WL.nil ?_
    refine WE.then ?_
    refine WC.ret ?_
    replace hr : _ = r := hr
    subst hr
    exact WE.ret1 rfl rfl rfl
theorem L_R04_lowest (m1 : (Fin 8 → Int)) (l1 : (List (Fin 8 → Int))) (l1p : Option Addr) (l1c : Nat) (r : Bool) (hr : (R04_lowest m1 l1).Ret r) : Ctr Try.prog 56 #[.agg (vecG (Value.int .i64) 8 m1).toArray, .slice l1p l1.length l1c] (fun G => SlR (Rp.vec .i64 8) G (.slice l1p l1.length l1c) l1) (fun G v => v = .bool r) := by
  refine Ctr.enter (args := [_, _]) (N := 26) Try.func56 rfl rfl rfl (fun w0 G0 hL0 hpre => ?_)
  have l1h := hpre
  refine WC.seq ?_
  refine WC.region ?_
  refine WL.box 2 guard_none rfl rfl (fun b1 => ?_)
  refine WL.y0' guard_none (Y0.assign rfl) rfl ?_
  refine WL.nil ?_
  refine WE.then ?_
  refine WC.seq ?_
  refine WC.seq ?_
  refine WC.region ?_
  refine WL.y0' guard_none (Y0.assign rfl) rfl ?_
  refine WL.nil ?_
  refine WE.then ?_
  refine WC.meetH (fun (gx : Mem) => match gx with | Gm1 => []) (fun (gx : Mem) => match gx with | Gm1 => Mem.le G0 Gm1 ∧ (R04_lowest_k1).Ret r) (fun (gx : Mem) => match gx with | Gm1 => St w0 G0 Gm1 []) ?_ ?_
  · refine WC.block ?_
    let Phi1 : (Bool ⊕ Unit) → Prop := fun oo => ((fun ov => match ov with | .inl rv1 => Comp.ret rv1 | .inr () => R04_lowest_k1 : (Bool ⊕ Unit) → Comp Bool) oo).wp (fun a => a = r)
    replace hr : (Comp.loop _ _).wp Phi1 := hr
    refine WC.loopR (Φ := Phi1) (fun (gx : Int × Mem) => match gx with | ⟨i1, Gm2⟩ => (i1 : Int)) (fun (gx : Int × Mem) => match gx with | ⟨i1, Gm2⟩ => [(1, .slice l1p l1.length l1c), (2, .pointer (some ⟨b1, 0, none⟩)), (5, .int .i64 i1)]) (fun (gx : Int × Mem) => match gx with | ⟨i1, Gm2⟩ => Mem.le G0 Gm2) (fun (gx : Int × Mem) => match gx with | ⟨i1, Gm2⟩ => St w0 G0 Gm2 [(2, some ⟨b1, .cells (vecG (Value.int .i64) 8 m1).toArray 48 (0, 0), 0⟩)]) ⟨0, G0⟩ hr (Fr.sub_cons rfl (Fr.sub_cons rfl (Fr.sub_cons rfl (Fr.sub_nil _)))) (Mem.le_refl _) ?_ ?_
    · intro w hs
      exact hs.weaken (Lo.sub_cons rfl (Lo.sub_nil _))
    · intro Aq1 gx hx hr
      obtain ⟨i1, Gm2⟩ := gx
      have Gm2le := hx
      refine WC.seq ?_
      refine WC.seq ?_
      refine WC.region ?_
      refine WL.y0' guard_none (Y0.move rfl) rfl ?_
      refine WL.y0' guard_none (Y0.move rfl) rfl ?_
      refine WL.y0' guard_none (Y0.lenR Try.underlying28 (l1h.mono Gm2le) rfl) rfl ?_
      refine WL.y0' guard_none (Y0.lss rfl rfl) rfl ?_
      refine WL.nil ?_
      refine WE.then ?_
      refine WC.condD (p := i1 < (l1.length : Int)) rfl (fun hc1 => ?_) (fun hc1 => ?_)
      · replace hr := hr.pos hc1
        refine WC.skip ?_
        refine WE.then ?_
        refine WC.seq ?_
        refine WC.block ?_
        refine WC.seq ?_
        refine WC.drawn [false, false, false, false, false, false, false, false, false, false, false, false, false, false] mix (by kernel_rfl) (fun hb => ?_)
        refine Chain.y0 guard_none (fun _ hle => Y0.move rfl) ?_
        refine Chain.y0 guard_none (fun _ hle => Y0.move rfl) ?_
        obtain ⟨x1, hx1, hr⟩ := hr
        refine Chain.y0 guard_none (fun _ hle => Y0.idxR Try.underlying28 sz48 ((l1h.mono Gm2le).mono hle) rfl rfl hx1) ?_
        refine Chain.y0 guard_none (fun _ hle => Y0.loadGA _ ag48 rfl (vecG_size _ _ _) (AtK.vec (At.mono (At.mono (SlR.at l1h hx1) Gm2le) hle))) ?_
        refine Chain.y0 guard_none (fun _ hle => Y0.loadLA 2 ag48 rfl rfl (vecG_size _ _ _)) ?_
        refine Chain.caseY0 (p := ¬ x1 = m1) guard_none (fun _ hle => Y0.neqV Try.underlying48 Try.underlying3 sc3 sz3 eg48 rfl rfl) (fun hb1 => ?_) (fun hb1 => ?_)
        · replace hr := hr.pos hb1
          refine Chain.y0 guard_none (fun _ hle => Y0.move rfl) ?_
          refine Chain.y0 (guard_yes rfl rfl) (fun _ hle => Y0.move rfl) ?_
          refine Chain.y0 (guard_yes rfl rfl) (fun _ hle => Y0.move rfl) ?_
          obtain ⟨x2, hx2, hr⟩ := hr
          refine Chain.y0 (guard_yes rfl rfl) (fun _ hle => Y0.idxR Try.underlying28 sz48 ((l1h.mono Gm2le).mono hle) rfl rfl hx2) ?_
          refine Chain.y0 (guard_yes rfl rfl) (fun _ hle => Y0.loadGA _ ag48 rfl (vecG_size _ _ _) (AtK.vec (At.mono (At.mono (SlR.at l1h hx2) Gm2le) hle))) ?_
          refine Chain.y0 (guard_yes rfl rfl) (fun _ hle => Y0.loadLA 2 ag48 rfl rfl (vecG_size _ _ _)) ?_
          obtain ⟨yv1, hyv1, hr⟩ := hr
          refine Chain.call0 (guard_yes rfl rfl) (fun _ => YC.of E58 rfl) (L_R04_Divides _ _ _ hyv1) rfl (fun G' hle => trivial) ?_
          refine Chain.y0 guard_none (fun _ hle => Y0.pickT rfl rfl) ?_
          refine Chain.tail0 hb ?_
          refine WL.nil ?_
          refine WE.nx ?_
          refine WE.then ?_
          refine WC.cond (b := yv1) rfl (fun hc2 => ?_) (fun hc2 => ?_)
          · replace hr := hr.pos hc2
            refine WC.seq ?_
            refine WC.region ?_
            refine WL.y0' guard_none (Y0.assign rfl) rfl ?_
            refine WL.nil ?_
            refine WE.then ?_
            refine WC.ret ?_
            replace hr : _ = r := hr
            refine WE.inBlockRet ?_
            refine WE.thenRet ?_
            refine WE.thenRet ?_
            refine WE.inBlockRet ?_
            refine WE.endRet ?_
            refine WE.thenRet ?_
            subst hr
            exact WE.ret1 rfl rfl rfl
          · replace hr := hr.neg (Bool.eq_false_iff.1 hc2)
            refine WC.skip ?_
            refine WE.inBlock ?_
            refine WE.then ?_
            refine WC.region ?_
            refine WL.y0' guard_none (Y0.move rfl) rfl ?_
            refine WL.y0' guard_none (Y0.add rfl rfl) rfl ?_
            refine WL.y0' guard_none (Y0.assign rfl) rfl ?_
            refine WL.nil ?_
            refine WE.backR ⟨IntKind.i64.wrap (i1 + 1), Gm2⟩ hr Gm2le (Fr.sub_cons rfl (Fr.sub_cons rfl (Fr.sub_cons rfl (Fr.sub_nil _)))) ?_
            · intro w hs
              exact hs.weaken (Lo.sub_cons rfl (Lo.sub_nil _))
        · replace hr := hr.neg hb1
          refine Chain.y0 guard_none (fun _ hle => Y0.move rfl) ?_
          refine Chain.skip (guard_noT rfl rfl) ?_
          refine Chain.skip (guard_noT rfl rfl) ?_
          refine Chain.skip (guard_noT rfl rfl) ?_
          refine Chain.skip (guard_noT rfl rfl) ?_
          refine Chain.skip (guard_noT rfl rfl) ?_
          refine Chain.skip (guard_noT rfl rfl) ?_
          refine Chain.y0 guard_none (fun _ hle => Y0.pickF rfl rfl) ?_
          refine Chain.tail0 hb ?_
          refine WL.nil ?_
          refine WE.nx ?_
          refine WE.then ?_
          refine WC.condF rfl ?_
          refine WC.skip ?_
          refine WE.inBlock ?_
          refine WE.then ?_
          refine WC.region ?_
          refine WL.y0' guard_none (Y0.move rfl) rfl ?_
          refine WL.y0' guard_none (Y0.add rfl rfl) rfl ?_
          refine WL.y0' guard_none (Y0.assign rfl) rfl ?_
          refine WL.nil ?_
          refine WE.backR ⟨IntKind.i64.wrap (i1 + 1), Gm2⟩ hr Gm2le (Fr.sub_cons rfl (Fr.sub_cons rfl (Fr.sub_cons rfl (Fr.sub_nil _)))) ?_
          · intro w hs
            exact hs.weaken (Lo.sub_cons rfl (Lo.sub_nil _))
      · replace hr := hr.neg hc1
        refine WC.exit ?_
        refine WE.thenExit ?_
        refine WE.thenExit ?_
        refine WE.exitHere ?_
        refine WE.endH Gm2 ⟨Gm2le, hr⟩ (Fr.sub_nil _) ?_
        · intro w hs
          exact hs.weaken (Lo.sub_nil _)
  · rintro Gm1 ⟨Gm1le, hr⟩
    refine WE.then ?_
    refine WC.seq ?_
    refine WC.region ?_
    refine WL.y0' guard_none (Y0.assign rfl) rfl ?_
    refine WL.nil ?_
    refine WE.then ?_
    refine WC.ret ?_
    replace hr : _ = r := hr
    subst hr
    exact WE.ret1 rfl rfl rfl
theorem L_R04_Cmp (a1 : (Fin 8 → Int)) (b1 : (Fin 8 → Int)) (r : Int) (hr : (R04_Cmp a1 b1).Ret r) : Ctr Try.prog 35 #[.agg (vecG (Value.int .i64) 8 a1).toArray, .agg (vecG (Value.int .i64) 8 b1).toArray] (fun G => True) (fun G v => v = .int .i64 r) := by
  refine Ctr.enter (args := [_, _]) (N := 24) Try.func35 rfl rfl rfl (fun w0 G0 hL0 hpre => ?_)
  refine WC.seq ?_
  refine WC.region ?_
  refine WL.box 2 guard_none rfl rfl (fun b2 => ?_)
  refine WL.box 3 guard_none rfl rfl (fun b3 => ?_)
  refine WL.y0' guard_none (Y0.assign rfl) rfl ?_
  refine WL.nil ?_
  refine WE.then ?_
  refine WC.seq ?_
  refine WC.seq ?_
  refine WC.region ?_
  refine WL.y0' guard_none (Y0.assign rfl) rfl ?_
  refine WL.nil ?_
  refine WE.then ?_
  refine WC.meetH (fun (gx : Mem) => match gx with | Gm1 => []) (fun (gx : Mem) => match gx with | Gm1 => Mem.le G0 Gm1 ∧ (R04_Cmp_k1).Ret r) (fun (gx : Mem) => match gx with | Gm1 => St w0 G0 Gm1 []) ?_ ?_
  · refine WC.block ?_
    let Phi1 : (Int ⊕ Unit) → Prop := fun oo => ((fun ov => match ov with | .inl rv1 => Comp.ret rv1 | .inr () => R04_Cmp_k1 : (Int ⊕ Unit) → Comp Int) oo).wp (fun a => a = r)
    replace hr : (Comp.loop _ _).wp Phi1 := hr
    refine WC.loopR (Φ := Phi1) (fun (gx : Int × Mem) => match gx with | ⟨i1, Gm2⟩ => (i1 : Int)) (fun (gx : Int × Mem) => match gx with | ⟨i1, Gm2⟩ => [(2, .pointer (some ⟨b2, 0, none⟩)), (3, .pointer (some ⟨b3, 0, none⟩)), (5, .int .i64 i1)]) (fun (gx : Int × Mem) => match gx with | ⟨i1, Gm2⟩ => Mem.le G0 Gm2) (fun (gx : Int × Mem) => match gx with | ⟨i1, Gm2⟩ => St w0 G0 Gm2 [(2, some ⟨b2, .cells (vecG (Value.int .i64) 8 a1).toArray 48 (0, 0), 0⟩), (3, some ⟨b3, .cells (vecG (Value.int .i64) 8 b1).toArray 48 (0, 0), 0⟩)]) ⟨0, G0⟩ hr (Fr.sub_cons rfl (Fr.sub_cons rfl (Fr.sub_cons rfl (Fr.sub_nil _)))) (Mem.le_refl _) ?_ ?_
    · intro w hs
      exact hs.weaken (Lo.sub_cons rfl (Lo.sub_cons rfl (Lo.sub_nil _)))
    · intro Aq1 gx hx hr
      obtain ⟨i1, Gm2⟩ := gx
      have Gm2le := hx
      refine WC.seq ?_
      refine WC.seq ?_
      refine WC.region ?_
      refine WL.y0' guard_none (Y0.move rfl) rfl ?_
      refine WL.y0' guard_none (Y0.lss rfl rfl) rfl ?_
      refine WL.nil ?_
      refine WE.then ?_
      refine WC.condD (p := i1 < 8) rfl (fun hc1 => ?_) (fun hc1 => ?_)
      · replace hr := hr.pos hc1
        refine WC.skip ?_
        refine WE.then ?_
        refine WC.seq ?_
        refine WC.block ?_
        refine WC.seq ?_
        refine WC.seq ?_
        refine WC.drawn [false, false, false, false, false, false, false] mix (by kernel_rfl) (fun hb => ?_)
        refine Chain.y0 guard_none (fun _ hle => Y0.move rfl) ?_
        obtain ⟨hi1, hr⟩ := hr
        refine Chain.y0 guard_none (fun _ hle => Y0.idxA0 Try.underlying48 sz3 rfl rfl hi1) ?_
        refine Chain.y0 guard_none (fun _ hle => Y0.loadL 2 sc3 rfl rfl (vecG_at _ _ _ hi1)) ?_
        refine Chain.y0 guard_none (fun _ hle => Y0.move rfl) ?_
        obtain ⟨hi2, hr⟩ := hr
        refine Chain.y0 guard_none (fun _ hle => Y0.idxA0 Try.underlying48 sz3 rfl rfl hi2) ?_
        refine Chain.y0 guard_none (fun _ hle => Y0.loadL 3 sc3 rfl rfl (vecG_at _ _ _ hi2)) ?_
        refine Chain.y0 guard_none (fun _ hle => Y0.lss rfl rfl) ?_
        refine Chain.tail0 hb ?_
        refine WL.nil ?_
        refine WE.nx ?_
        refine WE.then ?_
        refine WC.condD (p := (getF a1 i1) < (getF b1 i1)) rfl (fun hc2 => ?_) (fun hc2 => ?_)
        · replace hr := hr.pos hc2
          refine WC.seq ?_
          refine WC.region ?_
          refine WL.y0' guard_none (Y0.assign rfl) rfl ?_
          refine WL.nil ?_
          refine WE.then ?_
          refine WC.ret ?_
          replace hr : _ = r := hr
          refine WE.thenRet ?_
          refine WE.inBlockRet ?_
          refine WE.thenRet ?_
          refine WE.thenRet ?_
          refine WE.inBlockRet ?_
          refine WE.endRet ?_
          refine WE.thenRet ?_
          subst hr
          exact WE.ret1 rfl rfl rfl
        · replace hr := hr.neg hc2
          refine WC.skip ?_
          refine WE.then ?_
          refine WC.seq ?_
          refine WC.drawn [false, false, false, false, false, false, false] mix (by kernel_rfl) (fun hb => ?_)
          refine Chain.y0 guard_none (fun _ hle => Y0.move rfl) ?_
          obtain ⟨hi3, hr⟩ := hr
          refine Chain.y0 guard_none (fun _ hle => Y0.idxA0 Try.underlying48 sz3 rfl rfl hi3) ?_
          refine Chain.y0 guard_none (fun _ hle => Y0.loadL 2 sc3 rfl rfl (vecG_at _ _ _ hi3)) ?_
          refine Chain.y0 guard_none (fun _ hle => Y0.move rfl) ?_
          obtain ⟨hi4, hr⟩ := hr
          refine Chain.y0 guard_none (fun _ hle => Y0.idxA0 Try.underlying48 sz3 rfl rfl hi4) ?_
          refine Chain.y0 guard_none (fun _ hle => Y0.loadL 3 sc3 rfl rfl (vecG_at _ _ _ hi4)) ?_
          refine Chain.y0 guard_none (fun _ hle => Y0.gtr rfl rfl) ?_
          refine Chain.tail0 hb ?_
          refine WL.nil ?_
          refine WE.nx ?_
          refine WE.then ?_
          refine WC.condD (p := (getF b1 i1) < (getF a1 i1)) rfl (fun hc3 => ?_) (fun hc3 => ?_)
          · replace hr := hr.pos hc3
            refine WC.seq ?_
            refine WC.region ?_
            refine WL.y0' guard_none (Y0.assign rfl) rfl ?_
            refine WL.nil ?_
            refine WE.then ?_
            refine WC.ret ?_
            replace hr : _ = r := hr
            refine WE.inBlockRet ?_
            refine WE.thenRet ?_
            refine WE.thenRet ?_
            refine WE.inBlockRet ?_
            refine WE.endRet ?_
            refine WE.thenRet ?_
            subst hr
            exact WE.ret1 rfl rfl rfl
          · replace hr := hr.neg hc3
            refine WC.skip ?_
            refine WE.inBlock ?_
            refine WE.then ?_
            refine WC.region ?_
            refine WL.y0' guard_none (Y0.move rfl) rfl ?_
            refine WL.y0' guard_none (Y0.add rfl rfl) rfl ?_
            refine WL.y0' guard_none (Y0.assign rfl) rfl ?_
            refine WL.nil ?_
            refine WE.backR ⟨IntKind.i64.wrap (i1 + 1), Gm2⟩ hr Gm2le (Fr.sub_cons rfl (Fr.sub_cons rfl (Fr.sub_cons rfl (Fr.sub_nil _)))) ?_
            · intro w hs
              exact hs.weaken (Lo.sub_cons rfl (Lo.sub_cons rfl (Lo.sub_nil _)))
      · replace hr := hr.neg hc1
        refine WC.exit ?_
        refine WE.thenExit ?_
        refine WE.thenExit ?_
        refine WE.exitHere ?_
        refine WE.endH Gm2 ⟨Gm2le, hr⟩ (Fr.sub_nil _) ?_
        · intro w hs
          exact hs.weaken (Lo.sub_nil _)
  · rintro Gm1 ⟨Gm1le, hr⟩
    refine WE.then ?_
    refine WC.seq ?_
    refine WC.region ?_
    refine WL.y0' guard_none (Y0.assign rfl) rfl ?_
    refine WL.nil ?_
    refine WE.then ?_
    refine WC.ret ?_
    replace hr : _ = r := hr
    subst hr
    exact WE.ret1 rfl rfl rfl
theorem L_R04_insert (l1 : (List (Fin 8 → Int))) (m1 : (Fin 8 → Int)) (l1p : Option Addr) (l1c : Nat) (r : (List (Fin 8 → Int))) (hr : (R04_insert l1 m1).Ret r) : Ctr Try.prog 57 #[.slice l1p l1.length l1c, .agg (vecG (Value.int .i64) 8 m1).toArray] (fun G => SlR (Rp.vec .i64 8) G (.slice l1p l1.length l1c) l1) (fun G v => ∃ zp zc, v = .slice zp r.length zc ∧ SlR (Rp.vec .i64 8) G (.slice zp r.length zc) r) := by
  refine Ctr.enter (args := [_, _]) (N := 50) Try.func57 rfl rfl rfl (fun w0 G0 hL0 hpre => ?_)
  have l1h := hpre
  refine WC.seq ?_
  refine WC.region ?_
  refine WL.box 3 guard_none rfl rfl (fun b1 => ?_)
  refine WL.y0' guard_none (Y0.assign rfl) rfl ?_
  refine WL.nil ?_
  refine WE.then ?_
  refine WC.seq ?_
  refine WC.region ?_
  refine WL.litR (e := 48) (r := (Rp.vec .i64 8)) (vs := #[]) (cs := []) ([] : List (Fin 8 → Int)) guard_none rfl rfl rfl rfl (by decide) (fun _ => by kernel_rfl) (rfl) (key := 999) rfl (by rw [hL0]; rfl) (fun p1 Gv1 Gv1le p1h => ?_)
  refine WL.y0' guard_none (Y0.assign rfl) rfl ?_
  refine WL.nil ?_
  refine WE.then ?_
  refine WC.seq ?_
  refine WC.region ?_
  refine WL.y0' guard_none (Y0.assign rfl) rfl ?_
  refine WL.nil ?_
  refine WE.then ?_
  refine WC.seq ?_
  refine WC.seq ?_
  refine WC.region ?_
  refine WL.y0' guard_none (Y0.assign rfl) rfl ?_
  refine WL.nil ?_
  refine WE.then ?_
  refine WC.meetH (fun (gx : (List (Fin 8 → Int)) × Option Addr × Nat × Option Ow × Bool × Mem) => match gx with | ⟨out1, out1p, out1c, out1tk, done1, Gm1⟩ => [(3, .pointer (some ⟨b1, 0, none⟩)), (5, .slice out1p out1.length out1c), (6, .bool done1)]) (fun (gx : (List (Fin 8 → Int)) × Option Addr × Nat × Option Ow × Bool × Mem) => match gx with | ⟨out1, out1p, out1c, out1tk, done1, Gm1⟩ => Mem.le Gv1 Gm1 ∧ SlR (Rp.vec .i64 8) Gm1 (.slice out1p out1.length out1c) out1 ∧ Tok 8 48 (.slice out1p out1.length out1c) out1.length out1tk ∧ (R04_insert_k1 m1 out1 done1).Ret r) (fun (gx : (List (Fin 8 → Int)) × Option Addr × Nat × Option Ow × Bool × Mem) => match gx with | ⟨out1, out1p, out1c, out1tk, done1, Gm1⟩ => St w0 G0 Gm1 [(3, some ⟨b1, .cells (vecG (Value.int .i64) 8 m1).toArray 48 (0, 0), 0⟩), (1005, out1tk)]) ?_ ?_
  · refine WC.block ?_
    let Phi1 : (((List (Fin 8 → Int)) × Bool)) → Prop := fun oo => ((fun ov => match ov with | (out1, done1) => R04_insert_k1 m1 out1 done1 : (((List (Fin 8 → Int)) × Bool)) → Comp ((List (Fin 8 → Int)))) oo).wp (fun a => a = r)
    replace hr : (Comp.loop _ _).wp Phi1 := hr
    refine WC.loopR (Φ := Phi1) (fun (gx : (List (Fin 8 → Int)) × Option Addr × Nat × Option Ow × Bool × Int × Mem) => match gx with | ⟨out2, out2p, out2c, out2tk, done2, i1, Gm2⟩ => ((out2, done2, i1) : (List (Fin 8 → Int)) × Bool × Int)) (fun (gx : (List (Fin 8 → Int)) × Option Addr × Nat × Option Ow × Bool × Int × Mem) => match gx with | ⟨out2, out2p, out2c, out2tk, done2, i1, Gm2⟩ => [(0, .slice l1p l1.length l1c), (3, .pointer (some ⟨b1, 0, none⟩)), (5, .slice out2p out2.length out2c), (6, .bool done2), (7, .int .i64 i1)]) (fun (gx : (List (Fin 8 → Int)) × Option Addr × Nat × Option Ow × Bool × Int × Mem) => match gx with | ⟨out2, out2p, out2c, out2tk, done2, i1, Gm2⟩ => Mem.le Gv1 Gm2 ∧ SlR (Rp.vec .i64 8) Gm2 (.slice out2p out2.length out2c) out2 ∧ Tok 8 48 (.slice out2p out2.length out2c) out2.length out2tk) (fun (gx : (List (Fin 8 → Int)) × Option Addr × Nat × Option Ow × Bool × Int × Mem) => match gx with | ⟨out2, out2p, out2c, out2tk, done2, i1, Gm2⟩ => St w0 G0 Gm2 [(3, some ⟨b1, .cells (vecG (Value.int .i64) 8 m1).toArray 48 (0, 0), 0⟩), (1005, out2tk)]) ⟨[], p1, 0, none, false, 0, Gv1⟩ hr (Fr.sub_cons rfl (Fr.sub_cons rfl (Fr.sub_cons rfl (Fr.sub_cons rfl (Fr.sub_cons rfl (Fr.sub_nil _)))))) ⟨(Mem.le_refl _), p1h, Tok.full⟩ ?_ ?_
    · intro w hs
      exact hs.weaken (Lo.sub_cons rfl (Lo.sub_no (Lo.sub_nil _)))
    · intro Aq1 gx hx hr
      obtain ⟨out2, out2p, out2c, out2tk, done2, i1, Gm2⟩ := gx
      obtain ⟨Gm2le, out2h, out2ht⟩ := hx
      refine WC.seq ?_
      refine WC.seq ?_
      refine WC.region ?_
      refine WL.y0' guard_none (Y0.move rfl) rfl ?_
      refine WL.y0' guard_none (Y0.move rfl) rfl ?_
      refine WL.y0' guard_none (Y0.lenR Try.underlying28 (l1h.mono (Mem.le_trans Gv1le Gm2le)) rfl) rfl ?_
      refine WL.y0' guard_none (Y0.lss rfl rfl) rfl ?_
      refine WL.nil ?_
      refine WE.then ?_
      refine WC.condD (p := i1 < (l1.length : Int)) rfl (fun hc2 => ?_) (fun hc2 => ?_)
      · replace hr := hr.pos hc2
        refine WC.skip ?_
        refine WE.then ?_
        refine WC.seq ?_
        refine WC.block ?_
        refine WC.seq ?_
        refine WC.seq ?_
        refine WC.drawn [false, false, false, false, false, false, false, false, false, false, false] mix (by kernel_rfl) (fun hb => ?_)
        refine Chain.caseY0 (p := done2 = true) guard_none (fun _ hle => Y0.eq (Y0.move rfl) (congrArg Value.bool (bdec _))) (fun hb1 => ?_) (fun hb1 => ?_)
        · replace hr := hr.pos hb1
          refine Chain.y0 guard_none (fun _ hle => Y0.not rfl) ?_
          refine Chain.y0 guard_none (fun _ hle => Y0.move rfl) ?_
          refine Chain.skip (guard_noT rfl rfl) ?_
          refine Chain.skip (guard_noT rfl rfl) ?_
          refine Chain.skip (guard_noT rfl rfl) ?_
          refine Chain.skip (guard_noT rfl rfl) ?_
          refine Chain.skip (guard_noT rfl rfl) ?_
          refine Chain.skip (guard_noT rfl rfl) ?_
          refine Chain.skip (guard_noT rfl rfl) ?_
          refine Chain.y0 guard_none (fun _ hle => Y0.pickF rfl rfl) ?_
          refine Chain.tail0 hb ?_
          refine WL.nil ?_
          refine WE.nx ?_
          refine WE.then ?_
          refine WC.condF rfl ?_
          refine WC.skip ?_
          refine WE.then ?_
          refine WC.region ?_
          refine WL.y0' guard_none (Y0.move rfl) rfl ?_
          refine WL.y0' guard_none (Y0.move rfl) rfl ?_
          refine WL.y0' guard_none (Y0.move rfl) rfl ?_
          obtain ⟨x1, hx1, hr⟩ := hr
          refine WL.y0' guard_none (Y0.idxR Try.underlying28 sz48 (l1h.mono (Mem.le_trans Gv1le Gm2le)) rfl rfl hx1) rfl ?_
          refine WL.y0' guard_none (Y0.loadGA _ ag48 rfl (vecG_size _ _ _) (AtK.vec (At.mono (SlR.at l1h hx1) (Mem.le_trans Gv1le Gm2le)))) rfl ?_
          refine WL.litR (e := 48) (r := (Rp.vec .i64 8)) (vs := #[(0, .agg (vecG (Value.int .i64) 8 x1).toArray)]) (cs := (vecG (Value.int .i64) 8 x1) ++ ([])) ([x1] : List (Fin 8 → Int)) guard_none rfl rfl rfl rfl (by decide) (fun _ => by kernel_rfl) ⟨vecG (Value.int .i64) 8 x1, [], rfl, rfl, rfl⟩ (key := 999) rfl (by rw [hL0]; rfl) (fun p4 Gv4 Gv4le p4h => ?_)
          obtain ⟨hsm2, hr⟩ := hr
          refine WL.appendR (r := (Rp.vec .i64 8)) 1005 guard_none rfl Try.underlying28 el48 rfl (by decide) rfl rfl (out2h.mono Gv4le) rfl (by rw [hL0]; rfl) out2ht p4h hsm2 (fun p5 p5c p5tk Gv5 Gv5le p5h p5ht => ?_)
          refine WL.y0' guard_none (Y0.assign rfl) rfl ?_
          refine WL.nil ?_
          refine WE.inBlock ?_
          refine WE.then ?_
          refine WC.region ?_
          refine WL.y0' guard_none (Y0.move rfl) rfl ?_
          refine WL.y0' guard_none (Y0.add rfl rfl) rfl ?_
          refine WL.y0' guard_none (Y0.assign rfl) rfl ?_
          refine WL.nil ?_
          refine WE.backR ⟨(out2 ++ [x1]), p5, p5c, p5tk, done2, IntKind.i64.wrap (i1 + 1), Gv5⟩ hr ⟨(Mem.le_trans (Mem.le_trans Gm2le Gv4le) Gv5le), p5h, p5ht⟩ (Fr.sub_cons rfl (Fr.sub_cons rfl (Fr.sub_cons rfl (Fr.sub_cons rfl (Fr.sub_cons rfl (Fr.sub_nil _)))))) ?_
          · intro w hs
            exact hs.weaken (Lo.sub_cons rfl (Lo.sub_cons rfl (Lo.sub_nil _)))
        · replace hr := hr.neg hb1
          refine Chain.y0 guard_none (fun _ hle => Y0.not rfl) ?_
          refine Chain.y0 guard_none (fun _ hle => Y0.move rfl) ?_
          refine Chain.y0 (guard_yes rfl rfl) (fun _ hle => Y0.loadLA 3 ag48 rfl rfl (vecG_size _ _ _)) ?_
          refine Chain.y0 (guard_yes rfl rfl) (fun _ hle => Y0.move rfl) ?_
          refine Chain.y0 (guard_yes rfl rfl) (fun _ hle => Y0.move rfl) ?_
          obtain ⟨x2, hx2, hr⟩ := hr
          refine Chain.y0 (guard_yes rfl rfl) (fun _ hle => Y0.idxR Try.underlying28 sz48 ((l1h.mono (Mem.le_trans Gv1le Gm2le)).mono hle) rfl rfl hx2) ?_
          refine Chain.y0 (guard_yes rfl rfl) (fun _ hle => Y0.loadGA _ ag48 rfl (vecG_size _ _ _) (AtK.vec (At.mono (At.mono (SlR.at l1h hx2) (Mem.le_trans Gv1le Gm2le)) hle))) ?_
          obtain ⟨yv1, hyv1, hr⟩ := hr
          refine Chain.call0 (guard_yes rfl rfl) (fun _ => YC.of E35 rfl) (L_R04_Cmp _ _ _ hyv1) rfl (fun G' hle => trivial) ?_
          refine Chain.y0 (guard_yes rfl rfl) (fun _ hle => Y0.geq rfl rfl) ?_
          refine Chain.y0 guard_none (fun _ hle => Y0.pickT rfl rfl) ?_
          refine Chain.tail0 hb ?_
          refine WL.nil ?_
          refine WE.nx ?_
          refine WE.then ?_
          refine WC.condD (p := 0 ≤ yv1) rfl (fun hc3 => ?_) (fun hc3 => ?_)
          · replace hr := hr.pos hc3
            refine WC.seq ?_
            refine WC.region ?_
            refine WL.y0' guard_none (Y0.assign rfl) rfl ?_
            refine WL.nil ?_
            refine WE.then ?_
            refine WC.seq ?_
            refine WC.drawn [false, false, false, false, false, false] mix (by kernel_rfl) (fun hb => ?_)
            refine Chain.y0 guard_none (fun _ hle => Y0.move rfl) ?_
            refine Chain.y0 guard_none (fun _ hle => Y0.move rfl) ?_
            obtain ⟨x3, hx3, hr⟩ := hr
            refine Chain.y0 guard_none (fun _ hle => Y0.idxR Try.underlying28 sz48 ((l1h.mono (Mem.le_trans Gv1le Gm2le)).mono hle) rfl rfl hx3) ?_
            refine Chain.y0 guard_none (fun _ hle => Y0.loadGA _ ag48 rfl (vecG_size _ _ _) (AtK.vec (At.mono (At.mono (SlR.at l1h hx3) (Mem.le_trans Gv1le Gm2le)) hle))) ?_
            refine Chain.y0 guard_none (fun _ hle => Y0.loadLA 3 ag48 rfl rfl (vecG_size _ _ _)) ?_
            refine Chain.y0 guard_none (fun _ hle => Y0.neqV Try.underlying48 Try.underlying3 sc3 sz3 eg48 rfl rfl) ?_
            refine Chain.tail0 hb ?_
            refine WL.nil ?_
            refine WE.nx ?_
            refine WE.then ?_
            refine WC.condD (p := ¬ x3 = m1) rfl (fun hc4 => ?_) (fun hc4 => ?_)
            · replace hr := hr.pos hc4
              refine WC.region ?_
              refine WL.y0' guard_none (Y0.move rfl) rfl ?_
              refine WL.y0' guard_none (Y0.loadLA 3 ag48 rfl rfl (vecG_size _ _ _)) rfl ?_
              refine WL.litR (e := 48) (r := (Rp.vec .i64 8)) (vs := #[(0, .agg (vecG (Value.int .i64) 8 m1).toArray)]) (cs := (vecG (Value.int .i64) 8 m1) ++ ([])) ([m1] : List (Fin 8 → Int)) guard_none rfl rfl rfl rfl (by decide) (fun _ => by kernel_rfl) ⟨vecG (Value.int .i64) 8 m1, [], rfl, rfl, rfl⟩ (key := 999) rfl (by rw [hL0]; rfl) (fun p6 Gv6 Gv6le p6h => ?_)
              obtain ⟨hsm3, hr⟩ := hr
              refine WL.appendR (r := (Rp.vec .i64 8)) 1005 guard_none rfl Try.underlying28 el48 rfl (by decide) rfl rfl (out2h.mono Gv6le) rfl (by rw [hL0]; rfl) out2ht p6h hsm3 (fun p7 p7c p7tk Gv7 Gv7le p7h p7ht => ?_)
              refine WL.y0' guard_none (Y0.assign rfl) rfl ?_
              refine WL.nil ?_
              refine WE.then ?_
              refine WC.region ?_
              refine WL.y0' guard_none (Y0.move rfl) rfl ?_
              refine WL.y0' guard_none (Y0.move rfl) rfl ?_
              refine WL.y0' guard_none (Y0.move rfl) rfl ?_
              obtain ⟨x4, hx4, hr⟩ := hr
              refine WL.y0' guard_none (Y0.idxR Try.underlying28 sz48 (l1h.mono (Mem.le_trans (Mem.le_trans (Mem.le_trans Gv1le Gm2le) Gv6le) Gv7le)) rfl rfl hx4) rfl ?_
              refine WL.y0' guard_none (Y0.loadGA _ ag48 rfl (vecG_size _ _ _) (AtK.vec (At.mono (SlR.at l1h hx4) (Mem.le_trans (Mem.le_trans (Mem.le_trans Gv1le Gm2le) Gv6le) Gv7le)))) rfl ?_
              refine WL.litR (e := 48) (r := (Rp.vec .i64 8)) (vs := #[(0, .agg (vecG (Value.int .i64) 8 x4).toArray)]) (cs := (vecG (Value.int .i64) 8 x4) ++ ([])) ([x4] : List (Fin 8 → Int)) guard_none rfl rfl rfl rfl (by decide) (fun _ => by kernel_rfl) ⟨vecG (Value.int .i64) 8 x4, [], rfl, rfl, rfl⟩ (key := 999) rfl (by rw [hL0]; rfl) (fun p8 Gv8 Gv8le p8h => ?_)
              obtain ⟨hsm4, hr⟩ := hr
              refine WL.appendR (r := (Rp.vec .i64 8)) 1005 guard_none rfl Try.underlying28 el48 rfl (by decide) rfl rfl (p7h.mono Gv8le) rfl (by rw [hL0]; rfl) p7ht p8h hsm4 (fun p9 p9c p9tk Gv9 Gv9le p9h p9ht => ?_)
              refine WL.y0' guard_none (Y0.assign rfl) rfl ?_
              refine WL.nil ?_
              refine WE.inBlock ?_
              refine WE.then ?_
              refine WC.region ?_
              refine WL.y0' guard_none (Y0.move rfl) rfl ?_
              refine WL.y0' guard_none (Y0.add rfl rfl) rfl ?_
              refine WL.y0' guard_none (Y0.assign rfl) rfl ?_
              refine WL.nil ?_
              refine WE.backR ⟨((out2 ++ [m1]) ++ [x4]), p9, p9c, p9tk, true, IntKind.i64.wrap (i1 + 1), Gv9⟩ hr ⟨(Mem.le_trans (Mem.le_trans (Mem.le_trans (Mem.le_trans Gm2le Gv6le) Gv7le) Gv8le) Gv9le), p9h, p9ht⟩ (Fr.sub_cons rfl (Fr.sub_cons rfl (Fr.sub_cons rfl (Fr.sub_cons rfl (Fr.sub_cons rfl (Fr.sub_nil _)))))) ?_
              · intro w hs
                exact hs.weaken (Lo.sub_cons rfl (Lo.sub_cons rfl (Lo.sub_nil _)))
            · replace hr := hr.neg hc4
              refine WC.skip ?_
              refine WE.then ?_
              refine WC.region ?_
              refine WL.y0' guard_none (Y0.move rfl) rfl ?_
              refine WL.y0' guard_none (Y0.move rfl) rfl ?_
              refine WL.y0' guard_none (Y0.move rfl) rfl ?_
              obtain ⟨x5, hx5, hr⟩ := hr
              refine WL.y0' guard_none (Y0.idxR Try.underlying28 sz48 (l1h.mono (Mem.le_trans Gv1le Gm2le)) rfl rfl hx5) rfl ?_
              refine WL.y0' guard_none (Y0.loadGA _ ag48 rfl (vecG_size _ _ _) (AtK.vec (At.mono (SlR.at l1h hx5) (Mem.le_trans Gv1le Gm2le)))) rfl ?_
              refine WL.litR (e := 48) (r := (Rp.vec .i64 8)) (vs := #[(0, .agg (vecG (Value.int .i64) 8 x5).toArray)]) (cs := (vecG (Value.int .i64) 8 x5) ++ ([])) ([x5] : List (Fin 8 → Int)) guard_none rfl rfl rfl rfl (by decide) (fun _ => by kernel_rfl) ⟨vecG (Value.int .i64) 8 x5, [], rfl, rfl, rfl⟩ (key := 999) rfl (by rw [hL0]; rfl) (fun p10 Gv10 Gv10le p10h => ?_)
              obtain ⟨hsm5, hr⟩ := hr
              refine WL.appendR (r := (Rp.vec .i64 8)) 1005 guard_none rfl Try.underlying28 el48 rfl (by decide) rfl rfl (out2h.mono Gv10le) rfl (by rw [hL0]; rfl) out2ht p10h hsm5 (fun p11 p11c p11tk Gv11 Gv11le p11h p11ht => ?_)
              refine WL.y0' guard_none (Y0.assign rfl) rfl ?_
              refine WL.nil ?_
              refine WE.inBlock ?_
              refine WE.then ?_
              refine WC.region ?_
              refine WL.y0' guard_none (Y0.move rfl) rfl ?_
              refine WL.y0' guard_none (Y0.add rfl rfl) rfl ?_
              refine WL.y0' guard_none (Y0.assign rfl) rfl ?_
              refine WL.nil ?_
              refine WE.backR ⟨(out2 ++ [x5]), p11, p11c, p11tk, true, IntKind.i64.wrap (i1 + 1), Gv11⟩ hr ⟨(Mem.le_trans (Mem.le_trans Gm2le Gv10le) Gv11le), p11h, p11ht⟩ (Fr.sub_cons rfl (Fr.sub_cons rfl (Fr.sub_cons rfl (Fr.sub_cons rfl (Fr.sub_cons rfl (Fr.sub_nil _)))))) ?_
              · intro w hs
                exact hs.weaken (Lo.sub_cons rfl (Lo.sub_cons rfl (Lo.sub_nil _)))
          · replace hr := hr.neg hc3
            refine WC.skip ?_
            refine WE.then ?_
            refine WC.region ?_
            refine WL.y0' guard_none (Y0.move rfl) rfl ?_
            refine WL.y0' guard_none (Y0.move rfl) rfl ?_
            refine WL.y0' guard_none (Y0.move rfl) rfl ?_
            obtain ⟨x6, hx6, hr⟩ := hr
            refine WL.y0' guard_none (Y0.idxR Try.underlying28 sz48 (l1h.mono (Mem.le_trans Gv1le Gm2le)) rfl rfl hx6) rfl ?_
            refine WL.y0' guard_none (Y0.loadGA _ ag48 rfl (vecG_size _ _ _) (AtK.vec (At.mono (SlR.at l1h hx6) (Mem.le_trans Gv1le Gm2le)))) rfl ?_
            refine WL.litR (e := 48) (r := (Rp.vec .i64 8)) (vs := #[(0, .agg (vecG (Value.int .i64) 8 x6).toArray)]) (cs := (vecG (Value.int .i64) 8 x6) ++ ([])) ([x6] : List (Fin 8 → Int)) guard_none rfl rfl rfl rfl (by decide) (fun _ => by kernel_rfl) ⟨vecG (Value.int .i64) 8 x6, [], rfl, rfl, rfl⟩ (key := 999) rfl (by rw [hL0]; rfl) (fun p12 Gv12 Gv12le p12h => ?_)
            obtain ⟨hsm6, hr⟩ := hr
            refine WL.appendR (r := (Rp.vec .i64 8)) 1005 guard_none rfl Try.underlying28 el48 rfl (by decide) rfl rfl (out2h.mono Gv12le) rfl (by rw [hL0]; rfl) out2ht p12h hsm6 (fun p13 p13c p13tk Gv13 Gv13le p13h p13ht => ?_)
            refine WL.y0' guard_none (Y0.assign rfl) rfl ?_
            refine WL.nil ?_
            refine WE.inBlock ?_
            refine WE.then ?_
            refine WC.region ?_
            refine WL.y0' guard_none (Y0.move rfl) rfl ?_
            refine WL.y0' guard_none (Y0.add rfl rfl) rfl ?_
            refine WL.y0' guard_none (Y0.assign rfl) rfl ?_
            refine WL.nil ?_
            refine WE.backR ⟨(out2 ++ [x6]), p13, p13c, p13tk, done2, IntKind.i64.wrap (i1 + 1), Gv13⟩ hr ⟨(Mem.le_trans (Mem.le_trans Gm2le Gv12le) Gv13le), p13h, p13ht⟩ (Fr.sub_cons rfl (Fr.sub_cons rfl (Fr.sub_cons rfl (Fr.sub_cons rfl (Fr.sub_cons rfl (Fr.sub_nil _)))))) ?_
            · intro w hs
              exact hs.weaken (Lo.sub_cons rfl (Lo.sub_cons rfl (Lo.sub_nil _)))
      · replace hr := hr.neg hc2
        refine WC.exit ?_
        refine WE.thenExit ?_
        refine WE.thenExit ?_
        refine WE.exitHere ?_
        refine WE.endH ⟨out2, out2p, out2c, out2tk, done2, Gm2⟩ ⟨Gm2le, out2h, out2ht, hr⟩ (Fr.sub_cons rfl (Fr.sub_cons rfl (Fr.sub_cons rfl (Fr.sub_nil _)))) ?_
        · intro w hs
          exact hs.weaken (Lo.sub_cons rfl (Lo.sub_cons rfl (Lo.sub_nil _)))
  · rintro ⟨out1, out1p, out1c, out1tk, done1, Gm1⟩ ⟨Gm1le, out1h, out1ht, hr⟩
    refine WE.then ?_
    refine WC.seq ?_
    refine WC.seq ?_
    refine WC.region ?_
    refine WL.y0' guard_none (Y0.move rfl) rfl ?_
    refine WL.y0' guard_none (Y0.not rfl) rfl ?_
    refine WL.nil ?_
    refine WE.then ?_
    refine WC.cond (b := !done1) rfl (fun hc1 => ?_) (fun hc1 => ?_)
    · replace hr := hr.pos hc1
      refine WC.region ?_
      refine WL.y0' guard_none (Y0.move rfl) rfl ?_
      refine WL.y0' guard_none (Y0.loadLA 3 ag48 rfl rfl (vecG_size _ _ _)) rfl ?_
      refine WL.litR (e := 48) (r := (Rp.vec .i64 8)) (vs := #[(0, .agg (vecG (Value.int .i64) 8 m1).toArray)]) (cs := (vecG (Value.int .i64) 8 m1) ++ ([])) ([m1] : List (Fin 8 → Int)) guard_none rfl rfl rfl rfl (by decide) (fun _ => by kernel_rfl) ⟨vecG (Value.int .i64) 8 m1, [], rfl, rfl, rfl⟩ (key := 999) rfl (by rw [hL0]; rfl) (fun p2 Gv2 Gv2le p2h => ?_)
      obtain ⟨hsm1, hr⟩ := hr
      refine WL.appendR (r := (Rp.vec .i64 8)) 1005 guard_none rfl Try.underlying28 el48 rfl (by decide) rfl rfl (out1h.mono Gv2le) rfl (by rw [hL0]; rfl) out1ht p2h hsm1 (fun p3 p3c p3tk Gv3 Gv3le p3h p3ht => ?_)
      refine WL.y0' guard_none (Y0.assign rfl) rfl ?_
      refine WL.nil ?_
      refine WE.then ?_
      refine WC.seq ?_
      refine WC.region ?_
      refine WL.y0' guard_none (Y0.move rfl) rfl ?_
      refine WL.y0' guard_none (Y0.assign rfl) rfl ?_
      refine WL.nil ?_
      refine WE.then ?_
      refine WC.ret ?_
      replace hr : _ = r := hr
      subst hr
      exact WE.ret1 rfl rfl ⟨_, _, rfl, p3h⟩
    · replace hr := hr.neg (Bool.eq_false_iff.1 hc1)
      refine WC.skip ?_
      refine WE.then ?_
      refine WC.seq ?_
      refine WC.region ?_
      refine WL.y0' guard_none (Y0.move rfl) rfl ?_
      refine WL.y0' guard_none (Y0.assign rfl) rfl ?_
      refine WL.nil ?_
      refine WE.then ?_
      refine WC.ret ?_
      replace hr : _ = r := hr
      subst hr
      exact WE.ret1 rfl rfl ⟨_, _, rfl, out1h⟩
theorem L_R04_Minimal (l1 : (List (Fin 8 → Int))) (l1p : Option Addr) (l1c : Nat) (r : (List (Fin 8 → Int))) (hr : (R04_Minimal l1).Ret r) : Ctr Try.prog 30 #[.slice l1p l1.length l1c] (fun G => SlR (Rp.vec .i64 8) G (.slice l1p l1.length l1c) l1) (fun G v => ∃ zp zc, v = .slice zp r.length zc ∧ SlR (Rp.vec .i64 8) G (.slice zp r.length zc) r) := by
  refine Ctr.enter (args := [_]) (N := 25) Try.func30 rfl rfl rfl (fun w0 G0 hL0 hpre => ?_)
  have l1h := hpre
  refine WC.seq ?_
  refine WC.region ?_
  refine WL.y0' guard_none (Y0.assign rfl) rfl ?_
  refine WL.nil ?_
  refine WE.then ?_
  refine WC.seq ?_
  refine WC.region ?_
  refine WL.litR (e := 48) (r := (Rp.vec .i64 8)) (vs := #[]) (cs := []) ([] : List (Fin 8 → Int)) guard_none rfl rfl rfl rfl (by decide) (fun _ => by kernel_rfl) (rfl) (key := 999) rfl (by rw [hL0]; rfl) (fun p1 Gv1 Gv1le p1h => ?_)
  refine WL.y0' guard_none (Y0.assign rfl) rfl ?_
  refine WL.nil ?_
  refine WE.then ?_
  refine WC.seq ?_
  refine WC.seq ?_
  refine WC.region ?_
  refine WL.y0' guard_none (Y0.assign rfl) rfl ?_
  refine WL.nil ?_
  refine WE.then ?_
  refine WC.meetH (fun (gx : (List (Fin 8 → Int)) × Option Addr × Nat × Mem) => match gx with | ⟨out1, out1p, out1c, Gm1⟩ => [(3, .slice out1p out1.length out1c)]) (fun (gx : (List (Fin 8 → Int)) × Option Addr × Nat × Mem) => match gx with | ⟨out1, out1p, out1c, Gm1⟩ => Mem.le Gv1 Gm1 ∧ SlR (Rp.vec .i64 8) Gm1 (.slice out1p out1.length out1c) out1 ∧ (R04_Minimal_k1 out1).Ret r) (fun (gx : (List (Fin 8 → Int)) × Option Addr × Nat × Mem) => match gx with | ⟨out1, out1p, out1c, Gm1⟩ => St w0 G0 Gm1 []) ?_ ?_
  · refine WC.block ?_
    let Phi1 : (((List (Fin 8 → Int)))) → Prop := fun oo => ((fun ov => match ov with | out1 => R04_Minimal_k1 out1 : (((List (Fin 8 → Int)))) → Comp ((List (Fin 8 → Int)))) oo).wp (fun a => a = r)
    replace hr : (Comp.loop _ _).wp Phi1 := hr
    refine WC.loopR (Φ := Phi1) (fun (gx : (List (Fin 8 → Int)) × Option Addr × Nat × Int × Mem) => match gx with | ⟨out2, out2p, out2c, i1, Gm2⟩ => ((out2, i1) : (List (Fin 8 → Int)) × Int)) (fun (gx : (List (Fin 8 → Int)) × Option Addr × Nat × Int × Mem) => match gx with | ⟨out2, out2p, out2c, i1, Gm2⟩ => [(0, .slice l1p l1.length l1c), (3, .slice out2p out2.length out2c), (4, .int .i64 i1)]) (fun (gx : (List (Fin 8 → Int)) × Option Addr × Nat × Int × Mem) => match gx with | ⟨out2, out2p, out2c, i1, Gm2⟩ => Mem.le Gv1 Gm2 ∧ SlR (Rp.vec .i64 8) Gm2 (.slice out2p out2.length out2c) out2) (fun (gx : (List (Fin 8 → Int)) × Option Addr × Nat × Int × Mem) => match gx with | ⟨out2, out2p, out2c, i1, Gm2⟩ => St w0 G0 Gm2 []) ⟨[], p1, 0, 0, Gv1⟩ hr (Fr.sub_cons rfl (Fr.sub_cons rfl (Fr.sub_cons rfl (Fr.sub_nil _)))) ⟨(Mem.le_refl _), p1h⟩ ?_ ?_
    · intro w hs
      exact hs.weaken (Lo.sub_nil _)
    · intro Aq1 gx hx hr
      obtain ⟨out2, out2p, out2c, i1, Gm2⟩ := gx
      obtain ⟨Gm2le, out2h⟩ := hx
      refine WC.seq ?_
      refine WC.seq ?_
      refine WC.region ?_
      refine WL.y0' guard_none (Y0.move rfl) rfl ?_
      refine WL.y0' guard_none (Y0.move rfl) rfl ?_
      refine WL.y0' guard_none (Y0.lenR Try.underlying28 (l1h.mono (Mem.le_trans Gv1le Gm2le)) rfl) rfl ?_
      refine WL.y0' guard_none (Y0.lss rfl rfl) rfl ?_
      refine WL.nil ?_
      refine WE.then ?_
      refine WC.condD (p := i1 < (l1.length : Int)) rfl (fun hc1 => ?_) (fun hc1 => ?_)
      · replace hr := hr.pos hc1
        refine WC.skip ?_
        refine WE.then ?_
        refine WC.seq ?_
        refine WC.block ?_
        refine WC.seq ?_
        refine WC.region ?_
        refine WL.y0' guard_none (Y0.move rfl) rfl ?_
        refine WL.y0' guard_none (Y0.move rfl) rfl ?_
        obtain ⟨x1, hx1, hr⟩ := hr
        refine WL.y0' guard_none (Y0.idxR Try.underlying28 sz48 (l1h.mono (Mem.le_trans Gv1le Gm2le)) rfl rfl hx1) rfl ?_
        refine WL.y0' guard_none (Y0.loadGA _ ag48 rfl (vecG_size _ _ _) (AtK.vec (At.mono (SlR.at l1h hx1) (Mem.le_trans Gv1le Gm2le)))) rfl ?_
        refine WL.y0' guard_none (Y0.move rfl) rfl ?_
        obtain ⟨yv1, hyv1, hr⟩ := hr
        refine WL.call0 guard_none rfl (YC.of E56 rfl) (L_R04_lowest _ _ _ _ _ hyv1) rfl ((l1h.mono (Mem.le_trans Gv1le Gm2le))) ?_
        refine WL.nil ?_
        refine WE.then ?_
        refine WC.cond (b := yv1) rfl (fun hc2 => ?_) (fun hc2 => ?_)
        · replace hr := hr.pos hc2
          refine WC.region ?_
          refine WL.y0' guard_none (Y0.move rfl) rfl ?_
          refine WL.y0' guard_none (Y0.move rfl) rfl ?_
          refine WL.y0' guard_none (Y0.move rfl) rfl ?_
          obtain ⟨x2, hx2, hr⟩ := hr
          refine WL.y0' guard_none (Y0.idxR Try.underlying28 sz48 (l1h.mono (Mem.le_trans Gv1le Gm2le)) rfl rfl hx2) rfl ?_
          refine WL.y0' guard_none (Y0.loadGA _ ag48 rfl (vecG_size _ _ _) (AtK.vec (At.mono (SlR.at l1h hx2) (Mem.le_trans Gv1le Gm2le)))) rfl ?_
          obtain ⟨yv2, hyv2, hr⟩ := hr
          refine WL.call guard_none rfl (YC.of E57 rfl) (L_R04_insert _ _ _ _ _ hyv2) rfl (out2h) (fun yv2v Gv3 Gv3le yv2post => ?_)
          obtain ⟨yv2p, yv2c, rfl, yv2h⟩ := yv2post
          refine WL.y0' guard_none (Y0.assign rfl) rfl ?_
          refine WL.nil ?_
          refine WE.inBlock ?_
          refine WE.then ?_
          refine WC.region ?_
          refine WL.y0' guard_none (Y0.move rfl) rfl ?_
          refine WL.y0' guard_none (Y0.add rfl rfl) rfl ?_
          refine WL.y0' guard_none (Y0.assign rfl) rfl ?_
          refine WL.nil ?_
          refine WE.backR ⟨yv2, yv2p, yv2c, IntKind.i64.wrap (i1 + 1), Gv3⟩ hr ⟨(Mem.le_trans Gm2le Gv3le), yv2h⟩ (Fr.sub_cons rfl (Fr.sub_cons rfl (Fr.sub_cons rfl (Fr.sub_nil _)))) ?_
          · intro w hs
            exact hs.weaken (Lo.sub_nil _)
        · replace hr := hr.neg (Bool.eq_false_iff.1 hc2)
          refine WC.skip ?_
          refine WE.inBlock ?_
          refine WE.then ?_
          refine WC.region ?_
          refine WL.y0' guard_none (Y0.move rfl) rfl ?_
          refine WL.y0' guard_none (Y0.add rfl rfl) rfl ?_
          refine WL.y0' guard_none (Y0.assign rfl) rfl ?_
          refine WL.nil ?_
          refine WE.backR ⟨out2, out2p, out2c, IntKind.i64.wrap (i1 + 1), Gm2⟩ hr ⟨Gm2le, out2h⟩ (Fr.sub_cons rfl (Fr.sub_cons rfl (Fr.sub_cons rfl (Fr.sub_nil _)))) ?_
          · intro w hs
            exact hs.weaken (Lo.sub_nil _)
      · replace hr := hr.neg hc1
        refine WC.exit ?_
        refine WE.thenExit ?_
        refine WE.thenExit ?_
        refine WE.exitHere ?_
        refine WE.endH ⟨out2, out2p, out2c, Gm2⟩ ⟨Gm2le, out2h, hr⟩ (Fr.sub_cons rfl (Fr.sub_nil _)) ?_
        · intro w hs
          exact hs.weaken (Lo.sub_nil _)
  · rintro ⟨out1, out1p, out1c, Gm1⟩ ⟨Gm1le, out1h, hr⟩
    refine WE.then ?_
    refine WC.seq ?_
    refine WC.region ?_
    refine WL.y0' guard_none (Y0.move rfl) rfl ?_
    refine WL.y0' guard_none (Y0.assign rfl) rfl ?_
    refine WL.nil ?_
    refine WE.then ?_
    refine WC.ret ?_
    replace hr : _ = r := hr
    subst hr
    exact WE.ret1 rfl rfl ⟨_, _, rfl, out1h⟩
theorem L_R04_Lcm (a1 : (Fin 8 → Int)) (b1 : (Fin 8 → Int)) (r : (Fin 8 → Int)) (hr : (R04_Lcm a1 b1).Ret r) : Ctr Try.prog 54 #[.agg (vecG (Value.int .i64) 8 a1).toArray, .agg (vecG (Value.int .i64) 8 b1).toArray] (fun G => True) (fun G v => v = .agg (vecG (Value.int .i64) 8 r).toArray) := by
  refine Ctr.enter (args := [_, _]) (N := 20) Try.func54 rfl rfl rfl (fun w0 G0 hL0 hpre => ?_)
  refine WC.seq ?_
  refine WC.region ?_
  refine WL.box 2 guard_none rfl rfl (fun b2 => ?_)
  refine WL.box 3 guard_none rfl rfl (fun b3 => ?_)
  refine WL.alloc 4 guard_none z48 rfl (fun b4 => ?_)
  refine WL.nil ?_
  refine WE.then ?_
  refine WC.seq ?_
  refine WC.seq ?_
  refine WC.region ?_
  refine WL.y0' guard_none (Y0.assign rfl) rfl ?_
  refine WL.nil ?_
  refine WE.then ?_
  refine WC.meetH (fun (gx : (Fin 8 → Int) × Mem) => match gx with | ⟨bx1, Gm1⟩ => [(2, .pointer (some ⟨b2, 0, none⟩)), (4, .pointer (some ⟨b4, 0, none⟩))]) (fun (gx : (Fin 8 → Int) × Mem) => match gx with | ⟨bx1, Gm1⟩ => Mem.le G0 Gm1 ∧ (R04_Lcm_k1 bx1).Ret r) (fun (gx : (Fin 8 → Int) × Mem) => match gx with | ⟨bx1, Gm1⟩ => St w0 G0 Gm1 [(2, some ⟨b2, .cells (vecG (Value.int .i64) 8 bx1).toArray 48 (0, 0), 0⟩), (4, some ⟨b4, .cells (vecG (Value.int .i64) 8 (fun _ => 0)).toArray 48 (0, 0), 0⟩)]) ?_ ?_
  · refine WC.block ?_
    let Phi1 : (Fin 8 → Int) → Prop := fun oo => ((fun ov => match ov with | bx1 => R04_Lcm_k1 bx1 : (Fin 8 → Int) → Comp (Fin 8 → Int)) oo).wp (fun a => a = r)
    replace hr : (Comp.loop _ _).wp Phi1 := hr
    refine WC.loopR (Φ := Phi1) (fun (gx : Int × (Fin 8 → Int) × Mem) => match gx with | ⟨i1, bx2, Gm2⟩ => ((i1, bx2) : Int × (Fin 8 → Int))) (fun (gx : Int × (Fin 8 → Int) × Mem) => match gx with | ⟨i1, bx2, Gm2⟩ => [(2, .pointer (some ⟨b2, 0, none⟩)), (3, .pointer (some ⟨b3, 0, none⟩)), (4, .pointer (some ⟨b4, 0, none⟩)), (5, .int .i64 i1)]) (fun (gx : Int × (Fin 8 → Int) × Mem) => match gx with | ⟨i1, bx2, Gm2⟩ => Mem.le G0 Gm2) (fun (gx : Int × (Fin 8 → Int) × Mem) => match gx with | ⟨i1, bx2, Gm2⟩ => St w0 G0 Gm2 [(2, some ⟨b2, .cells (vecG (Value.int .i64) 8 bx2).toArray 48 (0, 0), 0⟩), (3, some ⟨b3, .cells (vecG (Value.int .i64) 8 b1).toArray 48 (0, 0), 0⟩), (4, some ⟨b4, .cells (vecG (Value.int .i64) 8 (fun _ => 0)).toArray 48 (0, 0), 0⟩)]) ⟨0, a1, G0⟩ hr (Fr.sub_cons rfl (Fr.sub_cons rfl (Fr.sub_cons rfl (Fr.sub_cons rfl (Fr.sub_nil _))))) (Mem.le_refl _) ?_ ?_
    · intro w hs
      exact hs.weaken (Lo.sub_cons rfl (Lo.sub_cons rfl (Lo.sub_cons rfl (Lo.sub_nil _))))
    · intro Aq1 gx hx hr
      obtain ⟨i1, bx2, Gm2⟩ := gx
      have Gm2le := hx
      refine WC.seq ?_
      refine WC.seq ?_
      refine WC.region ?_
      refine WL.y0' guard_none (Y0.move rfl) rfl ?_
      refine WL.y0' guard_none (Y0.lss rfl rfl) rfl ?_
      refine WL.nil ?_
      refine WE.then ?_
      refine WC.condD (p := i1 < 8) rfl (fun hc1 => ?_) (fun hc1 => ?_)
      · replace hr := hr.pos hc1
        refine WC.skip ?_
        refine WE.then ?_
        refine WC.seq ?_
        refine WC.block ?_
        refine WC.drawn [false, false, false, false, false, false, false, false, false] mix (by kernel_rfl) (fun hb => ?_)
        refine Chain.y0 guard_none (fun _ hle => Y0.move rfl) ?_
        refine Chain.y0 guard_none (fun _ hle => Y0.move rfl) ?_
        obtain ⟨hi1, hr⟩ := hr
        refine Chain.y0 guard_none (fun _ hle => Y0.idxA0 Try.underlying48 sz3 rfl rfl hi1) ?_
        refine Chain.y0 guard_none (fun _ hle => Y0.loadL 2 sc3 rfl rfl (vecG_at _ _ _ hi1)) ?_
        refine Chain.y0 guard_none (fun _ hle => Y0.move rfl) ?_
        obtain ⟨hi2, hr⟩ := hr
        refine Chain.y0 guard_none (fun _ hle => Y0.idxA0 Try.underlying48 sz3 rfl rfl hi2) ?_
        refine Chain.y0 guard_none (fun _ hle => Y0.loadL 3 sc3 rfl rfl (vecG_at _ _ _ hi2)) ?_
        refine Chain.y0 guard_none (fun _ hle => Y0.max2 rfl rfl) ?_
        obtain ⟨hi3, hr⟩ := hr
        refine Chain.y0 guard_none (fun _ hle => Y0.idxA0 Try.underlying48 sz3 rfl rfl hi3) ?_
        refine Chain.tail0 hb ?_
        refine WL.storeL 2 (vecG (Value.int .i64) 8 (setF bx2 i1.toNat (if (getF bx2 i1) < (getF b1 i1) then (getF b1 i1) else (getF bx2 i1)))).toArray guard_none sz3 rfl rfl rfl (by first | (rw [vecG_size]; omega) | (show _ < (vecG _ _ _).toArray.size; rw [vecG_size]; omega)) rfl (vecG_put _ _ _ _ _) ?_
        refine WL.nil ?_
        refine WE.nx ?_
        refine WE.inBlock ?_
        refine WE.then ?_
        refine WC.region ?_
        refine WL.y0' guard_none (Y0.move rfl) rfl ?_
        refine WL.y0' guard_none (Y0.add rfl rfl) rfl ?_
        refine WL.y0' guard_none (Y0.assign rfl) rfl ?_
        refine WL.nil ?_
        refine WE.backR ⟨IntKind.i64.wrap (i1 + 1), setF bx2 i1.toNat (if (getF bx2 i1) < (getF b1 i1) then (getF b1 i1) else (getF bx2 i1)), Gm2⟩ hr Gm2le (Fr.sub_cons rfl (Fr.sub_cons rfl (Fr.sub_cons rfl (Fr.sub_cons rfl (Fr.sub_nil _))))) ?_
        · intro w hs
          exact hs.weaken (Lo.sub_cons rfl (Lo.sub_cons rfl (Lo.sub_cons rfl (Lo.sub_nil _))))
      · replace hr := hr.neg hc1
        refine WC.exit ?_
        refine WE.thenExit ?_
        refine WE.thenExit ?_
        refine WE.exitHere ?_
        refine WE.endH ⟨bx2, Gm2⟩ ⟨Gm2le, hr⟩ (Fr.sub_cons rfl (Fr.sub_cons rfl (Fr.sub_nil _))) ?_
        · intro w hs
          exact hs.weaken (Lo.sub_cons rfl (Lo.sub_cons rfl (Lo.sub_nil _)))
  · rintro ⟨bx1, Gm1⟩ ⟨Gm1le, hr⟩
    refine WE.then ?_
    refine WC.seq ?_
    refine WC.region ?_
    refine WL.y0' guard_none (Y0.loadLA 2 ag48 rfl rfl (vecG_size _ _ _)) rfl ?_
    refine WL.storeLA 4 guard_none sz48 rfl rfl rfl (vecG_size _ _ _) (vecG_size _ _ _) (fun u hu => Rp.one (Rp.vec .i64 8) (G := Gm1) (x := bx1) (cs := vecG (Value.int .i64) 8 bx1) rfl u (by simpa using hu)) ?_
    refine WL.nil ?_
    refine WE.then ?_
    refine WC.ret ?_
    replace hr : _ = r := hr
    subst hr
    exact WE.ret1 rfl (RV.cellA (i := 4) ag48 rfl rfl (vecG_size _ _ _)) rfl
theorem L_R21_Meet (l1 : (List (Fin 8 → Int))) (m1 : (List (Fin 8 → Int))) (l1p : Option Addr) (l1c : Nat) (m1p : Option Addr) (m1c : Nat) (r : (List (Fin 8 → Int))) (hr : (R21_Meet l1 m1).Ret r) : Ctr Try.prog 26 #[.slice l1p l1.length l1c, .slice m1p m1.length m1c] (fun G => SlR (Rp.vec .i64 8) G (.slice l1p l1.length l1c) l1 ∧ SlR (Rp.vec .i64 8) G (.slice m1p m1.length m1c) m1) (fun G v => ∃ zp zc, v = .slice zp r.length zc ∧ SlR (Rp.vec .i64 8) G (.slice zp r.length zc) r) := by
  refine Ctr.enter (args := [_, _]) (N := 35) Try.func26 rfl rfl rfl (fun w0 G0 hL0 hpre => ?_)
  obtain ⟨l1h, m1h⟩ := hpre
  refine WC.seq ?_
  refine WC.region ?_
  refine WL.y0' guard_none (Y0.assign rfl) rfl ?_
  refine WL.nil ?_
  refine WE.then ?_
  refine WC.seq ?_
  refine WC.region ?_
  refine WL.litR (e := 48) (r := (Rp.vec .i64 8)) (vs := #[]) (cs := []) ([] : List (Fin 8 → Int)) guard_none rfl rfl rfl rfl (by decide) (fun _ => by kernel_rfl) (rfl) (key := 999) rfl (by rw [hL0]; rfl) (fun p1 Gv1 Gv1le p1h => ?_)
  refine WL.y0' guard_none (Y0.assign rfl) rfl ?_
  refine WL.nil ?_
  refine WE.then ?_
  refine WC.seq ?_
  refine WC.seq ?_
  refine WC.region ?_
  refine WL.y0' guard_none (Y0.assign rfl) rfl ?_
  refine WL.nil ?_
  refine WE.then ?_
  refine WC.meetH (fun (gx : (List (Fin 8 → Int)) × Option Addr × Nat × Option Ow × Mem) => match gx with | ⟨out1, out1p, out1c, out1tk, Gm1⟩ => [(5, .slice out1p out1.length out1c)]) (fun (gx : (List (Fin 8 → Int)) × Option Addr × Nat × Option Ow × Mem) => match gx with | ⟨out1, out1p, out1c, out1tk, Gm1⟩ => Mem.le Gv1 Gm1 ∧ SlR (Rp.vec .i64 8) Gm1 (.slice out1p out1.length out1c) out1 ∧ Tok 8 48 (.slice out1p out1.length out1c) out1.length out1tk ∧ (R21_Meet_k1 out1).Ret r) (fun (gx : (List (Fin 8 → Int)) × Option Addr × Nat × Option Ow × Mem) => match gx with | ⟨out1, out1p, out1c, out1tk, Gm1⟩ => St w0 G0 Gm1 [(1005, out1tk)]) ?_ ?_
  · refine WC.block ?_
    let Phi1 : (((List (Fin 8 → Int)))) → Prop := fun oo => ((fun ov => match ov with | out1 => R21_Meet_k1 out1 : (((List (Fin 8 → Int)))) → Comp ((List (Fin 8 → Int)))) oo).wp (fun a => a = r)
    replace hr : (Comp.loop _ _).wp Phi1 := hr
    refine WC.loopR (Φ := Phi1) (fun (gx : (List (Fin 8 → Int)) × Option Addr × Nat × Option Ow × Int × Mem) => match gx with | ⟨out2, out2p, out2c, out2tk, i1, Gm2⟩ => ((out2, i1) : (List (Fin 8 → Int)) × Int)) (fun (gx : (List (Fin 8 → Int)) × Option Addr × Nat × Option Ow × Int × Mem) => match gx with | ⟨out2, out2p, out2c, out2tk, i1, Gm2⟩ => [(0, .slice l1p l1.length l1c), (1, .slice m1p m1.length m1c), (5, .slice out2p out2.length out2c), (6, .int .i64 i1)]) (fun (gx : (List (Fin 8 → Int)) × Option Addr × Nat × Option Ow × Int × Mem) => match gx with | ⟨out2, out2p, out2c, out2tk, i1, Gm2⟩ => Mem.le Gv1 Gm2 ∧ SlR (Rp.vec .i64 8) Gm2 (.slice out2p out2.length out2c) out2 ∧ Tok 8 48 (.slice out2p out2.length out2c) out2.length out2tk) (fun (gx : (List (Fin 8 → Int)) × Option Addr × Nat × Option Ow × Int × Mem) => match gx with | ⟨out2, out2p, out2c, out2tk, i1, Gm2⟩ => St w0 G0 Gm2 [(1005, out2tk)]) ⟨[], p1, 0, none, 0, Gv1⟩ hr (Fr.sub_cons rfl (Fr.sub_cons rfl (Fr.sub_cons rfl (Fr.sub_cons rfl (Fr.sub_nil _))))) ⟨(Mem.le_refl _), p1h, Tok.full⟩ ?_ ?_
    · intro w hs
      exact hs.weaken (Lo.sub_no (Lo.sub_nil _))
    · intro Aq1 gx hx hr
      obtain ⟨out2, out2p, out2c, out2tk, i1, Gm2⟩ := gx
      obtain ⟨Gm2le, out2h, out2ht⟩ := hx
      refine WC.seq ?_
      refine WC.seq ?_
      refine WC.region ?_
      refine WL.y0' guard_none (Y0.move rfl) rfl ?_
      refine WL.y0' guard_none (Y0.move rfl) rfl ?_
      refine WL.y0' guard_none (Y0.lenR Try.underlying28 (l1h.mono (Mem.le_trans Gv1le Gm2le)) rfl) rfl ?_
      refine WL.y0' guard_none (Y0.lss rfl rfl) rfl ?_
      refine WL.nil ?_
      refine WE.then ?_
      refine WC.condD (p := i1 < (l1.length : Int)) rfl (fun hc1 => ?_) (fun hc1 => ?_)
      · replace hr := hr.pos hc1
        refine WC.skip ?_
        refine WE.then ?_
        refine WC.seq ?_
        refine WC.block ?_
        refine WC.seq ?_
        refine WC.region ?_
        refine WL.y0' guard_none (Y0.assign rfl) rfl ?_
        refine WL.nil ?_
        refine WE.then ?_
        refine WC.meetH (fun (gx : (List (Fin 8 → Int)) × Option Addr × Nat × Option Ow × Mem) => match gx with | ⟨out3, out3p, out3c, out3tk, Gm3⟩ => [(0, .slice l1p l1.length l1c), (1, .slice m1p m1.length m1c), (5, .slice out3p out3.length out3c), (6, .int .i64 i1)]) (fun (gx : (List (Fin 8 → Int)) × Option Addr × Nat × Option Ow × Mem) => match gx with | ⟨out3, out3p, out3c, out3tk, Gm3⟩ => Mem.le Gm2 Gm3 ∧ SlR (Rp.vec .i64 8) Gm3 (.slice out3p out3.length out3c) out3 ∧ Tok 8 48 (.slice out3p out3.length out3c) out3.length out3tk ∧ (R21_Meet_k3 i1 out3).wp (Out Aq1 Phi1)) (fun (gx : (List (Fin 8 → Int)) × Option Addr × Nat × Option Ow × Mem) => match gx with | ⟨out3, out3p, out3c, out3tk, Gm3⟩ => St w0 G0 Gm3 [(1005, out3tk)]) ?_ ?_
        · refine WC.block ?_
          let Phi2 : (((List (Fin 8 → Int)))) → Prop := fun oo => ((fun ov => match ov with | out3 => R21_Meet_k3 i1 out3 : (((List (Fin 8 → Int)))) → Comp (((List (Fin 8 → Int)) × Int) ⊕ (((List (Fin 8 → Int)))))) oo).wp (Out Aq1 Phi1)
          replace hr : (Comp.loop _ _).wp Phi2 := hr
          refine WC.loopR (Φ := Phi2) (fun (gx : (List (Fin 8 → Int)) × Option Addr × Nat × Option Ow × Int × Mem) => match gx with | ⟨out4, out4p, out4c, out4tk, k1, Gm4⟩ => ((out4, k1) : (List (Fin 8 → Int)) × Int)) (fun (gx : (List (Fin 8 → Int)) × Option Addr × Nat × Option Ow × Int × Mem) => match gx with | ⟨out4, out4p, out4c, out4tk, k1, Gm4⟩ => [(0, .slice l1p l1.length l1c), (1, .slice m1p m1.length m1c), (5, .slice out4p out4.length out4c), (6, .int .i64 i1), (7, .int .i64 k1)]) (fun (gx : (List (Fin 8 → Int)) × Option Addr × Nat × Option Ow × Int × Mem) => match gx with | ⟨out4, out4p, out4c, out4tk, k1, Gm4⟩ => Mem.le Gm2 Gm4 ∧ SlR (Rp.vec .i64 8) Gm4 (.slice out4p out4.length out4c) out4 ∧ Tok 8 48 (.slice out4p out4.length out4c) out4.length out4tk) (fun (gx : (List (Fin 8 → Int)) × Option Addr × Nat × Option Ow × Int × Mem) => match gx with | ⟨out4, out4p, out4c, out4tk, k1, Gm4⟩ => St w0 G0 Gm4 [(1005, out4tk)]) ⟨out2, out2p, out2c, out2tk, 0, Gm2⟩ hr (Fr.sub_cons rfl (Fr.sub_cons rfl (Fr.sub_cons rfl (Fr.sub_cons rfl (Fr.sub_cons rfl (Fr.sub_nil _)))))) ⟨(Mem.le_refl _), out2h, out2ht⟩ ?_ ?_
          · intro w hs
            exact hs.weaken (Lo.sub_cons rfl (Lo.sub_nil _))
          · intro Aq2 gx hx hr
            obtain ⟨out4, out4p, out4c, out4tk, k1, Gm4⟩ := gx
            obtain ⟨Gm4le, out4h, out4ht⟩ := hx
            refine WC.seq ?_
            refine WC.seq ?_
            refine WC.region ?_
            refine WL.y0' guard_none (Y0.move rfl) rfl ?_
            refine WL.y0' guard_none (Y0.move rfl) rfl ?_
            refine WL.y0' guard_none (Y0.lenR Try.underlying28 (m1h.mono (Mem.le_trans (Mem.le_trans Gv1le Gm2le) Gm4le)) rfl) rfl ?_
            refine WL.y0' guard_none (Y0.lss rfl rfl) rfl ?_
            refine WL.nil ?_
            refine WE.then ?_
            refine WC.condD (p := k1 < (m1.length : Int)) rfl (fun hc2 => ?_) (fun hc2 => ?_)
            · replace hr := hr.pos hc2
              refine WC.skip ?_
              refine WE.then ?_
              refine WC.seq ?_
              refine WC.block ?_
              refine WC.drawn [true, false, false, false, false, false, false, false, false, false] mix (by kernel_rfl) (fun hb => ?_)
              refine Chain.float guard_none (Y0.move rfl) ?_
              refine Chain.y0 guard_none (fun _ hle => Y0.move rfl) ?_
              refine Chain.y0 guard_none (fun _ hle => Y0.move rfl) ?_
              obtain ⟨x1, hx1, hr⟩ := hr
              refine Chain.y0 guard_none (fun _ hle => Y0.idxR Try.underlying28 sz48 ((l1h.mono (Mem.le_trans (Mem.le_trans Gv1le Gm2le) Gm4le)).mono hle) rfl rfl hx1) ?_
              refine Chain.y0 guard_none (fun _ hle => Y0.loadGA _ ag48 rfl (vecG_size _ _ _) (AtK.vec (At.mono (At.mono (SlR.at l1h hx1) (Mem.le_trans (Mem.le_trans Gv1le Gm2le) Gm4le)) hle))) ?_
              refine Chain.y0 guard_none (fun _ hle => Y0.move rfl) ?_
              refine Chain.y0 guard_none (fun _ hle => Y0.move rfl) ?_
              obtain ⟨x2, hx2, hr⟩ := hr
              refine Chain.y0 guard_none (fun _ hle => Y0.idxR Try.underlying28 sz48 ((m1h.mono (Mem.le_trans (Mem.le_trans Gv1le Gm2le) Gm4le)).mono hle) rfl rfl hx2) ?_
              refine Chain.y0 guard_none (fun _ hle => Y0.loadGA _ ag48 rfl (vecG_size _ _ _) (AtK.vec (At.mono (At.mono (SlR.at m1h hx2) (Mem.le_trans (Mem.le_trans Gv1le Gm2le) Gm4le)) hle))) ?_
              obtain ⟨yv2, hyv2, hr⟩ := hr
              refine Chain.call0 guard_none (fun _ => YC.of E54 rfl) (L_R04_Lcm _ _ _ hyv2) rfl (fun G' hle => trivial) ?_
              refine Chain.tail0 hb ?_
              refine WL.litR (e := 48) (r := (Rp.vec .i64 8)) (vs := #[(0, .agg (vecG (Value.int .i64) 8 yv2).toArray)]) (cs := (vecG (Value.int .i64) 8 yv2) ++ ([])) ([yv2] : List (Fin 8 → Int)) guard_none rfl rfl rfl rfl (by decide) (fun _ => by kernel_rfl) ⟨vecG (Value.int .i64) 8 yv2, [], rfl, rfl, rfl⟩ (key := 999) rfl (by rw [hL0]; rfl) (fun p2 Gv3 Gv3le p2h => ?_)
              obtain ⟨hsm1, hr⟩ := hr
              refine WL.appendR (r := (Rp.vec .i64 8)) 1005 guard_none rfl Try.underlying28 el48 rfl (by decide) rfl rfl (out4h.mono Gv3le) rfl (by rw [hL0]; rfl) out4ht p2h hsm1 (fun p3 p3c p3tk Gv4 Gv4le p3h p3ht => ?_)
              refine WL.y0' guard_none (Y0.assign rfl) rfl ?_
              refine WL.nil ?_
              refine WE.nx ?_
              refine WE.inBlock ?_
              refine WE.then ?_
              refine WC.region ?_
              refine WL.y0' guard_none (Y0.move rfl) rfl ?_
              refine WL.y0' guard_none (Y0.add rfl rfl) rfl ?_
              refine WL.y0' guard_none (Y0.assign rfl) rfl ?_
              refine WL.nil ?_
              refine WE.backR ⟨(out4 ++ [yv2]), p3, p3c, p3tk, IntKind.i64.wrap (k1 + 1), Gv4⟩ hr ⟨(Mem.le_trans (Mem.le_trans Gm4le Gv3le) Gv4le), p3h, p3ht⟩ (Fr.sub_cons rfl (Fr.sub_cons rfl (Fr.sub_cons rfl (Fr.sub_cons rfl (Fr.sub_cons rfl (Fr.sub_nil _)))))) ?_
              · intro w hs
                exact hs.weaken (Lo.sub_cons rfl (Lo.sub_nil _))
            · replace hr := hr.neg hc2
              refine WC.exit ?_
              refine WE.thenExit ?_
              refine WE.thenExit ?_
              refine WE.exitHere ?_
              refine WE.endH ⟨out4, out4p, out4c, out4tk, Gm4⟩ ⟨Gm4le, out4h, out4ht, hr⟩ (Fr.sub_cons rfl (Fr.sub_cons rfl (Fr.sub_cons rfl (Fr.sub_cons rfl (Fr.sub_nil _))))) ?_
              · intro w hs
                exact hs.weaken (Lo.sub_cons rfl (Lo.sub_nil _))
        · rintro ⟨out3, out3p, out3c, out3tk, Gm3⟩ ⟨Gm3le, out3h, out3ht, hr⟩
          refine WE.inBlock ?_
          refine WE.then ?_
          refine WC.region ?_
          refine WL.y0' guard_none (Y0.move rfl) rfl ?_
          refine WL.y0' guard_none (Y0.add rfl rfl) rfl ?_
          refine WL.y0' guard_none (Y0.assign rfl) rfl ?_
          refine WL.nil ?_
          refine WE.backR ⟨out3, out3p, out3c, out3tk, IntKind.i64.wrap (i1 + 1), Gm3⟩ hr ⟨(Mem.le_trans Gm2le Gm3le), out3h, out3ht⟩ (Fr.sub_cons rfl (Fr.sub_cons rfl (Fr.sub_cons rfl (Fr.sub_cons rfl (Fr.sub_nil _))))) ?_
          · intro w hs
            exact hs.weaken (Lo.sub_cons rfl (Lo.sub_nil _))
      · replace hr := hr.neg hc1
        refine WC.exit ?_
        refine WE.thenExit ?_
        refine WE.thenExit ?_
        refine WE.exitHere ?_
        refine WE.endH ⟨out2, out2p, out2c, out2tk, Gm2⟩ ⟨Gm2le, out2h, out2ht, hr⟩ (Fr.sub_cons rfl (Fr.sub_nil _)) ?_
        · intro w hs
          exact hs.weaken (Lo.sub_cons rfl (Lo.sub_nil _))
  · rintro ⟨out1, out1p, out1c, out1tk, Gm1⟩ ⟨Gm1le, out1h, out1ht, hr⟩
    refine WE.then ?_
    refine WC.seq ?_
    refine WC.region ?_
    refine WL.y0' guard_none (Y0.move rfl) rfl ?_
    obtain ⟨yv1, hyv1, hr⟩ := hr
    refine WL.call guard_none rfl (YC.of E30 rfl) (L_R04_Minimal _ _ _ _ hyv1) rfl (out1h) (fun yv1v Gv2 Gv2le yv1post => ?_)
    obtain ⟨yv1p, yv1c, rfl, yv1h⟩ := yv1post
    refine WL.y0' guard_none (Y0.assign rfl) rfl ?_
    refine WL.nil ?_
    refine WE.then ?_
    refine WC.ret ?_
    replace hr : _ = r := hr
    subst hr
    exact WE.ret1 rfl rfl ⟨_, _, rfl, yv1h⟩
theorem L_law21_made (x1 : T_law21_Input) (x1lp : Option Addr) (x1lc : Nat) (r : (List (Fin 8 → Int))) (hr : (law21_made x1).Ret r) : Ctr Try.prog 29 #[.agg ([.slice x1lp x1.l.length x1lc, .int .u8 x1.n]).toArray] (fun G => SlR (Rp.vec .u8 4) G (.slice x1lp x1.l.length x1lc) x1.l) (fun G v => ∃ zp zc, v = .slice zp r.length zc ∧ SlR (Rp.vec .i64 8) G (.slice zp r.length zc) r) := by
  refine Ctr.enter (args := [_]) (N := 10) Try.func29 rfl rfl rfl (fun w0 G0 hL0 hpre => ?_)
  have x1lh := hpre
  refine WC.seq ?_
  refine WC.region ?_
  refine WL.box 1 guard_none rfl rfl (fun b1 => ?_)
  refine WL.y0' guard_none (Y0.assign rfl) rfl ?_
  refine WL.nil ?_
  refine WE.then ?_
  refine WC.seq ?_
  refine WC.region ?_
  refine WL.y0' guard_none (Y0.fieldAddr Try.underlying25 rfl (fun _ => by kernel_rfl) rfl) rfl ?_
  refine WL.y0' guard_none (Y0.loadL 1 sc23 rfl rfl rfl) rfl ?_
  refine WL.y0' guard_none (Y0.fieldAddr Try.underlying25 rfl (fun _ => by kernel_rfl) rfl) rfl ?_
  refine WL.y0' guard_none (Y0.loadL 1 sc5 rfl rfl rfl) rfl ?_
  refine WL.y0' guard_none (Y0.rem rfl rfl (by decide)) rfl ?_
  refine WL.y0' guard_none (Y0.conv Try.underlying5 Try.underlying3 rfl) rfl ?_
  obtain ⟨yv1, hyv1, hr⟩ := hr
  refine WL.call guard_none rfl (YC.of E13 rfl) (L_R18_Made _ _ _ _ _ _ _ hyv1) rfl (x1lh) (fun yv1v Gv1 Gv1le yv1post => ?_)
  obtain ⟨yv1p, yv1c, rfl, yv1h⟩ := yv1post
  refine WL.y0' guard_none (Y0.assign rfl) rfl ?_
  refine WL.nil ?_
  refine WE.then ?_
  refine WC.ret ?_
  replace hr : _ = r := hr
  subst hr
  exact WE.ret1 rfl rfl ⟨_, _, rfl, yv1h⟩
theorem L_R18_Ones (setv1 : Int) (r : Int) (hr : (R18_Ones setv1).Ret r) : Ctr Try.prog 40 #[.int .u8 setv1] (fun G => True) (fun G v => v = .int .i64 r) := by
  refine Ctr.enter (args := [_]) (N := 17) Try.func40 rfl rfl rfl (fun w0 G0 hL0 hpre => ?_)
  refine WC.seq ?_
  refine WC.region ?_
  refine WL.y0' guard_none (Y0.assign rfl) rfl ?_
  refine WL.nil ?_
  refine WE.then ?_
  refine WC.seq ?_
  refine WC.region ?_
  refine WL.y0' guard_none (Y0.assign rfl) rfl ?_
  refine WL.nil ?_
  refine WE.then ?_
  refine WC.seq ?_
  refine WC.seq ?_
  refine WC.region ?_
  refine WL.y0' guard_none (Y0.assign rfl) rfl ?_
  refine WL.nil ?_
  refine WE.then ?_
  refine WC.meetH (fun (gx : Int × Mem) => match gx with | ⟨out1, Gm1⟩ => [(3, .int .i64 out1)]) (fun (gx : Int × Mem) => match gx with | ⟨out1, Gm1⟩ => Mem.le G0 Gm1 ∧ (R18_Ones_k1 out1).Ret r) (fun (gx : Int × Mem) => match gx with | ⟨out1, Gm1⟩ => St w0 G0 Gm1 []) ?_ ?_
  · refine WC.block ?_
    let Phi1 : Int → Prop := fun oo => ((fun ov => match ov with | out1 => R18_Ones_k1 out1 : Int → Comp Int) oo).wp (fun a => a = r)
    replace hr : (Comp.loop _ _).wp Phi1 := hr
    refine WC.loopR (Φ := Phi1) (fun (gx : Int × Int × Mem) => match gx with | ⟨out2, i1, Gm2⟩ => ((out2, i1) : Int × Int)) (fun (gx : Int × Int × Mem) => match gx with | ⟨out2, i1, Gm2⟩ => [(0, .int .u8 setv1), (3, .int .i64 out2), (4, .int .i64 i1)]) (fun (gx : Int × Int × Mem) => match gx with | ⟨out2, i1, Gm2⟩ => Mem.le G0 Gm2) (fun (gx : Int × Int × Mem) => match gx with | ⟨out2, i1, Gm2⟩ => St w0 G0 Gm2 []) ⟨0, 0, G0⟩ hr (Fr.sub_cons rfl (Fr.sub_cons rfl (Fr.sub_cons rfl (Fr.sub_nil _)))) (Mem.le_refl _) ?_ ?_
    · intro w hs
      exact hs.weaken (Lo.sub_nil _)
    · intro Aq1 gx hx hr
      obtain ⟨out2, i1, Gm2⟩ := gx
      have Gm2le := hx
      refine WC.seq ?_
      refine WC.seq ?_
      refine WC.region ?_
      refine WL.y0' guard_none (Y0.move rfl) rfl ?_
      refine WL.y0' guard_none (Y0.lss rfl rfl) rfl ?_
      refine WL.nil ?_
      refine WE.then ?_
      refine WC.condD (p := i1 < 8) rfl (fun hc1 => ?_) (fun hc1 => ?_)
      · replace hr := hr.pos hc1
        refine WC.skip ?_
        refine WE.then ?_
        refine WC.seq ?_
        refine WC.block ?_
        refine WC.region ?_
        refine WL.y0' guard_none (Y0.move rfl) rfl ?_
        refine WL.y0' guard_none (Y0.move rfl) rfl ?_
        refine WL.y0' guard_none (Y0.conv Try.underlying5 Try.underlying3 rfl) rfl ?_
        refine WL.y0' guard_none (Y0.move rfl) rfl ?_
        obtain ⟨hd1, hr⟩ := hr
        refine WL.y0' guard_none (Y0.shr rfl rfl hd1) rfl ?_
        refine WL.y0' guard_none (Y0.rem rfl rfl (by decide)) rfl ?_
        refine WL.y0' guard_none (Y0.add rfl rfl) rfl ?_
        refine WL.y0' guard_none (Y0.assign rfl) rfl ?_
        refine WL.nil ?_
        refine WE.inBlock ?_
        refine WE.then ?_
        refine WC.region ?_
        refine WL.y0' guard_none (Y0.move rfl) rfl ?_
        refine WL.y0' guard_none (Y0.add rfl rfl) rfl ?_
        refine WL.y0' guard_none (Y0.assign rfl) rfl ?_
        refine WL.nil ?_
        refine WE.backR ⟨IntKind.i64.wrap (out2 + (Int.tmod (Int.fdiv (IntKind.i64.wrap setv1) (2 ^ (min (i1).toNat IntKind.i64.bits))) 2)), IntKind.i64.wrap (i1 + 1), Gm2⟩ hr Gm2le (Fr.sub_cons rfl (Fr.sub_cons rfl (Fr.sub_cons rfl (Fr.sub_nil _)))) ?_
        · intro w hs
          exact hs.weaken (Lo.sub_nil _)
      · replace hr := hr.neg hc1
        refine WC.exit ?_
        refine WE.thenExit ?_
        refine WE.thenExit ?_
        refine WE.exitHere ?_
        refine WE.endH ⟨out2, Gm2⟩ ⟨Gm2le, hr⟩ (Fr.sub_cons rfl (Fr.sub_nil _)) ?_
        · intro w hs
          exact hs.weaken (Lo.sub_nil _)
  · rintro ⟨out1, Gm1⟩ ⟨Gm1le, hr⟩
    refine WE.then ?_
    refine WC.seq ?_
    refine WC.region ?_
    refine WL.y0' guard_none (Y0.move rfl) rfl ?_
    refine WL.y0' guard_none (Y0.assign rfl) rfl ?_
    refine WL.nil ?_
    refine WE.then ?_
    refine WC.ret ?_
    replace hr : _ = r := hr
    subst hr
    exact WE.ret1 rfl rfl rfl
theorem L_law21_ComponentsPrimary (a0_1 : T_law21_Input) (a0_1lp : Option Addr) (a0_1lc : Nat) (r : Bool) (hr : (law21_ComponentsPrimary a0_1).Ret r) : Ctr Try.prog 8 #[.agg ([.slice a0_1lp a0_1.l.length a0_1lc, .int .u8 a0_1.n]).toArray] (fun G => SlR (Rp.vec .u8 4) G (.slice a0_1lp a0_1.l.length a0_1lc) a0_1.l) (fun G v => v = .bool r) := by
  refine Ctr.enter (args := [_]) (N := 126) Try.func8 rfl rfl rfl (fun w0 G0 hL0 hpre => ?_)
  have a0_1lh := hpre
  refine WC.seq ?_
  refine WC.region ?_
  refine WL.box 1 guard_none rfl rfl (fun b1 => ?_)
  refine WL.y0' guard_none (Y0.assign rfl) rfl ?_
  refine WL.nil ?_
  refine WE.then ?_
  refine WC.seq ?_
  refine WC.region ?_
  obtain ⟨yv1, hyv1, hr⟩ := hr
  refine WL.call0 guard_none rfl (YC.of E11 rfl) (L_law21_sanity _ hyv1) rfl (trivial) ?_
  refine WL.y0' guard_none (Y0.assign rfl) rfl ?_
  refine WL.nil ?_
  refine WE.then ?_
  refine WC.seq ?_
  refine WC.seq ?_
  refine WC.region ?_
  refine WL.y0' guard_none (Y0.move rfl) rfl ?_
  refine WL.y0' guard_none (Y0.not rfl) rfl ?_
  refine WL.nil ?_
  refine WE.then ?_
  refine WC.cond (b := !yv1) rfl (fun hc1 => ?_) (fun hc1 => ?_)
  · replace hr := hr.pos hc1
    refine WC.seq ?_
    refine WC.region ?_
    refine WL.y0' guard_none (Y0.assign rfl) rfl ?_
    refine WL.nil ?_
    refine WE.then ?_
    refine WC.ret ?_
    replace hr : _ = r := hr
    refine WE.thenRet ?_
    subst hr
    exact WE.ret1 rfl rfl rfl
  · replace hr := hr.neg (Bool.eq_false_iff.1 hc1)
    refine WC.skip ?_
    refine WE.then ?_
    refine WC.seq ?_
    refine WC.region ?_
    refine WL.y0' guard_none (Y0.loadLA 1 ag25 rfl rfl rfl) rfl ?_
    obtain ⟨yv2, hyv2, hr⟩ := hr
    refine WL.call guard_none rfl (YC.of E29 rfl) (L_law21_made _ _ _ _ hyv2) rfl (a0_1lh) (fun yv2v Gv2 Gv2le yv2post => ?_)
    obtain ⟨yv2p, yv2c, rfl, yv2h⟩ := yv2post
    refine WL.y0' guard_none (Y0.assign rfl) rfl ?_
    refine WL.nil ?_
    refine WE.then ?_
    refine WC.seq ?_
    refine WC.region ?_
    refine WL.y0' guard_none (Y0.move rfl) rfl ?_
    refine WL.y0' guard_none (Y0.loadLA 1 ag25 rfl rfl rfl) rfl ?_
    obtain ⟨yv3, hyv3, hr⟩ := hr
    refine WL.call0 guard_none rfl (YC.of E12 rfl) (L_law21_vars _ _ _ _ hyv3) rfl ((a0_1lh.mono Gv2le)) ?_
    obtain ⟨yv4, hyv4, hr⟩ := hr
    refine WL.call guard_none rfl (YC.of E20 rfl) (L_components_Primary _ _ _ _ _ hyv4) rfl (yv2h) (fun yv4v Gv4 Gv4le yv4post => ?_)
    obtain ⟨yv4r0p, yv4r0c, rfl, yv4r0h⟩ := yv4post
    refine WL.y0' guard_none (Y0.move rfl) rfl ?_
    refine WL.y0' guard_none (Y0.extract rfl rfl) rfl ?_
    refine WL.y0' guard_none (Y0.extract rfl rfl) rfl ?_
    refine WL.y0' guard_none (Y0.assign rfl) rfl ?_
    refine WL.y0' guard_none (Y0.assign rfl) rfl ?_
    refine WL.nil ?_
    refine WE.then ?_
    refine WC.seq ?_
    refine WC.region ?_
    refine WL.y0' guard_none (Y0.move rfl) rfl ?_
    refine WL.y0' guard_none (Y0.loadLA 1 ag25 rfl rfl rfl) rfl ?_
    obtain ⟨yv5, hyv5, hr⟩ := hr
    refine WL.call0 guard_none rfl (YC.of E12 rfl) (L_law21_vars _ _ _ _ hyv5) rfl ((a0_1lh.mono (Mem.le_trans Gv2le Gv4le))) ?_
    obtain ⟨yv6, hyv6, hr⟩ := hr
    refine WL.call guard_none rfl (YC.of E16 rfl) (L_components_Primes _ _ _ _ _ hyv6) rfl ((yv2h.mono Gv4le)) (fun yv6v Gv6 Gv6le yv6post => ?_)
    obtain ⟨yv6r0p, yv6r0c, rfl, yv6r0h⟩ := yv6post
    refine WL.y0' guard_none (Y0.move rfl) rfl ?_
    refine WL.y0' guard_none (Y0.extract rfl rfl) rfl ?_
    refine WL.y0' guard_none (Y0.extract rfl rfl) rfl ?_
    refine WL.y0' guard_none (Y0.assign rfl) rfl ?_
    refine WL.y0' guard_none (Y0.assign rfl) rfl ?_
    refine WL.nil ?_
    refine WE.then ?_
    refine WC.seq ?_
    refine WC.seq ?_
    refine WC.region ?_
    refine WL.y0' guard_none (Y0.move rfl) rfl ?_
    refine WL.caseY0 (p := ¬ yv4.2 = 0) guard_none (Y0.neq rfl rfl) rfl (fun hb1 => ?_) (fun hb1 => ?_)
    · replace hr := hr.pos hb1
      refine WL.y0' guard_none (Y0.move rfl) rfl ?_
      refine WL.skip (guard_noF rfl rfl) rfl ?_
      refine WL.skip (guard_noF rfl rfl) rfl ?_
      refine WL.y0' guard_none (Y0.pickT rfl rfl) rfl ?_
      refine WL.y0' guard_none (Y0.move rfl) rfl ?_
      refine WL.skip (guard_noF rfl rfl) rfl ?_
      refine WL.skip (guard_noF rfl rfl) rfl ?_
      refine WL.skip (guard_noF rfl rfl) rfl ?_
      refine WL.skip (guard_noF rfl rfl) rfl ?_
      refine WL.skip (guard_noF rfl rfl) rfl ?_
      refine WL.y0' guard_none (Y0.pickT rfl rfl) rfl ?_
      refine WL.nil ?_
      refine WE.then ?_
      refine WC.condT rfl ?_
      refine WC.seq ?_
      refine WC.region ?_
      refine WL.y0' guard_none (Y0.assign rfl) rfl ?_
      refine WL.nil ?_
      refine WE.then ?_
      refine WC.ret ?_
      replace hr : _ = r := hr
      refine WE.thenRet ?_
      subst hr
      exact WE.ret1 rfl rfl rfl
    · replace hr := hr.neg hb1
      refine WL.y0' guard_none (Y0.move rfl) rfl ?_
      refine WL.y0' (guard_yes rfl rfl) (Y0.move rfl) rfl ?_
      refine WL.caseY0 (p := ¬ yv6.2 = 0) (guard_yes rfl rfl) (Y0.neq rfl rfl) rfl (fun hb2 => ?_) (fun hb2 => ?_)
      · replace hr := hr.pos hb2
        refine WL.y0' guard_none (Y0.pickF rfl rfl) rfl ?_
        refine WL.y0' guard_none (Y0.move rfl) rfl ?_
        refine WL.skip (guard_noF rfl rfl) rfl ?_
        refine WL.skip (guard_noF rfl rfl) rfl ?_
        refine WL.skip (guard_noF rfl rfl) rfl ?_
        refine WL.skip (guard_noF rfl rfl) rfl ?_
        refine WL.skip (guard_noF rfl rfl) rfl ?_
        refine WL.y0' guard_none (Y0.pickT rfl rfl) rfl ?_
        refine WL.nil ?_
        refine WE.then ?_
        refine WC.condT rfl ?_
        refine WC.seq ?_
        refine WC.region ?_
        refine WL.y0' guard_none (Y0.assign rfl) rfl ?_
        refine WL.nil ?_
        refine WE.then ?_
        refine WC.ret ?_
        replace hr : _ = r := hr
        refine WE.thenRet ?_
        subst hr
        exact WE.ret1 rfl rfl rfl
      · replace hr := hr.neg hb2
        refine WL.y0' guard_none (Y0.pickF rfl rfl) rfl ?_
        refine WL.y0' guard_none (Y0.move rfl) rfl ?_
        refine WL.y0' (guard_yes rfl rfl) (Y0.move rfl) rfl ?_
        refine WL.y0' (guard_yes rfl rfl) (Y0.lenR Try.underlying36 (yv4r0h.mono Gv6le) rfl) rfl ?_
        refine WL.y0' (guard_yes rfl rfl) (Y0.move rfl) rfl ?_
        refine WL.y0' (guard_yes rfl rfl) (Y0.lenR Try.underlying33 yv6r0h rfl) rfl ?_
        refine WL.y0' (guard_yes rfl rfl) (Y0.neq rfl rfl) rfl ?_
        refine WL.y0' guard_none (Y0.pickF rfl rfl) rfl ?_
        refine WL.nil ?_
        refine WE.then ?_
        refine WC.condD (p := ¬ (yv4.1.length : Int) = (yv6.1.length : Int)) rfl (fun hc2 => ?_) (fun hc2 => ?_)
        · replace hr := hr.pos hc2
          refine WC.seq ?_
          refine WC.region ?_
          refine WL.y0' guard_none (Y0.assign rfl) rfl ?_
          refine WL.nil ?_
          refine WE.then ?_
          refine WC.ret ?_
          replace hr : _ = r := hr
          refine WE.thenRet ?_
          subst hr
          exact WE.ret1 rfl rfl rfl
        · replace hr := hr.neg hc2
          refine WC.skip ?_
          refine WE.then ?_
          refine WC.seq ?_
          refine WC.region ?_
          refine WL.y0' guard_none (Y0.build (vs := #[]) (v := .agg (vecG (Value.int .i64) 8 (fun _ => 0)).toArray) rfl rfl (fun _ => by kernel_rfl)) rfl ?_
          refine WL.litR (e := 48) (r := (Rp.vec .i64 8)) (vs := #[(0, .agg (vecG (Value.int .i64) 8 (fun _ => 0)).toArray)]) (cs := (vecG (Value.int .i64) 8 (fun _ => 0)) ++ ([])) ([(fun _ => 0)] : List (Fin 8 → Int)) guard_none rfl rfl rfl rfl (by decide) (fun _ => by kernel_rfl) ⟨vecG (Value.int .i64) 8 (fun _ => 0), [], rfl, rfl, rfl⟩ (key := 999) rfl (by rw [hL0]; rfl) (fun p1 Gv7 Gv7le p1h => ?_)
          refine WL.y0' guard_none (Y0.assign rfl) rfl ?_
          refine WL.nil ?_
          refine WE.then ?_
          refine WC.seq ?_
          refine WC.seq ?_
          refine WC.region ?_
          refine WL.y0' guard_none (Y0.assign rfl) rfl ?_
          refine WL.nil ?_
          refine WE.then ?_
          refine WC.meetH (fun (gx : (List (Fin 8 → Int)) × Option Addr × Nat × Mem) => match gx with | ⟨v9_1, v9_1p, v9_1c, Gm1⟩ => [(3, .bool yv1), (4, .slice yv2p yv2.length yv2c), (9, .slice v9_1p v9_1.length v9_1c)]) (fun (gx : (List (Fin 8 → Int)) × Option Addr × Nat × Mem) => match gx with | ⟨v9_1, v9_1p, v9_1c, Gm1⟩ => Mem.le Gv7 Gm1 ∧ SlR (Rp.vec .i64 8) Gm1 (.slice v9_1p v9_1.length v9_1c) v9_1 ∧ (law21_ComponentsPrimary_k1 yv1 yv2 v9_1).Ret r) (fun (gx : (List (Fin 8 → Int)) × Option Addr × Nat × Mem) => match gx with | ⟨v9_1, v9_1p, v9_1c, Gm1⟩ => St w0 G0 Gm1 []) ?_ ?_
          · refine WC.block ?_
            let Phi1 : (Bool ⊕ ((List (Fin 8 → Int)))) → Prop := fun oo => ((fun ov => match ov with | .inl rv1 => Comp.ret rv1 | .inr v9_1 => law21_ComponentsPrimary_k1 yv1 yv2 v9_1 : (Bool ⊕ ((List (Fin 8 → Int)))) → Comp Bool) oo).wp (fun a => a = r)
            replace hr : (Comp.loop _ _).wp Phi1 := hr
            refine WC.loopR (Φ := Phi1) (fun (gx : (List (Fin 8 → Int)) × Option Addr × Nat × Int × Mem) => match gx with | ⟨v9_2, v9_2p, v9_2c, v10_1, Gm2⟩ => ((v9_2, v10_1) : (List (Fin 8 → Int)) × Int)) (fun (gx : (List (Fin 8 → Int)) × Option Addr × Nat × Int × Mem) => match gx with | ⟨v9_2, v9_2p, v9_2c, v10_1, Gm2⟩ => [(3, .bool yv1), (4, .slice yv2p yv2.length yv2c), (5, .slice yv4r0p yv4.1.length yv4r0c), (7, .slice yv6r0p yv6.1.length yv6r0c), (9, .slice v9_2p v9_2.length v9_2c), (10, .int .i64 v10_1)]) (fun (gx : (List (Fin 8 → Int)) × Option Addr × Nat × Int × Mem) => match gx with | ⟨v9_2, v9_2p, v9_2c, v10_1, Gm2⟩ => Mem.le Gv7 Gm2 ∧ SlR (Rp.vec .i64 8) Gm2 (.slice v9_2p v9_2.length v9_2c) v9_2) (fun (gx : (List (Fin 8 → Int)) × Option Addr × Nat × Int × Mem) => match gx with | ⟨v9_2, v9_2p, v9_2c, v10_1, Gm2⟩ => St w0 G0 Gm2 []) ⟨[(fun _ => 0)], p1, 1, 0, Gv7⟩ hr (Fr.sub_cons rfl (Fr.sub_cons rfl (Fr.sub_cons rfl (Fr.sub_cons rfl (Fr.sub_cons rfl (Fr.sub_cons rfl (Fr.sub_nil _))))))) ⟨(Mem.le_refl _), p1h⟩ ?_ ?_
            · intro w hs
              exact hs.weaken (Lo.sub_nil _)
            · intro Aq1 gx hx hr
              obtain ⟨v9_2, v9_2p, v9_2c, v10_1, Gm2⟩ := gx
              obtain ⟨Gm2le, v9_2h⟩ := hx
              refine WC.seq ?_
              refine WC.seq ?_
              refine WC.region ?_
              refine WL.y0' guard_none (Y0.move rfl) rfl ?_
              refine WL.y0' guard_none (Y0.move rfl) rfl ?_
              refine WL.y0' guard_none (Y0.lenR Try.underlying36 (yv4r0h.mono (Mem.le_trans (Mem.le_trans Gv6le Gv7le) Gm2le)) rfl) rfl ?_
              refine WL.y0' guard_none (Y0.lss rfl rfl) rfl ?_
              refine WL.nil ?_
              refine WE.then ?_
              refine WC.condD (p := v10_1 < (yv4.1.length : Int)) rfl (fun hc3 => ?_) (fun hc3 => ?_)
              · replace hr := hr.pos hc3
                refine WC.skip ?_
                refine WE.then ?_
                refine WC.seq ?_
                refine WC.block ?_
                refine WC.seq ?_
                refine WC.region ?_
                refine WL.y0' guard_none (Y0.move rfl) rfl ?_
                refine WL.y0' guard_none (Y0.move rfl) rfl ?_
                obtain ⟨x1, hx1, hr⟩ := hr
                refine WL.y0' guard_none (Y0.idxR Try.underlying36 sz60 (yv4r0h.mono (Mem.le_trans (Mem.le_trans Gv6le Gv7le) Gm2le)) rfl rfl hx1) rfl ?_
                refine WL.y0' guard_none (Y0.fieldAddr Try.underlying60 rfl (fun _ => by kernel_rfl) rfl) rfl ?_
                obtain ⟨p2, p2c, p2e, p2h⟩ := AtK.sl (At.mono (AtK.snd (AtK.via (SlR.at yv4r0h hx1))) (Mem.le_trans (Mem.le_trans Gv6le Gv7le) Gm2le))
                refine WL.y0' guard_none (Y0.loadG sc28 rfl (p2e)) rfl ?_
                refine WL.y0' guard_none (Y0.assign rfl) rfl ?_
                refine WL.nil ?_
                refine WE.then ?_
                refine WC.seq ?_
                refine WC.region ?_
                refine WL.y0' guard_none (Y0.assign rfl) rfl ?_
                refine WL.nil ?_
                refine WE.then ?_
                refine WC.seq ?_
                refine WC.seq ?_
                refine WC.region ?_
                refine WL.y0' guard_none (Y0.assign rfl) rfl ?_
                refine WL.nil ?_
                refine WE.then ?_
                refine WC.meetH (fun (gx : Int × Mem) => match gx with | ⟨v12_1, Gm3⟩ => [(3, .bool yv1), (4, .slice yv2p yv2.length yv2c), (5, .slice yv4r0p yv4.1.length yv4r0c), (7, .slice yv6r0p yv6.1.length yv6r0c), (9, .slice v9_2p v9_2.length v9_2c), (10, .int .i64 v10_1), (11, .slice p2 x1.gens.length p2c), (12, .int .u8 v12_1)]) (fun (gx : Int × Mem) => match gx with | ⟨v12_1, Gm3⟩ => Mem.le Gm2 Gm3 ∧ (law21_ComponentsPrimary_k3 yv4 yv6 v9_2 v10_1 x1 v12_1).wp (Out Aq1 Phi1)) (fun (gx : Int × Mem) => match gx with | ⟨v12_1, Gm3⟩ => St w0 G0 Gm3 []) ?_ ?_
                · refine WC.block ?_
                  let Phi2 : (Bool ⊕ Int) → Prop := fun oo => ((fun ov => match ov with | .inl rv2 => Comp.ret (.inr (.inl rv2)) | .inr v12_1 => law21_ComponentsPrimary_k3 yv4 yv6 v9_2 v10_1 x1 v12_1 : (Bool ⊕ Int) → Comp (((List (Fin 8 → Int)) × Int) ⊕ (Bool ⊕ ((List (Fin 8 → Int)))))) oo).wp (Out Aq1 Phi1)
                  replace hr : (Comp.loop _ _).wp Phi2 := hr
                  refine WC.loopR (Φ := Phi2) (fun (gx : Int × Int × Mem) => match gx with | ⟨v12_2, v13_1, Gm4⟩ => ((v12_2, v13_1) : Int × Int)) (fun (gx : Int × Int × Mem) => match gx with | ⟨v12_2, v13_1, Gm4⟩ => [(3, .bool yv1), (4, .slice yv2p yv2.length yv2c), (5, .slice yv4r0p yv4.1.length yv4r0c), (7, .slice yv6r0p yv6.1.length yv6r0c), (9, .slice v9_2p v9_2.length v9_2c), (10, .int .i64 v10_1), (11, .slice p2 x1.gens.length p2c), (12, .int .u8 v12_2), (13, .int .i64 v13_1)]) (fun (gx : Int × Int × Mem) => match gx with | ⟨v12_2, v13_1, Gm4⟩ => Mem.le Gm2 Gm4) (fun (gx : Int × Int × Mem) => match gx with | ⟨v12_2, v13_1, Gm4⟩ => St w0 G0 Gm4 []) ⟨0, 0, Gm2⟩ hr (Fr.sub_cons rfl (Fr.sub_cons rfl (Fr.sub_cons rfl (Fr.sub_cons rfl (Fr.sub_cons rfl (Fr.sub_cons rfl (Fr.sub_cons rfl (Fr.sub_cons rfl (Fr.sub_cons rfl (Fr.sub_nil _)))))))))) (Mem.le_refl _) ?_ ?_
                  · intro w hs
                    exact hs.weaken (Lo.sub_nil _)
                  · intro Aq2 gx hx hr
                    obtain ⟨v12_2, v13_1, Gm4⟩ := gx
                    have Gm4le := hx
                    refine WC.seq ?_
                    refine WC.seq ?_
                    refine WC.region ?_
                    refine WL.y0' guard_none (Y0.move rfl) rfl ?_
                    refine WL.y0' guard_none (Y0.move rfl) rfl ?_
                    refine WL.y0' guard_none (Y0.lenR Try.underlying28 (p2h.mono Gm4le) rfl) rfl ?_
                    refine WL.y0' guard_none (Y0.lss rfl rfl) rfl ?_
                    refine WL.nil ?_
                    refine WE.then ?_
                    refine WC.condD (p := v13_1 < (x1.gens.length : Int)) rfl (fun hc5 => ?_) (fun hc5 => ?_)
                    · replace hr := hr.pos hc5
                      refine WC.skip ?_
                      refine WE.then ?_
                      refine WC.seq ?_
                      refine WC.block ?_
                      refine WC.seq ?_
                      refine WC.seq ?_
                      refine WC.drawn [false, false, false, false, false, false, false, false, false, false, false, false] mix (by kernel_rfl) (fun hb => ?_)
                      refine Chain.y0 guard_none (fun _ hle => Y0.move rfl) ?_
                      refine Chain.y0 guard_none (fun _ hle => Y0.move rfl) ?_
                      obtain ⟨x5, hx5, hr⟩ := hr
                      refine Chain.y0 guard_none (fun _ hle => Y0.idxR Try.underlying28 sz48 ((p2h.mono Gm4le).mono hle) rfl rfl hx5) ?_
                      refine Chain.y0 guard_none (fun _ hle => Y0.loadGA _ ag48 rfl (vecG_size _ _ _) (AtK.vec (At.mono (At.mono (SlR.at p2h hx5) Gm4le) hle))) ?_
                      obtain ⟨yv12, hyv12, hr⟩ := hr
                      refine Chain.call0 guard_none (fun _ => YC.of E39 rfl) (L_R04_Support _ _ hyv12) rfl (fun G' hle => trivial) ?_
                      refine Chain.y0 guard_none (fun _ hle => Y0.move rfl) ?_
                      refine Chain.y0 guard_none (fun _ hle => Y0.move rfl) ?_
                      obtain ⟨x6, hx6, hr⟩ := hr
                      refine Chain.y0 guard_none (fun _ hle => Y0.idxR Try.underlying36 sz60 ((yv4r0h.mono (Mem.le_trans (Mem.le_trans (Mem.le_trans Gv6le Gv7le) Gm2le) Gm4le)).mono hle) rfl rfl hx6) ?_
                      refine Chain.y0 guard_none (fun _ hle => Y0.fieldAddr Try.underlying60 rfl (fun _ => by kernel_rfl) rfl) ?_
                      refine Chain.y0 guard_none (fun _ hle => Y0.loadG sc5 rfl (AtK.int (At.mono (At.mono (AtK.fst (AtK.via (SlR.at yv4r0h hx6))) (Mem.le_trans (Mem.le_trans (Mem.le_trans Gv6le Gv7le) Gm2le) Gm4le)) hle))) ?_
                      refine Chain.y0 guard_none (fun _ hle => Y0.andNot rfl rfl) ?_
                      refine Chain.y0 guard_none (fun _ hle => Y0.neq rfl rfl) ?_
                      refine Chain.tail0 hb ?_
                      refine WL.nil ?_
                      refine WE.nx ?_
                      refine WE.then ?_
                      refine WC.condD (p := ¬ (IntKind.u8.wrap (BitVec.ofInt IntKind.u8.bits yv12 &&& ~~~ BitVec.ofInt IntKind.u8.bits x6.prime).toNat) = 0) rfl (fun hc6 => ?_) (fun hc6 => ?_)
                      · replace hr := hr.pos hc6
                        refine WC.seq ?_
                        refine WC.region ?_
                        refine WL.y0' guard_none (Y0.assign rfl) rfl ?_
                        refine WL.nil ?_
                        refine WE.then ?_
                        refine WC.ret ?_
                        replace hr : _ = r := hr
                        refine WE.thenRet ?_
                        refine WE.inBlockRet ?_
                        refine WE.thenRet ?_
                        refine WE.thenRet ?_
                        refine WE.inBlockRet ?_
                        refine WE.endRet ?_
                        refine WE.thenRet ?_
                        refine WE.inBlockRet ?_
                        refine WE.thenRet ?_
                        refine WE.thenRet ?_
                        refine WE.inBlockRet ?_
                        refine WE.endRet ?_
                        refine WE.thenRet ?_
                        subst hr
                        exact WE.ret1 rfl rfl rfl
                      · replace hr := hr.neg hc6
                        refine WC.skip ?_
                        refine WE.then ?_
                        refine WC.seq ?_
                        refine WC.region ?_
                        refine WL.y0' guard_none (Y0.move rfl) rfl ?_
                        refine WL.y0' guard_none (Y0.move rfl) rfl ?_
                        obtain ⟨x7, hx7, hr⟩ := hr
                        refine WL.y0' guard_none (Y0.idxR Try.underlying28 sz48 (p2h.mono Gm4le) rfl rfl hx7) rfl ?_
                        refine WL.y0' guard_none (Y0.loadGA _ ag48 rfl (vecG_size _ _ _) (AtK.vec (At.mono (SlR.at p2h hx7) Gm4le))) rfl ?_
                        obtain ⟨yv13, hyv13, hr⟩ := hr
                        refine WL.call0 guard_none rfl (YC.of E39 rfl) (L_R04_Support _ _ hyv13) rfl (trivial) ?_
                        obtain ⟨yv14, hyv14, hr⟩ := hr
                        refine WL.call0 guard_none rfl (YC.of E40 rfl) (L_R18_Ones _ _ hyv14) rfl (trivial) ?_
                        refine WL.y0' guard_none (Y0.eql rfl rfl) rfl ?_
                        refine WL.nil ?_
                        refine WE.then ?_
                        refine WC.condD (p := yv14 = 1) rfl (fun hc7 => ?_) (fun hc7 => ?_)
                        · replace hr := hr.pos hc7
                          refine WC.region ?_
                          refine WL.y0' guard_none (Y0.move rfl) rfl ?_
                          refine WL.y0' guard_none (Y0.move rfl) rfl ?_
                          refine WL.y0' guard_none (Y0.move rfl) rfl ?_
                          obtain ⟨x8, hx8, hr⟩ := hr
                          refine WL.y0' guard_none (Y0.idxR Try.underlying28 sz48 (p2h.mono Gm4le) rfl rfl hx8) rfl ?_
                          refine WL.y0' guard_none (Y0.loadGA _ ag48 rfl (vecG_size _ _ _) (AtK.vec (At.mono (SlR.at p2h hx8) Gm4le))) rfl ?_
                          obtain ⟨yv15, hyv15, hr⟩ := hr
                          refine WL.call0 guard_none rfl (YC.of E39 rfl) (L_R04_Support _ _ hyv15) rfl (trivial) ?_
                          refine WL.y0' guard_none (Y0.or rfl rfl) rfl ?_
                          refine WL.y0' guard_none (Y0.assign rfl) rfl ?_
                          refine WL.nil ?_
                          refine WE.inBlock ?_
                          refine WE.then ?_
                          refine WC.region ?_
                          refine WL.y0' guard_none (Y0.move rfl) rfl ?_
                          refine WL.y0' guard_none (Y0.add rfl rfl) rfl ?_
                          refine WL.y0' guard_none (Y0.assign rfl) rfl ?_
                          refine WL.nil ?_
                          refine WE.backR ⟨IntKind.u8.wrap (BitVec.ofInt IntKind.u8.bits v12_2 ||| BitVec.ofInt IntKind.u8.bits yv15).toNat, IntKind.i64.wrap (v13_1 + 1), Gm4⟩ hr Gm4le (Fr.sub_cons rfl (Fr.sub_cons rfl (Fr.sub_cons rfl (Fr.sub_cons rfl (Fr.sub_cons rfl (Fr.sub_cons rfl (Fr.sub_cons rfl (Fr.sub_cons rfl (Fr.sub_cons rfl (Fr.sub_nil _)))))))))) ?_
                          · intro w hs
                            exact hs.weaken (Lo.sub_nil _)
                        · replace hr := hr.neg hc7
                          refine WC.skip ?_
                          refine WE.inBlock ?_
                          refine WE.then ?_
                          refine WC.region ?_
                          refine WL.y0' guard_none (Y0.move rfl) rfl ?_
                          refine WL.y0' guard_none (Y0.add rfl rfl) rfl ?_
                          refine WL.y0' guard_none (Y0.assign rfl) rfl ?_
                          refine WL.nil ?_
                          refine WE.backR ⟨v12_2, IntKind.i64.wrap (v13_1 + 1), Gm4⟩ hr Gm4le (Fr.sub_cons rfl (Fr.sub_cons rfl (Fr.sub_cons rfl (Fr.sub_cons rfl (Fr.sub_cons rfl (Fr.sub_cons rfl (Fr.sub_cons rfl (Fr.sub_cons rfl (Fr.sub_cons rfl (Fr.sub_nil _)))))))))) ?_
                          · intro w hs
                            exact hs.weaken (Lo.sub_nil _)
                    · replace hr := hr.neg hc5
                      refine WC.exit ?_
                      refine WE.thenExit ?_
                      refine WE.thenExit ?_
                      refine WE.exitHere ?_
                      refine WE.endH ⟨v12_2, Gm4⟩ ⟨Gm4le, hr⟩ (Fr.sub_cons rfl (Fr.sub_cons rfl (Fr.sub_cons rfl (Fr.sub_cons rfl (Fr.sub_cons rfl (Fr.sub_cons rfl (Fr.sub_cons rfl (Fr.sub_cons rfl (Fr.sub_nil _))))))))) ?_
                      · intro w hs
                        exact hs.weaken (Lo.sub_nil _)
                · rintro ⟨v12_1, Gm3⟩ ⟨Gm3le, hr⟩
                  refine WE.then ?_
                  refine WC.seq ?_
                  refine WC.seq ?_
                  refine WC.drawn [false, false, false, false, false, false, false, false, false, false, false, false, false, false, false, false, false, false, false, false, false, false, false, false, false] mix (by kernel_rfl) (fun hb => ?_)
                  refine Chain.y0 guard_none (fun _ hle => Y0.move rfl) ?_
                  refine Chain.y0 guard_none (fun _ hle => Y0.move rfl) ?_
                  obtain ⟨x2, hx2, hr⟩ := hr
                  refine Chain.y0 guard_none (fun _ hle => Y0.idxR Try.underlying36 sz60 ((yv4r0h.mono (Mem.le_trans (Mem.le_trans (Mem.le_trans Gv6le Gv7le) Gm2le) Gm3le)).mono hle) rfl rfl hx2) ?_
                  refine Chain.y0 guard_none (fun _ hle => Y0.fieldAddr Try.underlying60 rfl (fun _ => by kernel_rfl) rfl) ?_
                  refine Chain.y0 guard_none (fun _ hle => Y0.loadG sc5 rfl (AtK.int (At.mono (At.mono (AtK.fst (AtK.via (SlR.at yv4r0h hx2))) (Mem.le_trans (Mem.le_trans (Mem.le_trans Gv6le Gv7le) Gm2le) Gm3le)) hle))) ?_
                  refine Chain.y0 guard_none (fun _ hle => Y0.move rfl) ?_
                  refine Chain.y0 guard_none (fun _ hle => Y0.move rfl) ?_
                  obtain ⟨x3, hx3, hr⟩ := hr
                  refine Chain.y0 guard_none (fun _ hle => Y0.idxR Try.underlying33 sz5 ((yv6r0h.mono (Mem.le_trans (Mem.le_trans Gv7le Gm2le) Gm3le)).mono hle) rfl rfl hx3) ?_
                  refine Chain.y0 guard_none (fun _ hle => Y0.loadG sc5 rfl (AtK.int (At.mono (At.mono (SlR.at yv6r0h hx3) (Mem.le_trans (Mem.le_trans Gv7le Gm2le) Gm3le)) hle))) ?_
                  refine Chain.caseY0 (p := ¬ x2.prime = x3) guard_none (fun _ hle => Y0.neq rfl rfl) (fun hb3 => ?_) (fun hb3 => ?_)
                  · replace hr := hr.pos hb3
                    refine Chain.y0 guard_none (fun _ hle => Y0.move rfl) ?_
                    refine Chain.skip (guard_noF rfl rfl) ?_
                    refine Chain.skip (guard_noF rfl rfl) ?_
                    refine Chain.skip (guard_noF rfl rfl) ?_
                    refine Chain.skip (guard_noF rfl rfl) ?_
                    refine Chain.skip (guard_noF rfl rfl) ?_
                    refine Chain.skip (guard_noF rfl rfl) ?_
                    refine Chain.y0 guard_none (fun _ hle => Y0.pickT rfl rfl) ?_
                    refine Chain.y0 guard_none (fun _ hle => Y0.move rfl) ?_
                    refine Chain.skip (guard_noF rfl rfl) ?_
                    refine Chain.skip (guard_noF rfl rfl) ?_
                    refine Chain.skip (guard_noF rfl rfl) ?_
                    refine Chain.skip (guard_noF rfl rfl) ?_
                    refine Chain.skip (guard_noF rfl rfl) ?_
                    refine Chain.y0 guard_none (fun _ hle => Y0.pickT rfl rfl) ?_
                    refine Chain.tail0 hb ?_
                    refine WL.nil ?_
                    refine WE.nx ?_
                    refine WE.then ?_
                    refine WC.condT rfl ?_
                    refine WC.seq ?_
                    refine WC.region ?_
                    refine WL.y0' guard_none (Y0.assign rfl) rfl ?_
                    refine WL.nil ?_
                    refine WE.then ?_
                    refine WC.ret ?_
                    replace hr : _ = r := hr
                    refine WE.thenRet ?_
                    refine WE.inBlockRet ?_
                    refine WE.thenRet ?_
                    refine WE.thenRet ?_
                    refine WE.inBlockRet ?_
                    refine WE.endRet ?_
                    refine WE.thenRet ?_
                    subst hr
                    exact WE.ret1 rfl rfl rfl
                  · replace hr := hr.neg hb3
                    refine Chain.y0 guard_none (fun _ hle => Y0.move rfl) ?_
                    refine Chain.y0 (guard_yes rfl rfl) (fun _ hle => Y0.move rfl) ?_
                    refine Chain.y0 (guard_yes rfl rfl) (fun _ hle => Y0.move rfl) ?_
                    refine Chain.y0 (guard_yes rfl rfl) (fun _ hle => Y0.move rfl) ?_
                    obtain ⟨x4, hx4, hr⟩ := hr
                    refine Chain.y0 (guard_yes rfl rfl) (fun _ hle => Y0.idxR Try.underlying33 sz5 ((yv6r0h.mono (Mem.le_trans (Mem.le_trans Gv7le Gm2le) Gm3le)).mono hle) rfl rfl hx4) ?_
                    refine Chain.y0 (guard_yes rfl rfl) (fun _ hle => Y0.loadG sc5 rfl (AtK.int (At.mono (At.mono (SlR.at yv6r0h hx4) (Mem.le_trans (Mem.le_trans Gv7le Gm2le) Gm3le)) hle))) ?_
                    refine Chain.caseY0 (p := ¬ v12_1 = x4) (guard_yes rfl rfl) (fun _ hle => Y0.neq rfl rfl) (fun hb4 => ?_) (fun hb4 => ?_)
                    · replace hr := hr.pos hb4
                      refine Chain.y0 guard_none (fun _ hle => Y0.pickF rfl rfl) ?_
                      refine Chain.y0 guard_none (fun _ hle => Y0.move rfl) ?_
                      refine Chain.skip (guard_noF rfl rfl) ?_
                      refine Chain.skip (guard_noF rfl rfl) ?_
                      refine Chain.skip (guard_noF rfl rfl) ?_
                      refine Chain.skip (guard_noF rfl rfl) ?_
                      refine Chain.skip (guard_noF rfl rfl) ?_
                      refine Chain.y0 guard_none (fun _ hle => Y0.pickT rfl rfl) ?_
                      refine Chain.tail0 hb ?_
                      refine WL.nil ?_
                      refine WE.nx ?_
                      refine WE.then ?_
                      refine WC.condT rfl ?_
                      refine WC.seq ?_
                      refine WC.region ?_
                      refine WL.y0' guard_none (Y0.assign rfl) rfl ?_
                      refine WL.nil ?_
                      refine WE.then ?_
                      refine WC.ret ?_
                      replace hr : _ = r := hr
                      refine WE.thenRet ?_
                      refine WE.inBlockRet ?_
                      refine WE.thenRet ?_
                      refine WE.thenRet ?_
                      refine WE.inBlockRet ?_
                      refine WE.endRet ?_
                      refine WE.thenRet ?_
                      subst hr
                      exact WE.ret1 rfl rfl rfl
                    · replace hr := hr.neg hb4
                      refine Chain.y0 guard_none (fun _ hle => Y0.pickF rfl rfl) ?_
                      refine Chain.y0 guard_none (fun _ hle => Y0.move rfl) ?_
                      refine Chain.y0 (guard_yes rfl rfl) (fun _ hle => Y0.move rfl) ?_
                      refine Chain.y0 (guard_yes rfl rfl) (fun _ hle => Y0.move rfl) ?_
                      obtain ⟨yv9, hyv9, hr⟩ := hr
                      refine Chain.callU (post := fun G v => ∃ yv9p yv9c, v = .slice yv9p yv9.length yv9c ∧ SlR (Rp.vec .i64 8) G (.slice yv9p yv9.length yv9c) yv9) (fun _ => (guard_yes rfl rfl)) (fun _ _ => YC.of E30 rfl) (L_R04_Minimal _ _ _ _ hyv9) rfl (fun G' hle => ((p2h.mono Gm3le).mono hle)) (fun v G1 G2 hle h => ?_) ?_
                      · obtain ⟨yv9p, yv9c, rfl, yv9h⟩ := h
                        exact ⟨_, _, rfl, yv9h.mono hle⟩
                      obtain ⟨yv10, hyv10, hr⟩ := hr
                      refine Chain.callD (f := 22) (c := .bool yv10) (fun _ => (guard_yes rfl rfl)) (fun u G' hle hu => ?_) ?_
                      · obtain ⟨⟨yv9p, yv9c, yv9hu, yv9h⟩, _⟩ := (show (fun G v => ∃ yv9p yv9c, v = .slice yv9p yv9.length yv9c ∧ SlR (Rp.vec .i64 8) G (.slice yv9p yv9.length yv9c) yv9) G'.m (u 112) ∧ True from hu)
                        exact ⟨_, _, _, fun _ => YC.of E22 rfl, L_R04_Same _ _ _ _ _ _ _ hyv10, (by simp only [yv9hu]), ⟨((p2h.mono Gm3le).mono hle), yv9h⟩⟩
                      refine Chain.y0U (fun _ => (guard_yes rfl rfl)) (fun _ _ hle => Y0.not rfl) ?_
                      refine Chain.y0U (fun _ => guard_none) (fun _ _ hle => Y0.pickF rfl rfl) ?_
                      refine Chain.tailU1 (d := 112) (post := fun G v => ∃ yv9p yv9c, v = .slice yv9p yv9.length yv9c ∧ SlR (Rp.vec .i64 8) G (.slice yv9p yv9.length yv9c) yv9) (fun yv9v Gv10 Gv10le yv9post => ?_)
                      obtain ⟨yv9p, yv9c, rfl, yv9h⟩ := yv9post
                      refine WL.nil ?_
                      refine WE.nx ?_
                      refine WE.then ?_
                      refine WC.cond (b := !yv10) rfl (fun hc4 => ?_) (fun hc4 => ?_)
                      · replace hr := hr.pos hc4
                        refine WC.seq ?_
                        refine WC.region ?_
                        refine WL.y0' guard_none (Y0.assign rfl) rfl ?_
                        refine WL.nil ?_
                        refine WE.then ?_
                        refine WC.ret ?_
                        replace hr : _ = r := hr
                        refine WE.thenRet ?_
                        refine WE.inBlockRet ?_
                        refine WE.thenRet ?_
                        refine WE.thenRet ?_
                        refine WE.inBlockRet ?_
                        refine WE.endRet ?_
                        refine WE.thenRet ?_
                        subst hr
                        exact WE.ret1 rfl rfl rfl
                      · replace hr := hr.neg (Bool.eq_false_iff.1 hc4)
                        refine WC.skip ?_
                        refine WE.then ?_
                        refine WC.region ?_
                        refine WL.y0' guard_none (Y0.move rfl) rfl ?_
                        refine WL.y0' guard_none (Y0.move rfl) rfl ?_
                        obtain ⟨yv11, hyv11, hr⟩ := hr
                        refine WL.call guard_none rfl (YC.of E26 rfl) (L_R21_Meet _ _ _ _ _ _ _ hyv11) rfl (⟨(v9_2h.mono (Mem.le_trans Gm3le Gv10le)), (p2h.mono (Mem.le_trans Gm3le Gv10le))⟩) (fun yv11v Gv11 Gv11le yv11post => ?_)
                        obtain ⟨yv11p, yv11c, rfl, yv11h⟩ := yv11post
                        refine WL.y0' guard_none (Y0.assign rfl) rfl ?_
                        refine WL.nil ?_
                        refine WE.inBlock ?_
                        refine WE.then ?_
                        refine WC.region ?_
                        refine WL.y0' guard_none (Y0.move rfl) rfl ?_
                        refine WL.y0' guard_none (Y0.add rfl rfl) rfl ?_
                        refine WL.y0' guard_none (Y0.assign rfl) rfl ?_
                        refine WL.nil ?_
                        refine WE.backR ⟨yv11, yv11p, yv11c, IntKind.i64.wrap (v10_1 + 1), Gv11⟩ hr ⟨(Mem.le_trans (Mem.le_trans (Mem.le_trans Gm2le Gm3le) Gv10le) Gv11le), yv11h⟩ (Fr.sub_cons rfl (Fr.sub_cons rfl (Fr.sub_cons rfl (Fr.sub_cons rfl (Fr.sub_cons rfl (Fr.sub_cons rfl (Fr.sub_nil _))))))) ?_
                        · intro w hs
                          exact hs.weaken (Lo.sub_nil _)
              · replace hr := hr.neg hc3
                refine WC.exit ?_
                refine WE.thenExit ?_
                refine WE.thenExit ?_
                refine WE.exitHere ?_
                refine WE.endH ⟨v9_2, v9_2p, v9_2c, Gm2⟩ ⟨Gm2le, v9_2h, hr⟩ (Fr.sub_cons rfl (Fr.sub_cons rfl (Fr.sub_cons rfl (Fr.sub_nil _)))) ?_
                · intro w hs
                  exact hs.weaken (Lo.sub_nil _)
          · rintro ⟨v9_1, v9_1p, v9_1c, Gm1⟩ ⟨Gm1le, v9_1h, hr⟩
            refine WE.then ?_
            refine WC.seq ?_
            refine WC.region ?_
            refine WL.y0' guard_none (Y0.move rfl) rfl ?_
            refine WL.y0' guard_none (Y0.move rfl) rfl ?_
            obtain ⟨yv7, hyv7, hr⟩ := hr
            refine WL.call guard_none rfl (YC.of E30 rfl) (L_R04_Minimal _ _ _ _ hyv7) rfl ((yv2h.mono (Mem.le_trans (Mem.le_trans (Mem.le_trans Gv4le Gv6le) Gv7le) Gm1le))) (fun yv7v Gv8 Gv8le yv7post => ?_)
            obtain ⟨yv7p, yv7c, rfl, yv7h⟩ := yv7post
            obtain ⟨yv8, hyv8, hr⟩ := hr
            refine WL.call0 guard_none rfl (YC.of E22 rfl) (L_R04_Same _ _ _ _ _ _ _ hyv8) rfl (⟨(v9_1h.mono Gv8le), yv7h⟩) ?_
            cases yv8
            · skip
              refine WL.y0' guard_none (Y0.move rfl) rfl ?_
              refine WL.skip (guard_noT rfl rfl) rfl ?_
              refine WL.y0' guard_none (Y0.pickF rfl rfl) rfl ?_
              refine WL.y0' guard_none (Y0.assign rfl) rfl ?_
              refine WL.nil ?_
              refine WE.then ?_
              refine WC.ret ?_
              replace hr : _ = r := hr
              subst hr
              exact WE.ret1 rfl rfl rfl
            · skip
              refine WL.y0' guard_none (Y0.move rfl) rfl ?_
              refine WL.y0' (guard_yes rfl rfl) (Y0.move rfl) rfl ?_
              refine WL.y0' guard_none (Y0.pickT rfl rfl) rfl ?_
              refine WL.y0' guard_none (Y0.assign rfl) rfl ?_
              refine WL.nil ?_
              refine WE.then ?_
              refine WC.ret ?_
              replace hr : _ = r := hr
              subst hr
              exact WE.ret1 rfl rfl rfl
end Go.Proofs.Ytbdknlblnfnkkaa
