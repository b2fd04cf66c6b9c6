/- The code does what the models say. The conditions stand in each statement. -/
import Derived.Test.YtbdknlblnfnkkaaLb
namespace Go.Proofs.Ytbdknlblnfnkkaa
open Go Go.EL Go.RowKit Go.Proofs
theorem L_law21_vars (x1 : T_law21_Input) (x1lp : Option Addr) (x1lc : Nat) (r : Int) (hr : (law21_vars x1).Ret r) : Ctr Try.prog 12 #[.agg ([.slice x1lp x1.l.length x1lc, .int .u8 x1.n]).toArray] (fun G => SlR (Rp.vec .u8 4) G (.slice x1lp x1.l.length x1lc) x1.l) (fun G v => v = .int .i64 r) := by
  refine Ctr.enter (args := [_]) (N := 7) Try.func12 rfl rfl rfl (fun w0 G0 hL0 hpre => ?_)
  have x1lh := hpre
  refine WC.seq ?_
  refine WC.region ?_
  refine WL.box 1 guard_none rfl rfl (fun b1 => ?_)
  refine WL.y0' guard_none (Y0.assign rfl) rfl ?_
  refine WL.nil ?_
  refine WE.then ?_
  refine WC.seq ?_
  refine WC.region ?_
  refine WL.y0' guard_none (Y0.fieldAddr Try.underlying25 rfl (fun _ => by kernel_rfl) rfl) rfl ?_
  refine WL.y0' guard_none (Y0.loadL 1 sc5 rfl rfl rfl) rfl ?_
  refine WL.y0' guard_none (Y0.rem rfl rfl (by decide)) rfl ?_
  refine WL.y0' guard_none (Y0.conv Try.underlying5 Try.underlying3 rfl) rfl ?_
  refine WL.y0' guard_none (Y0.assign rfl) rfl ?_
  refine WL.nil ?_
  refine WE.then ?_
  refine WC.ret ?_
  replace hr : _ = r := hr
  subst hr
  exact WE.ret1 rfl rfl rfl
theorem L_R18_Made (x1 : (List (Fin 4 → Int))) (n1 : Int) (most1 : Int) (top1 : Int) (x1p : Option Addr) (x1c : Nat) (r : (List (Fin 8 → Int))) (hr : (R18_Made x1 n1 most1 top1).Ret r) : Ctr Try.prog 13 #[.slice x1p x1.length x1c, .int .i64 n1, .int .i64 most1, .int .i64 top1] (fun G => SlR (Rp.vec .u8 4) G (.slice x1p x1.length x1c) x1) (fun G v => ∃ zp zc, v = .slice zp r.length zc ∧ SlR (Rp.vec .i64 8) G (.slice zp r.length zc) r) := by
  refine Ctr.enter (args := [_, _, _, _]) (N := 52) Try.func13 rfl rfl rfl (fun w0 G0 hL0 hpre => ?_)
  have x1h := hpre
  refine WC.seq ?_
  refine WC.region ?_
  refine WL.y0' guard_none (Y0.assign rfl) rfl ?_
  refine WL.nil ?_
  refine WE.then ?_
  refine WC.seq ?_
  refine WC.region ?_
  refine WL.litR (e := 48) (r := (Rp.vec .i64 8)) (vs := #[]) (cs := []) ([] : List (Fin 8 → Int)) guard_none rfl rfl rfl rfl (by decide) (fun _ => by kernel_rfl) (rfl) (key := 999) rfl (by rw [hL0]; rfl) (fun p1 Gv1 Gv1le p1h => ?_)
  refine WL.y0' guard_none (Y0.assign rfl) rfl ?_
  refine WL.nil ?_
  refine WE.then ?_
  refine WC.seq ?_
  refine WC.seq ?_
  refine WC.region ?_
  refine WL.y0' guard_none (Y0.assign rfl) rfl ?_
  refine WL.nil ?_
  refine WE.then ?_
  refine WC.meetH (fun (gx : (List (Fin 8 → Int)) × Option Addr × Nat × Option Ow × Mem) => match gx with | ⟨out1, out1p, out1c, out1tk, Gm1⟩ => [(9, .slice out1p out1.length out1c)]) (fun (gx : (List (Fin 8 → Int)) × Option Addr × Nat × Option Ow × Mem) => match gx with | ⟨out1, out1p, out1c, out1tk, Gm1⟩ => Mem.le Gv1 Gm1 ∧ SlR (Rp.vec .i64 8) Gm1 (.slice out1p out1.length out1c) out1 ∧ Tok 8 48 (.slice out1p out1.length out1c) out1.length out1tk ∧ (R18_Made_k1 out1).Ret r) (fun (gx : (List (Fin 8 → Int)) × Option Addr × Nat × Option Ow × Mem) => match gx with | ⟨out1, out1p, out1c, out1tk, Gm1⟩ => St w0 G0 Gm1 [(1009, out1tk)]) ?_ ?_
  · refine WC.block ?_
    let Phi1 : (((List (Fin 8 → Int)))) → Prop := fun oo => ((fun ov => match ov with | out1 => R18_Made_k1 out1 : (((List (Fin 8 → Int)))) → Comp ((List (Fin 8 → Int)))) oo).wp (fun a => a = r)
    replace hr : (Comp.loop _ _).wp Phi1 := hr
    refine WC.loopR (Φ := Phi1) (fun (gx : (List (Fin 8 → Int)) × Option Addr × Nat × Option Ow × Int × Mem) => match gx with | ⟨out2, out2p, out2c, out2tk, i1, Gm2⟩ => ((out2, i1) : (List (Fin 8 → Int)) × Int)) (fun (gx : (List (Fin 8 → Int)) × Option Addr × Nat × Option Ow × Int × Mem) => match gx with | ⟨out2, out2p, out2c, out2tk, i1, Gm2⟩ => [(0, .slice x1p x1.length x1c), (1, .int .i64 n1), (2, .int .i64 most1), (3, .int .i64 top1), (9, .slice out2p out2.length out2c), (10, .int .i64 i1)]) (fun (gx : (List (Fin 8 → Int)) × Option Addr × Nat × Option Ow × Int × Mem) => match gx with | ⟨out2, out2p, out2c, out2tk, i1, Gm2⟩ => Mem.le Gv1 Gm2 ∧ SlR (Rp.vec .i64 8) Gm2 (.slice out2p out2.length out2c) out2 ∧ Tok 8 48 (.slice out2p out2.length out2c) out2.length out2tk) (fun (gx : (List (Fin 8 → Int)) × Option Addr × Nat × Option Ow × Int × Mem) => match gx with | ⟨out2, out2p, out2c, out2tk, i1, Gm2⟩ => St w0 G0 Gm2 [(1009, out2tk)]) ⟨[], p1, 0, none, 0, Gv1⟩ hr (Fr.sub_cons rfl (Fr.sub_cons rfl (Fr.sub_cons rfl (Fr.sub_cons rfl (Fr.sub_cons rfl (Fr.sub_cons rfl (Fr.sub_nil _))))))) ⟨(Mem.le_refl _), p1h, Tok.full⟩ ?_ ?_
    · intro w hs
      exact hs.weaken (Lo.sub_no (Lo.sub_nil _))
    · intro Aq1 gx hx hr
      obtain ⟨out2, out2p, out2c, out2tk, i1, Gm2⟩ := gx
      obtain ⟨Gm2le, out2h, out2ht⟩ := hx
      refine WC.seq ?_
      refine WC.seq ?_
      refine WC.region ?_
      refine WL.y0' guard_none (Y0.move rfl) rfl ?_
      refine WL.y0' guard_none (Y0.move rfl) rfl ?_
      refine WL.y0' guard_none (Y0.lenR Try.underlying23 (x1h.mono (Mem.le_trans Gv1le Gm2le)) rfl) rfl ?_
      refine WL.caseY0 (p := i1 < (x1.length : Int)) guard_none (Y0.lss rfl rfl) rfl (fun hb1 => ?_) (fun hb1 => ?_)
      · replace hr := hr.pos hb1
        refine WL.y0' guard_none (Y0.move rfl) rfl ?_
        refine WL.y0' (guard_yes rfl rfl) (Y0.move rfl) rfl ?_
        refine WL.y0' (guard_yes rfl rfl) (Y0.move rfl) rfl ?_
        refine WL.y0' (guard_yes rfl rfl) (Y0.lss rfl rfl) rfl ?_
        refine WL.y0' guard_none (Y0.pickT rfl rfl) rfl ?_
        refine WL.nil ?_
        refine WE.then ?_
        refine WC.condD (p := i1 < most1) rfl (fun hc1 => ?_) (fun hc1 => ?_)
        · replace hr := hr.pos hc1
          refine WC.skip ?_
          refine WE.then ?_
          refine WC.seq ?_
          refine WC.block ?_
          refine WC.seq ?_
          refine WC.region ?_
          refine WL.y0' guard_none (Y0.build (vs := #[]) (v := .agg (vecG (Value.int .i64) 8 (fun _ => 0)).toArray) rfl rfl (fun _ => by kernel_rfl)) rfl ?_
          refine WL.alloc 11 guard_none z48 rfl (fun b1 => ?_)
          refine WL.storeLA 11 guard_none sz48 rfl rfl rfl (vecG_size _ _ _) (vecG_size _ _ _) (fun u hu => Rp.one (Rp.vec .i64 8) (G := Gm2) (x := (fun _ => 0)) (cs := vecG (Value.int .i64) 8 (fun _ => 0)) rfl u (by simpa using hu)) ?_
          refine WL.nil ?_
          refine WE.then ?_
          refine WC.seq ?_
          refine WC.seq ?_
          refine WC.region ?_
          refine WL.y0' guard_none (Y0.assign rfl) rfl ?_
          refine WL.nil ?_
          refine WE.then ?_
          refine WC.meetH (fun (gx : (Fin 8 → Int) × Mem) => match gx with | ⟨bx1, Gm3⟩ => [(0, .slice x1p x1.length x1c), (1, .int .i64 n1), (2, .int .i64 most1), (3, .int .i64 top1), (9, .slice out2p out2.length out2c), (10, .int .i64 i1), (11, .pointer (some ⟨b1, 0, none⟩))]) (fun (gx : (Fin 8 → Int) × Mem) => match gx with | ⟨bx1, Gm3⟩ => Mem.le Gm2 Gm3 ∧ (R18_Made_k3 out2 i1 bx1).wp (Out Aq1 Phi1)) (fun (gx : (Fin 8 → Int) × Mem) => match gx with | ⟨bx1, Gm3⟩ => St w0 G0 Gm3 [(11, some ⟨b1, .cells (vecG (Value.int .i64) 8 bx1).toArray 48 (0, 0), 0⟩), (1009, out2tk)]) ?_ ?_
          · refine WC.block ?_
            let Phi2 : (Fin 8 → Int) → Prop := fun oo => ((fun ov => match ov with | bx1 => R18_Made_k3 out2 i1 bx1 : (Fin 8 → Int) → Comp (((List (Fin 8 → Int)) × Int) ⊕ (((List (Fin 8 → Int)))))) oo).wp (Out Aq1 Phi1)
            replace hr : (Comp.loop _ _).wp Phi2 := hr
            refine WC.loopR (Φ := Phi2) (fun (gx : Int × (Fin 8 → Int) × Mem) => match gx with | ⟨k1, bx2, Gm4⟩ => ((k1, bx2) : Int × (Fin 8 → Int))) (fun (gx : Int × (Fin 8 → Int) × Mem) => match gx with | ⟨k1, bx2, Gm4⟩ => [(0, .slice x1p x1.length x1c), (1, .int .i64 n1), (2, .int .i64 most1), (3, .int .i64 top1), (9, .slice out2p out2.length out2c), (10, .int .i64 i1), (11, .pointer (some ⟨b1, 0, none⟩)), (12, .int .i64 k1)]) (fun (gx : Int × (Fin 8 → Int) × Mem) => match gx with | ⟨k1, bx2, Gm4⟩ => Mem.le Gm2 Gm4) (fun (gx : Int × (Fin 8 → Int) × Mem) => match gx with | ⟨k1, bx2, Gm4⟩ => St w0 G0 Gm4 [(11, some ⟨b1, .cells (vecG (Value.int .i64) 8 bx2).toArray 48 (0, 0), 0⟩), (1009, out2tk)]) ⟨0, (fun _ => 0), Gm2⟩ hr (Fr.sub_cons rfl (Fr.sub_cons rfl (Fr.sub_cons rfl (Fr.sub_cons rfl (Fr.sub_cons rfl (Fr.sub_cons rfl (Fr.sub_cons rfl (Fr.sub_cons rfl (Fr.sub_nil _))))))))) (Mem.le_refl _) ?_ ?_
            · intro w hs
              exact hs.weaken (Lo.sub_cons rfl (Lo.sub_cons rfl (Lo.sub_nil _)))
            · intro Aq2 gx hx hr
              obtain ⟨k1, bx2, Gm4⟩ := gx
              have Gm4le := hx
              refine WC.seq ?_
              refine WC.seq ?_
              refine WC.region ?_
              refine WL.y0' guard_none (Y0.move rfl) rfl ?_
              refine WL.y0' guard_none (Y0.move rfl) rfl ?_
              refine WL.caseY0 (p := k1 < n1) guard_none (Y0.lss rfl rfl) rfl (fun hb2 => ?_) (fun hb2 => ?_)
              · replace hr := hr.pos hb2
                refine WL.y0' guard_none (Y0.move rfl) rfl ?_
                refine WL.y0' (guard_yes rfl rfl) (Y0.move rfl) rfl ?_
                refine WL.y0' (guard_yes rfl rfl) (Y0.lss rfl rfl) rfl ?_
                refine WL.y0' guard_none (Y0.pickT rfl rfl) rfl ?_
                refine WL.nil ?_
                refine WE.then ?_
                refine WC.condD (p := k1 < 4) rfl (fun hc2 => ?_) (fun hc2 => ?_)
                · replace hr := hr.pos hc2
                  refine WC.skip ?_
                  refine WE.then ?_
                  refine WC.seq ?_
                  refine WC.block ?_
                  refine WC.region ?_
                  refine WL.y0' guard_none (Y0.move rfl) rfl ?_
                  refine WL.y0' guard_none (Y0.move rfl) rfl ?_
                  refine WL.y0' guard_none (Y0.move rfl) rfl ?_
                  refine WL.y0' guard_none (Y0.move rfl) rfl ?_
                  obtain ⟨x2, hx2, hr⟩ := hr
                  refine WL.y0' guard_none (Y0.idxR Try.underlying23 sz65 (x1h.mono (Mem.le_trans (Mem.le_trans Gv1le Gm2le) Gm4le)) rfl rfl hx2) rfl ?_
                  obtain ⟨hi1, hr⟩ := hr
                  refine WL.y0' guard_none (Y0.idxA Try.underlying65 sz5 rfl rfl hi1) rfl ?_
                  refine WL.y0' guard_none (Y0.loadG sc5 rfl (AtK.vecAt (At.mono (SlR.at x1h hx2) (Mem.le_trans (Mem.le_trans Gv1le Gm2le) Gm4le)) hi1)) rfl ?_
                  refine WL.y0' guard_none (Y0.conv Try.underlying5 Try.underlying3 rfl) rfl ?_
                  refine WL.y0' guard_none (Y0.move rfl) rfl ?_
                  refine WL.y0' guard_none (Y0.add rfl rfl) rfl ?_
                  obtain ⟨hd1, hr⟩ := hr
                  refine WL.y0' guard_none (Y0.rem rfl rfl hd1) rfl ?_
                  obtain ⟨hi2, hr⟩ := hr
                  refine WL.y0' guard_none (Y0.idxA0 Try.underlying48 sz3 rfl rfl hi2) rfl ?_
                  refine WL.storeL 11 (vecG (Value.int .i64) 8 (setF bx2 k1.toNat (Int.tmod (IntKind.i64.wrap (getF x2 k1)) (IntKind.i64.wrap (top1 + 1))))).toArray guard_none sz3 rfl rfl rfl (by first | (rw [vecG_size]; omega) | (show _ < (vecG _ _ _).toArray.size; rw [vecG_size]; omega)) rfl (vecG_put _ _ _ _ _) ?_
                  refine WL.nil ?_
                  refine WE.inBlock ?_
                  refine WE.then ?_
                  refine WC.region ?_
                  refine WL.y0' guard_none (Y0.move rfl) rfl ?_
                  refine WL.y0' guard_none (Y0.add rfl rfl) rfl ?_
                  refine WL.y0' guard_none (Y0.assign rfl) rfl ?_
                  refine WL.nil ?_
                  refine WE.backR ⟨IntKind.i64.wrap (k1 + 1), setF bx2 k1.toNat (Int.tmod (IntKind.i64.wrap (getF x2 k1)) (IntKind.i64.wrap (top1 + 1))), Gm4⟩ hr Gm4le (Fr.sub_cons rfl (Fr.sub_cons rfl (Fr.sub_cons rfl (Fr.sub_cons rfl (Fr.sub_cons rfl (Fr.sub_cons rfl (Fr.sub_cons rfl (Fr.sub_cons rfl (Fr.sub_nil _))))))))) ?_
                  · intro w hs
                    exact hs.weaken (Lo.sub_cons rfl (Lo.sub_cons rfl (Lo.sub_nil _)))
                · replace hr := hr.neg hc2
                  refine WC.exit ?_
                  refine WE.thenExit ?_
                  refine WE.thenExit ?_
                  refine WE.exitHere ?_
                  refine WE.endH ⟨bx2, Gm4⟩ ⟨Gm4le, hr⟩ (Fr.sub_cons rfl (Fr.sub_cons rfl (Fr.sub_cons rfl (Fr.sub_cons rfl (Fr.sub_cons rfl (Fr.sub_cons rfl (Fr.sub_cons rfl (Fr.sub_nil _)))))))) ?_
                  · intro w hs
                    exact hs.weaken (Lo.sub_cons rfl (Lo.sub_cons rfl (Lo.sub_nil _)))
              · replace hr := hr.neg hb2
                refine WL.y0' guard_none (Y0.move rfl) rfl ?_
                refine WL.skip (guard_noT rfl rfl) rfl ?_
                refine WL.skip (guard_noT rfl rfl) rfl ?_
                refine WL.y0' guard_none (Y0.pickF rfl rfl) rfl ?_
                refine WL.nil ?_
                refine WE.then ?_
                refine WC.condF rfl ?_
                refine WC.exit ?_
                refine WE.thenExit ?_
                refine WE.thenExit ?_
                refine WE.exitHere ?_
                refine WE.endH ⟨bx2, Gm4⟩ ⟨Gm4le, hr⟩ (Fr.sub_cons rfl (Fr.sub_cons rfl (Fr.sub_cons rfl (Fr.sub_cons rfl (Fr.sub_cons rfl (Fr.sub_cons rfl (Fr.sub_cons rfl (Fr.sub_nil _)))))))) ?_
                · intro w hs
                  exact hs.weaken (Lo.sub_cons rfl (Lo.sub_cons rfl (Lo.sub_nil _)))
          · rintro ⟨bx1, Gm3⟩ ⟨Gm3le, hr⟩
            refine WE.then ?_
            refine WC.region ?_
            refine WL.y0' guard_none (Y0.move rfl) rfl ?_
            refine WL.y0' guard_none (Y0.loadLA 11 ag48 rfl rfl (vecG_size _ _ _)) rfl ?_
            refine WL.litR (e := 48) (r := (Rp.vec .i64 8)) (vs := #[(0, .agg (vecG (Value.int .i64) 8 bx1).toArray)]) (cs := (vecG (Value.int .i64) 8 bx1) ++ ([])) ([bx1] : List (Fin 8 → Int)) guard_none rfl rfl rfl rfl (by decide) (fun _ => by kernel_rfl) ⟨vecG (Value.int .i64) 8 bx1, [], rfl, rfl, rfl⟩ (key := 999) rfl (by rw [hL0]; rfl) (fun p2 Gv2 Gv2le p2h => ?_)
            obtain ⟨hsm1, hr⟩ := hr
            refine WL.appendR (r := (Rp.vec .i64 8)) 1009 guard_none rfl Try.underlying28 el48 rfl (by decide) rfl rfl (out2h.mono (Mem.le_trans Gm3le Gv2le)) rfl (by rw [hL0]; rfl) out2ht p2h hsm1 (fun p3 p3c p3tk Gv3 Gv3le p3h p3ht => ?_)
            refine WL.y0' guard_none (Y0.assign rfl) rfl ?_
            refine WL.nil ?_
            refine WE.inBlock ?_
            refine WE.then ?_
            refine WC.region ?_
            refine WL.y0' guard_none (Y0.move rfl) rfl ?_
            refine WL.y0' guard_none (Y0.add rfl rfl) rfl ?_
            refine WL.y0' guard_none (Y0.assign rfl) rfl ?_
            refine WL.nil ?_
            refine WE.backR ⟨(out2 ++ [bx1]), p3, p3c, p3tk, IntKind.i64.wrap (i1 + 1), Gv3⟩ hr ⟨(Mem.le_trans (Mem.le_trans (Mem.le_trans Gm2le Gm3le) Gv2le) Gv3le), p3h, p3ht⟩ (Fr.sub_cons rfl (Fr.sub_cons rfl (Fr.sub_cons rfl (Fr.sub_cons rfl (Fr.sub_cons rfl (Fr.sub_cons rfl (Fr.sub_nil _))))))) ?_
            · intro w hs
              exact hs.weaken (Lo.sub_cons rfl (Lo.sub_nil _))
        · replace hr := hr.neg hc1
          refine WC.exit ?_
          refine WE.thenExit ?_
          refine WE.thenExit ?_
          refine WE.exitHere ?_
          refine WE.endH ⟨out2, out2p, out2c, out2tk, Gm2⟩ ⟨Gm2le, out2h, out2ht, hr⟩ (Fr.sub_cons rfl (Fr.sub_nil _)) ?_
          · intro w hs
            exact hs.weaken (Lo.sub_cons rfl (Lo.sub_nil _))
      · replace hr := hr.neg hb1
        refine WL.y0' guard_none (Y0.move rfl) rfl ?_
        refine WL.skip (guard_noT rfl rfl) rfl ?_
        refine WL.skip (guard_noT rfl rfl) rfl ?_
        refine WL.skip (guard_noT rfl rfl) rfl ?_
        refine WL.y0' guard_none (Y0.pickF rfl rfl) rfl ?_
        refine WL.nil ?_
        refine WE.then ?_
        refine WC.condF rfl ?_
        refine WC.exit ?_
        refine WE.thenExit ?_
        refine WE.thenExit ?_
        refine WE.exitHere ?_
        refine WE.endH ⟨out2, out2p, out2c, out2tk, Gm2⟩ ⟨Gm2le, out2h, out2ht, hr⟩ (Fr.sub_cons rfl (Fr.sub_nil _)) ?_
        · intro w hs
          exact hs.weaken (Lo.sub_cons rfl (Lo.sub_nil _))
  · rintro ⟨out1, out1p, out1c, out1tk, Gm1⟩ ⟨Gm1le, out1h, out1ht, hr⟩
    refine WE.then ?_
    refine WC.seq ?_
    refine WC.region ?_
    refine WL.y0' guard_none (Y0.move rfl) rfl ?_
    refine WL.y0' guard_none (Y0.assign rfl) rfl ?_
    refine WL.nil ?_
    refine WE.then ?_
    refine WC.ret ?_
    replace hr : _ = r := hr
    subst hr
    exact WE.ret1 rfl rfl ⟨_, _, rfl, out1h⟩
theorem L_R04_Bit (i1 : Int) (r : Int) (hr : (R04_Bit i1).Ret r) : Ctr Try.prog 61 #[.int .i64 i1] (fun G => True) (fun G v => v = .int .u8 r) := by
  refine Ctr.enter (args := [_]) (N := 14) Try.func61 rfl rfl rfl (fun w0 G0 hL0 hpre => ?_)
  refine WC.seq ?_
  refine WC.region ?_
  refine WL.y0' guard_none (Y0.assign rfl) rfl ?_
  refine WL.nil ?_
  refine WE.then ?_
  refine WC.seq ?_
  refine WC.region ?_
  refine WL.y0' guard_none (Y0.assign rfl) rfl ?_
  refine WL.nil ?_
  refine WE.then ?_
  refine WC.seq ?_
  refine WC.seq ?_
  refine WC.region ?_
  refine WL.y0' guard_none (Y0.assign rfl) rfl ?_
  refine WL.nil ?_
  refine WE.then ?_
  refine WC.meetH (fun (gx : Int × Mem) => match gx with | ⟨n1, Gm1⟩ => [(3, .int .i64 n1)]) (fun (gx : Int × Mem) => match gx with | ⟨n1, Gm1⟩ => Mem.le G0 Gm1 ∧ (R04_Bit_k1 n1).Ret r) (fun (gx : Int × Mem) => match gx with | ⟨n1, Gm1⟩ => St w0 G0 Gm1 []) ?_ ?_
  · refine WC.block ?_
    let Phi1 : Int → Prop := fun oo => ((fun ov => match ov with | n1 => R04_Bit_k1 n1 : Int → Comp Int) oo).wp (fun a => a = r)
    replace hr : (Comp.loop _ _).wp Phi1 := hr
    refine WC.loopR (Φ := Phi1) (fun (gx : Int × Int × Mem) => match gx with | ⟨n2, k1, Gm2⟩ => ((n2, k1) : Int × Int)) (fun (gx : Int × Int × Mem) => match gx with | ⟨n2, k1, Gm2⟩ => [(0, .int .i64 i1), (3, .int .i64 n2), (4, .int .i64 k1)]) (fun (gx : Int × Int × Mem) => match gx with | ⟨n2, k1, Gm2⟩ => Mem.le G0 Gm2) (fun (gx : Int × Int × Mem) => match gx with | ⟨n2, k1, Gm2⟩ => St w0 G0 Gm2 []) ⟨1, 0, G0⟩ hr (Fr.sub_cons rfl (Fr.sub_cons rfl (Fr.sub_cons rfl (Fr.sub_nil _)))) (Mem.le_refl _) ?_ ?_
    · intro w hs
      exact hs.weaken (Lo.sub_nil _)
    · intro Aq1 gx hx hr
      obtain ⟨n2, k1, Gm2⟩ := gx
      have Gm2le := hx
      refine WC.seq ?_
      refine WC.seq ?_
      refine WC.region ?_
      refine WL.y0' guard_none (Y0.move rfl) rfl ?_
      refine WL.y0' guard_none (Y0.move rfl) rfl ?_
      refine WL.y0' guard_none (Y0.lss rfl rfl) rfl ?_
      refine WL.nil ?_
      refine WE.then ?_
      refine WC.condD (p := k1 < i1) rfl (fun hc1 => ?_) (fun hc1 => ?_)
      · replace hr := hr.pos hc1
        refine WC.skip ?_
        refine WE.then ?_
        refine WC.seq ?_
        refine WC.block ?_
        refine WC.region ?_
        refine WL.y0' guard_none (Y0.move rfl) rfl ?_
        refine WL.y0' guard_none (Y0.mul rfl rfl) rfl ?_
        refine WL.y0' guard_none (Y0.assign rfl) rfl ?_
        refine WL.nil ?_
        refine WE.inBlock ?_
        refine WE.then ?_
        refine WC.region ?_
        refine WL.y0' guard_none (Y0.move rfl) rfl ?_
        refine WL.y0' guard_none (Y0.add rfl rfl) rfl ?_
        refine WL.y0' guard_none (Y0.assign rfl) rfl ?_
        refine WL.nil ?_
        refine WE.backR ⟨IntKind.i64.wrap (2 * n2), IntKind.i64.wrap (k1 + 1), Gm2⟩ hr Gm2le (Fr.sub_cons rfl (Fr.sub_cons rfl (Fr.sub_cons rfl (Fr.sub_nil _)))) ?_
        · intro w hs
          exact hs.weaken (Lo.sub_nil _)
      · replace hr := hr.neg hc1
        refine WC.exit ?_
        refine WE.thenExit ?_
        refine WE.thenExit ?_
        refine WE.exitHere ?_
        refine WE.endH ⟨n2, Gm2⟩ ⟨Gm2le, hr⟩ (Fr.sub_cons rfl (Fr.sub_nil _)) ?_
        · intro w hs
          exact hs.weaken (Lo.sub_nil _)
  · rintro ⟨n1, Gm1⟩ ⟨Gm1le, hr⟩
    refine WE.then ?_
    refine WC.seq ?_
    refine WC.region ?_
    refine WL.y0' guard_none (Y0.move rfl) rfl ?_
    refine WL.y0' guard_none (Y0.conv Try.underlying3 Try.underlying5 rfl) rfl ?_
    refine WL.y0' guard_none (Y0.assign rfl) rfl ?_
    refine WL.nil ?_
    refine WE.then ?_
    refine WC.ret ?_
    replace hr : _ = r := hr
    subst hr
    exact WE.ret1 rfl rfl rfl
theorem L_R04_Support (m1 : (Fin 8 → Int)) (r : Int) (hr : (R04_Support m1).Ret r) : Ctr Try.prog 39 #[.agg (vecG (Value.int .i64) 8 m1).toArray] (fun G => True) (fun G v => v = .int .u8 r) := by
  refine Ctr.enter (args := [_]) (N := 18) Try.func39 rfl rfl rfl (fun w0 G0 hL0 hpre => ?_)
  refine WC.seq ?_
  refine WC.region ?_
  refine WL.box 1 guard_none rfl rfl (fun b1 => ?_)
  refine WL.y0' guard_none (Y0.assign rfl) rfl ?_
  refine WL.nil ?_
  refine WE.then ?_
  refine WC.seq ?_
  refine WC.region ?_
  refine WL.y0' guard_none (Y0.assign rfl) rfl ?_
  refine WL.nil ?_
  refine WE.then ?_
  refine WC.seq ?_
  refine WC.seq ?_
  refine WC.region ?_
  refine WL.y0' guard_none (Y0.assign rfl) rfl ?_
  refine WL.nil ?_
  refine WE.then ?_
  refine WC.meetH (fun (gx : Int × Mem) => match gx with | ⟨n1, Gm1⟩ => [(3, .int .u8 n1)]) (fun (gx : Int × Mem) => match gx with | ⟨n1, Gm1⟩ => Mem.le G0 Gm1 ∧ (R04_Support_k1 n1).Ret r) (fun (gx : Int × Mem) => match gx with | ⟨n1, Gm1⟩ => St w0 G0 Gm1 []) ?_ ?_
  · refine WC.block ?_
    let Phi1 : Int → Prop := fun oo => ((fun ov => match ov with | n1 => R04_Support_k1 n1 : Int → Comp Int) oo).wp (fun a => a = r)
    replace hr : (Comp.loop _ _).wp Phi1 := hr
    refine WC.loopR (Φ := Phi1) (fun (gx : Int × Int × Mem) => match gx with | ⟨n2, i1, Gm2⟩ => ((n2, i1) : Int × Int)) (fun (gx : Int × Int × Mem) => match gx with | ⟨n2, i1, Gm2⟩ => [(1, .pointer (some ⟨b1, 0, none⟩)), (3, .int .u8 n2), (4, .int .i64 i1)]) (fun (gx : Int × Int × Mem) => match gx with | ⟨n2, i1, Gm2⟩ => Mem.le G0 Gm2) (fun (gx : Int × Int × Mem) => match gx with | ⟨n2, i1, Gm2⟩ => St w0 G0 Gm2 [(1, some ⟨b1, .cells (vecG (Value.int .i64) 8 m1).toArray 48 (0, 0), 0⟩)]) ⟨0, 0, G0⟩ hr (Fr.sub_cons rfl (Fr.sub_cons rfl (Fr.sub_cons rfl (Fr.sub_nil _)))) (Mem.le_refl _) ?_ ?_
    · intro w hs
      exact hs.weaken (Lo.sub_cons rfl (Lo.sub_nil _))
    · intro Aq1 gx hx hr
      obtain ⟨n2, i1, Gm2⟩ := gx
      have Gm2le := hx
      refine WC.seq ?_
      refine WC.seq ?_
      refine WC.region ?_
      refine WL.y0' guard_none (Y0.move rfl) rfl ?_
      refine WL.y0' guard_none (Y0.lss rfl rfl) rfl ?_
      refine WL.nil ?_
      refine WE.then ?_
      refine WC.condD (p := i1 < 8) rfl (fun hc1 => ?_) (fun hc1 => ?_)
      · replace hr := hr.pos hc1
        refine WC.skip ?_
        refine WE.then ?_
        refine WC.seq ?_
        refine WC.block ?_
        refine WC.seq ?_
        refine WC.region ?_
        refine WL.y0' guard_none (Y0.move rfl) rfl ?_
        obtain ⟨hi1, hr⟩ := hr
        refine WL.y0' guard_none (Y0.idxA0 Try.underlying48 sz3 rfl rfl hi1) rfl ?_
        refine WL.y0' guard_none (Y0.loadL 1 sc3 rfl rfl (vecG_at _ _ _ hi1)) rfl ?_
        refine WL.y0' guard_none (Y0.gtr rfl rfl) rfl ?_
        refine WL.nil ?_
        refine WE.then ?_
        refine WC.condD (p := 0 < (getF m1 i1)) rfl (fun hc2 => ?_) (fun hc2 => ?_)
        · replace hr := hr.pos hc2
          refine WC.region ?_
          refine WL.y0' guard_none (Y0.move rfl) rfl ?_
          refine WL.y0' guard_none (Y0.move rfl) rfl ?_
          obtain ⟨yv1, hyv1, hr⟩ := hr
          refine WL.call0 guard_none rfl (YC.of E61 rfl) (L_R04_Bit _ _ hyv1) rfl (trivial) ?_
          refine WL.y0' guard_none (Y0.add rfl rfl) rfl ?_
          refine WL.y0' guard_none (Y0.assign rfl) rfl ?_
          refine WL.nil ?_
          refine WE.inBlock ?_
          refine WE.then ?_
          refine WC.region ?_
          refine WL.y0' guard_none (Y0.move rfl) rfl ?_
          refine WL.y0' guard_none (Y0.add rfl rfl) rfl ?_
          refine WL.y0' guard_none (Y0.assign rfl) rfl ?_
          refine WL.nil ?_
          refine WE.backR ⟨IntKind.u8.wrap (n2 + yv1), IntKind.i64.wrap (i1 + 1), Gm2⟩ hr Gm2le (Fr.sub_cons rfl (Fr.sub_cons rfl (Fr.sub_cons rfl (Fr.sub_nil _)))) ?_
          · intro w hs
            exact hs.weaken (Lo.sub_cons rfl (Lo.sub_nil _))
        · replace hr := hr.neg hc2
          refine WC.skip ?_
          refine WE.inBlock ?_
          refine WE.then ?_
          refine WC.region ?_
          refine WL.y0' guard_none (Y0.move rfl) rfl ?_
          refine WL.y0' guard_none (Y0.add rfl rfl) rfl ?_
          refine WL.y0' guard_none (Y0.assign rfl) rfl ?_
          refine WL.nil ?_
          refine WE.backR ⟨n2, IntKind.i64.wrap (i1 + 1), Gm2⟩ hr Gm2le (Fr.sub_cons rfl (Fr.sub_cons rfl (Fr.sub_cons rfl (Fr.sub_nil _)))) ?_
          · intro w hs
            exact hs.weaken (Lo.sub_cons rfl (Lo.sub_nil _))
      · replace hr := hr.neg hc1
        refine WC.exit ?_
        refine WE.thenExit ?_
        refine WE.thenExit ?_
        refine WE.exitHere ?_
        refine WE.endH ⟨n2, Gm2⟩ ⟨Gm2le, hr⟩ (Fr.sub_cons rfl (Fr.sub_nil _)) ?_
        · intro w hs
          exact hs.weaken (Lo.sub_nil _)
  · rintro ⟨n1, Gm1⟩ ⟨Gm1le, hr⟩
    refine WE.then ?_
    refine WC.seq ?_
    refine WC.region ?_
    refine WL.y0' guard_none (Y0.move rfl) rfl ?_
    refine WL.y0' guard_none (Y0.assign rfl) rfl ?_
    refine WL.nil ?_
    refine WE.then ?_
    refine WC.ret ?_
    replace hr : _ = r := hr
    subst hr
    exact WE.ret1 rfl rfl rfl
theorem L_R04_Divides (a1 : (Fin 8 → Int)) (b1 : (Fin 8 → Int)) (r : Bool) (hr : (R04_Divides a1 b1).Ret r) : Ctr Try.prog 58 #[.agg (vecG (Value.int .i64) 8 a1).toArray, .agg (vecG (Value.int .i64) 8 b1).toArray] (fun G => True) (fun G v => v = .bool r) := by
  refine Ctr.enter (args := [_, _]) (N := 17) Try.func58 rfl rfl rfl (fun w0 G0 hL0 hpre => ?_)
  refine WC.seq ?_
  refine WC.region ?_
  refine WL.box 2 guard_none rfl rfl (fun b2 => ?_)
  refine WL.box 3 guard_none rfl rfl (fun b3 => ?_)
  refine WL.y0' guard_none (Y0.assign rfl) rfl ?_
  refine WL.nil ?_
  refine WE.then ?_
  refine WC.seq ?_
  refine WC.seq ?_
  refine WC.region ?_
  refine WL.y0' guard_none (Y0.assign rfl) rfl ?_
  refine WL.nil ?_
  refine WE.then ?_
  refine WC.meetH (fun (gx : Mem) => match gx with | Gm1 => []) (fun (gx : Mem) => match gx with | Gm1 => Mem.le G0 Gm1 ∧ (R04_Divides_k1).Ret r) (fun (gx : Mem) => match gx with | Gm1 => St w0 G0 Gm1 []) ?_ ?_
  · refine WC.block ?_
    let Phi1 : (Bool ⊕ Unit) → Prop := fun oo => ((fun ov => match ov with | .inl rv1 => Comp.ret rv1 | .inr () => R04_Divides_k1 : (Bool ⊕ Unit) → Comp Bool) oo).wp (fun a => a = r)
    replace hr : (Comp.loop _ _).wp Phi1 := hr
    refine WC.loopR (Φ := Phi1) (fun (gx : Int × Mem) => match gx with | ⟨i1, Gm2⟩ => (i1 : Int)) (fun (gx : Int × Mem) => match gx with | ⟨i1, Gm2⟩ => [(2, .pointer (some ⟨b2, 0, none⟩)), (3, .pointer (some ⟨b3, 0, none⟩)), (5, .int .i64 i1)]) (fun (gx : Int × Mem) => match gx with | ⟨i1, Gm2⟩ => Mem.le G0 Gm2) (fun (gx : Int × Mem) => match gx with | ⟨i1, Gm2⟩ => St w0 G0 Gm2 [(2, some ⟨b2, .cells (vecG (Value.int .i64) 8 a1).toArray 48 (0, 0), 0⟩), (3, some ⟨b3, .cells (vecG (Value.int .i64) 8 b1).toArray 48 (0, 0), 0⟩)]) ⟨0, G0⟩ hr (Fr.sub_cons rfl (Fr.sub_cons rfl (Fr.sub_cons rfl (Fr.sub_nil _)))) (Mem.le_refl _) ?_ ?_
    · intro w hs
      exact hs.weaken (Lo.sub_cons rfl (Lo.sub_cons rfl (Lo.sub_nil _)))
    · intro Aq1 gx hx hr
      obtain ⟨i1, Gm2⟩ := gx
      have Gm2le := hx
      refine WC.seq ?_
      refine WC.seq ?_
      refine WC.region ?_
      refine WL.y0' guard_none (Y0.move rfl) rfl ?_
      refine WL.y0' guard_none (Y0.lss rfl rfl) rfl ?_
      refine WL.nil ?_
      refine WE.then ?_
      refine WC.condD (p := i1 < 8) rfl (fun hc1 => ?_) (fun hc1 => ?_)
      · replace hr := hr.pos hc1
        refine WC.skip ?_
        refine WE.then ?_
        refine WC.seq ?_
        refine WC.block ?_
        refine WC.seq ?_
        refine WC.drawn [false, false, false, false, false, false, false] mix (by kernel_rfl) (fun hb => ?_)
        refine Chain.y0 guard_none (fun _ hle => Y0.move rfl) ?_
        obtain ⟨hi1, hr⟩ := hr
        refine Chain.y0 guard_none (fun _ hle => Y0.idxA0 Try.underlying48 sz3 rfl rfl hi1) ?_
        refine Chain.y0 guard_none (fun _ hle => Y0.loadL 2 sc3 rfl rfl (vecG_at _ _ _ hi1)) ?_
        refine Chain.y0 guard_none (fun _ hle => Y0.move rfl) ?_
        obtain ⟨hi2, hr⟩ := hr
        refine Chain.y0 guard_none (fun _ hle => Y0.idxA0 Try.underlying48 sz3 rfl rfl hi2) ?_
        refine Chain.y0 guard_none (fun _ hle => Y0.loadL 3 sc3 rfl rfl (vecG_at _ _ _ hi2)) ?_
        refine Chain.y0 guard_none (fun _ hle => Y0.gtr rfl rfl) ?_
        refine Chain.tail0 hb ?_
        refine WL.nil ?_
        refine WE.nx ?_
        refine WE.then ?_
        refine WC.condD (p := (getF b1 i1) < (getF a1 i1)) rfl (fun hc2 => ?_) (fun hc2 => ?_)
        · replace hr := hr.pos hc2
          refine WC.seq ?_
          refine WC.region ?_
          refine WL.y0' guard_none (Y0.assign rfl) rfl ?_
          refine WL.nil ?_
          refine WE.then ?_
          refine WC.ret ?_
          replace hr : _ = r := hr
          refine WE.inBlockRet ?_
          refine WE.thenRet ?_
          refine WE.thenRet ?_
          refine WE.inBlockRet ?_
          refine WE.endRet ?_
          refine WE.thenRet ?_
          subst hr
          exact WE.ret1 rfl rfl rfl
        · replace hr := hr.neg hc2
          refine WC.skip ?_
          refine WE.inBlock ?_
          refine WE.then ?_
          refine WC.region ?_
          refine WL.y0' guard_none (Y0.move rfl) rfl ?_
          refine WL.y0' guard_none (Y0.add rfl rfl) rfl ?_
          refine WL.y0' guard_none (Y0.assign rfl) rfl ?_
          refine WL.nil ?_
          refine WE.backR ⟨IntKind.i64.wrap (i1 + 1), Gm2⟩ hr Gm2le (Fr.sub_cons rfl (Fr.sub_cons rfl (Fr.sub_cons rfl (Fr.sub_nil _)))) ?_
          · intro w hs
            exact hs.weaken (Lo.sub_cons rfl (Lo.sub_cons rfl (Lo.sub_nil _)))
      · replace hr := hr.neg hc1
        refine WC.exit ?_
        refine WE.thenExit ?_
        refine WE.thenExit ?_
        refine WE.exitHere ?_
        refine WE.endH Gm2 ⟨Gm2le, hr⟩ (Fr.sub_nil _) ?_
        · intro w hs
          exact hs.weaken (Lo.sub_nil _)
  · rintro Gm1 ⟨Gm1le, hr⟩
    refine WE.then ?_
    refine WC.seq ?_
    refine WC.region ?_
    refine WL.y0' guard_none (Y0.assign rfl) rfl ?_
    refine WL.nil ?_
    refine WE.then ?_
    refine WC.ret ?_
    replace hr : _ = r := hr
    subst hr
    exact WE.ret1 rfl rfl rfl
theorem L_R04_lowest (m1 : (Fin 8 → Int)) (l1 : (List (Fin 8 → Int))) (l1p : Option Addr) (l1c : Nat) (r : Bool) (hr : (R04_lowest m1 l1).Ret r) : Ctr Try.prog 56 #[.agg (vecG (Value.int .i64) 8 m1).toArray, .slice l1p l1.length l1c] (fun G => SlR (Rp.vec .i64 8) G (.slice l1p l1.length l1c) l1) (fun G v => v = .bool r) := by
  refine Ctr.enter (args := [_, _]) (N := 26) Try.func56 rfl rfl rfl (fun w0 G0 hL0 hpre => ?_)
  have l1h := hpre
  refine WC.seq ?_
  refine WC.region ?_
  refine WL.box 2 guard_none rfl rfl (fun b1 => ?_)
  refine WL.y0' guard_none (Y0.assign rfl) rfl ?_
  refine WL.nil ?_
  refine WE.then ?_
  refine WC.seq ?_
  refine WC.seq ?_
  refine WC.region ?_
  refine WL.y0' guard_none (Y0.assign rfl) rfl ?_
  refine WL.nil ?_
  refine WE.then ?_
  refine WC.meetH (fun (gx : Mem) => match gx with | Gm1 => []) (fun (gx : Mem) => match gx with | Gm1 => Mem.le G0 Gm1 ∧ (R04_lowest_k1).Ret r) (fun (gx : Mem) => match gx with | Gm1 => St w0 G0 Gm1 []) ?_ ?_
  · refine WC.block ?_
    let Phi1 : (Bool ⊕ Unit) → Prop := fun oo => ((fun ov => match ov with | .inl rv1 => Comp.ret rv1 | .inr () => R04_lowest_k1 : (Bool ⊕ Unit) → Comp Bool) oo).wp (fun a => a = r)
    replace hr : (Comp.loop _ _).wp Phi1 := hr
    refine WC.loopR (Φ := Phi1) (fun (gx : Int × Mem) => match gx with | ⟨i1, Gm2⟩ => (i1 : Int)) (fun (gx : Int × Mem) => match gx with | ⟨i1, Gm2⟩ => [(1, .slice l1p l1.length l1c), (2, .pointer (some ⟨b1, 0, none⟩)), (5, .int .i64 i1)]) (fun (gx : Int × Mem) => match gx with | ⟨i1, Gm2⟩ => Mem.le G0 Gm2) (fun (gx : Int × Mem) => match gx with | ⟨i1, Gm2⟩ => St w0 G0 Gm2 [(2, some ⟨b1, .cells (vecG (Value.int .i64) 8 m1).toArray 48 (0, 0), 0⟩)]) ⟨0, G0⟩ hr (Fr.sub_cons rfl (Fr.sub_cons rfl (Fr.sub_cons rfl (Fr.sub_nil _)))) (Mem.le_refl _) ?_ ?_
    · intro w hs
      exact hs.weaken (Lo.sub_cons rfl (Lo.sub_nil _))
    · intro Aq1 gx hx hr
      obtain ⟨i1, Gm2⟩ := gx
      have Gm2le := hx
      refine WC.seq ?_
      refine WC.seq ?_
      refine WC.region ?_
      refine WL.y0' guard_none (Y0.move rfl) rfl ?_
      refine WL.y0' guard_none (Y0.move rfl) rfl ?_
      refine WL.y0' guard_none (Y0.lenR Try.underlying28 (l1h.mono Gm2le) rfl) rfl ?_
      refine WL.y0' guard_none (Y0.lss rfl rfl) rfl ?_
      refine WL.nil ?_
      refine WE.then ?_
      refine WC.condD (p := i1 < (l1.length : Int)) rfl (fun hc1 => ?_) (fun hc1 => ?_)
      · replace hr := hr.pos hc1
        refine WC.skip ?_
        refine WE.then ?_
        refine WC.seq ?_
        refine WC.block ?_
        refine WC.seq ?_
        refine WC.drawn [false, false, false, false, false, false, false, false, false, false, false, false, false, false] mix (by kernel_rfl) (fun hb => ?_)
        refine Chain.y0 guard_none (fun _ hle => Y0.move rfl) ?_
        refine Chain.y0 guard_none (fun _ hle => Y0.move rfl) ?_
        obtain ⟨x1, hx1, hr⟩ := hr
        refine Chain.y0 guard_none (fun _ hle => Y0.idxR Try.underlying28 sz48 ((l1h.mono Gm2le).mono hle) rfl rfl hx1) ?_
        refine Chain.y0 guard_none (fun _ hle => Y0.loadGA _ ag48 rfl (vecG_size _ _ _) (AtK.vec (At.mono (At.mono (SlR.at l1h hx1) Gm2le) hle))) ?_
        refine Chain.y0 guard_none (fun _ hle => Y0.loadLA 2 ag48 rfl rfl (vecG_size _ _ _)) ?_
        refine Chain.caseY0 (p := ¬ x1 = m1) guard_none (fun _ hle => Y0.neqV Try.underlying48 Try.underlying3 sc3 sz3 eg48 rfl rfl) (fun hb1 => ?_) (fun hb1 => ?_)
        · replace hr := hr.pos hb1
          refine Chain.y0 guard_none (fun _ hle => Y0.move rfl) ?_
          refine Chain.y0 (guard_yes rfl rfl) (fun _ hle => Y0.move rfl) ?_
          refine Chain.y0 (guard_yes rfl rfl) (fun _ hle => Y0.move rfl) ?_
          obtain ⟨x2, hx2, hr⟩ := hr
          refine Chain.y0 (guard_yes rfl rfl) (fun _ hle => Y0.idxR Try.underlying28 sz48 ((l1h.mono Gm2le).mono hle) rfl rfl hx2) ?_
          refine Chain.y0 (guard_yes rfl rfl) (fun _ hle => Y0.loadGA _ ag48 rfl (vecG_size _ _ _) (AtK.vec (At.mono (At.mono (SlR.at l1h hx2) Gm2le) hle))) ?_
          refine Chain.y0 (guard_yes rfl rfl) (fun _ hle => Y0.loadLA 2 ag48 rfl rfl (vecG_size _ _ _)) ?_
          obtain ⟨yv1, hyv1, hr⟩ := hr
          refine Chain.call0 (guard_yes rfl rfl) (fun _ => YC.of E58 rfl) (L_R04_Divides _ _ _ hyv1) rfl (fun G' hle => trivial) ?_
          refine Chain.y0 guard_none (fun _ hle => Y0.pickT rfl rfl) ?_
          refine Chain.tail0 hb ?_
          refine WL.nil ?_
          refine WE.nx ?_
          refine WE.then ?_
          refine WC.cond (b := yv1) rfl (fun hc2 => ?_) (fun hc2 => ?_)
          · replace hr := hr.pos hc2
            refine WC.seq ?_
            refine WC.region ?_
            refine WL.y0' guard_none (Y0.assign rfl) rfl ?_
            refine WL.nil ?_
            refine WE.then ?_
            refine WC.ret ?_
            replace hr : _ = r := hr
            refine WE.inBlockRet ?_
            refine WE.thenRet ?_
            refine WE.thenRet ?_
            refine WE.inBlockRet ?_
            refine WE.endRet ?_
            refine WE.thenRet ?_
            subst hr
            exact WE.ret1 rfl rfl rfl
          · replace hr := hr.neg (Bool.eq_false_iff.1 hc2)
            refine WC.skip ?_
            refine WE.inBlock ?_
            refine WE.then ?_
            refine WC.region ?_
            refine WL.y0' guard_none (Y0.move rfl) rfl ?_
            refine WL.y0' guard_none (Y0.add rfl rfl) rfl ?_
            refine WL.y0' guard_none (Y0.assign rfl) rfl ?_
            refine WL.nil ?_
            refine WE.backR ⟨IntKind.i64.wrap (i1 + 1), Gm2⟩ hr Gm2le (Fr.sub_cons rfl (Fr.sub_cons rfl (Fr.sub_cons rfl (Fr.sub_nil _)))) ?_
            · intro w hs
              exact hs.weaken (Lo.sub_cons rfl (Lo.sub_nil _))
        · replace hr := hr.neg hb1
          refine Chain.y0 guard_none (fun _ hle => Y0.move rfl) ?_
          refine Chain.skip (guard_noT rfl rfl) ?_
          refine Chain.skip (guard_noT rfl rfl) ?_
          refine Chain.skip (guard_noT rfl rfl) ?_
          refine Chain.skip (guard_noT rfl rfl) ?_
          refine Chain.skip (guard_noT rfl rfl) ?_
          refine Chain.skip (guard_noT rfl rfl) ?_
          refine Chain.y0 guard_none (fun _ hle => Y0.pickF rfl rfl) ?_
          refine Chain.tail0 hb ?_
          refine WL.nil ?_
          refine WE.nx ?_
          refine WE.then ?_
          refine WC.condF rfl ?_
          refine WC.skip ?_
          refine WE.inBlock ?_
          refine WE.then ?_
          refine WC.region ?_
          refine WL.y0' guard_none (Y0.move rfl) rfl ?_
          refine WL.y0' guard_none (Y0.add rfl rfl) rfl ?_
          refine WL.y0' guard_none (Y0.assign rfl) rfl ?_
          refine WL.nil ?_
          refine WE.backR ⟨IntKind.i64.wrap (i1 + 1), Gm2⟩ hr Gm2le (Fr.sub_cons rfl (Fr.sub_cons rfl (Fr.sub_cons rfl (Fr.sub_nil _)))) ?_
          · intro w hs
            exact hs.weaken (Lo.sub_cons rfl (Lo.sub_nil _))
      · replace hr := hr.neg hc1
        refine WC.exit ?_
        refine WE.thenExit ?_
        refine WE.thenExit ?_
        refine WE.exitHere ?_
        refine WE.endH Gm2 ⟨Gm2le, hr⟩ (Fr.sub_nil _) ?_
        · intro w hs
          exact hs.weaken (Lo.sub_nil _)
  · rintro Gm1 ⟨Gm1le, hr⟩
    refine WE.then ?_
    refine WC.seq ?_
    refine WC.region ?_
    refine WL.y0' guard_none (Y0.assign rfl) rfl ?_
    refine WL.nil ?_
    refine WE.then ?_
    refine WC.ret ?_
    replace hr : _ = r := hr
    subst hr
    exact WE.ret1 rfl rfl rfl
theorem L_R04_Cmp (a1 : (Fin 8 → Int)) (b1 : (Fin 8 → Int)) (r : Int) (hr : (R04_Cmp a1 b1).Ret r) : Ctr Try.prog 35 #[.agg (vecG (Value.int .i64) 8 a1).toArray, .agg (vecG (Value.int .i64) 8 b1).toArray] (fun G => True) (fun G v => v = .int .i64 r) := by
  refine Ctr.enter (args := [_, _]) (N := 24) Try.func35 rfl rfl rfl (fun w0 G0 hL0 hpre => ?_)
  refine WC.seq ?_
  refine WC.region ?_
  refine WL.box 2 guard_none rfl rfl (fun b2 => ?_)
  refine WL.box 3 guard_none rfl rfl (fun b3 => ?_)
  refine WL.y0' guard_none (Y0.assign rfl) rfl ?_
  refine WL.nil ?_
  refine WE.then ?_
  refine WC.seq ?_
  refine WC.seq ?_
  refine WC.region ?_
  refine WL.y0' guard_none (Y0.assign rfl) rfl ?_
  refine WL.nil ?_
  refine WE.then ?_
  refine WC.meetH (fun (gx : Mem) => match gx with | Gm1 => []) (fun (gx : Mem) => match gx with | Gm1 => Mem.le G0 Gm1 ∧ (R04_Cmp_k1).Ret r) (fun (gx : Mem) => match gx with | Gm1 => St w0 G0 Gm1 []) ?_ ?_
  · refine WC.block ?_
    let Phi1 : (Int ⊕ Unit) → Prop := fun oo => ((fun ov => match ov with | .inl rv1 => Comp.ret rv1 | .inr () => R04_Cmp_k1 : (Int ⊕ Unit) → Comp Int) oo).wp (fun a => a = r)
    replace hr : (Comp.loop _ _).wp Phi1 := hr
    refine WC.loopR (Φ := Phi1) (fun (gx : Int × Mem) => match gx with | ⟨i1, Gm2⟩ => (i1 : Int)) (fun (gx : Int × Mem) => match gx with | ⟨i1, Gm2⟩ => [(2, .pointer (some ⟨b2, 0, none⟩)), (3, .pointer (some ⟨b3, 0, none⟩)), (5, .int .i64 i1)]) (fun (gx : Int × Mem) => match gx with | ⟨i1, Gm2⟩ => Mem.le G0 Gm2) (fun (gx : Int × Mem) => match gx with | ⟨i1, Gm2⟩ => St w0 G0 Gm2 [(2, some ⟨b2, .cells (vecG (Value.int .i64) 8 a1).toArray 48 (0, 0), 0⟩), (3, some ⟨b3, .cells (vecG (Value.int .i64) 8 b1).toArray 48 (0, 0), 0⟩)]) ⟨0, G0⟩ hr (Fr.sub_cons rfl (Fr.sub_cons rfl (Fr.sub_cons rfl (Fr.sub_nil _)))) (Mem.le_refl _) ?_ ?_
    · intro w hs
      exact hs.weaken (Lo.sub_cons rfl (Lo.sub_cons rfl (Lo.sub_nil _)))
    · intro Aq1 gx hx hr
      obtain ⟨i1, Gm2⟩ := gx
      have Gm2le := hx
      refine WC.seq ?_
      refine WC.seq ?_
      refine WC.region ?_
      refine WL.y0' guard_none (Y0.move rfl) rfl ?_
      refine WL.y0' guard_none (Y0.lss rfl rfl) rfl ?_
      refine WL.nil ?_
      refine WE.then ?_
      refine WC.condD (p := i1 < 8) rfl (fun hc1 => ?_) (fun hc1 => ?_)
      · replace hr := hr.pos hc1
        refine WC.skip ?_
        refine WE.then ?_
        refine WC.seq ?_
        refine WC.block ?_
        refine WC.seq ?_
        refine WC.seq ?_
        refine WC.drawn [false, false, false, false, false, false, false] mix (by kernel_rfl) (fun hb => ?_)
        refine Chain.y0 guard_none (fun _ hle => Y0.move rfl) ?_
        obtain ⟨hi1, hr⟩ := hr
        refine Chain.y0 guard_none (fun _ hle => Y0.idxA0 Try.underlying48 sz3 rfl rfl hi1) ?_
        refine Chain.y0 guard_none (fun _ hle => Y0.loadL 2 sc3 rfl rfl (vecG_at _ _ _ hi1)) ?_
        refine Chain.y0 guard_none (fun _ hle => Y0.move rfl) ?_
        obtain ⟨hi2, hr⟩ := hr
        refine Chain.y0 guard_none (fun _ hle => Y0.idxA0 Try.underlying48 sz3 rfl rfl hi2) ?_
        refine Chain.y0 guard_none (fun _ hle => Y0.loadL 3 sc3 rfl rfl (vecG_at _ _ _ hi2)) ?_
        refine Chain.y0 guard_none (fun _ hle => Y0.lss rfl rfl) ?_
        refine Chain.tail0 hb ?_
        refine WL.nil ?_
        refine WE.nx ?_
        refine WE.then ?_
        refine WC.condD (p := (getF a1 i1) < (getF b1 i1)) rfl (fun hc2 => ?_) (fun hc2 => ?_)
        · replace hr := hr.pos hc2
          refine WC.seq ?_
          refine WC.region ?_
          refine WL.y0' guard_none (Y0.assign rfl) rfl ?_
          refine WL.nil ?_
          refine WE.then ?_
          refine WC.ret ?_
          replace hr : _ = r := hr
          refine WE.thenRet ?_
          refine WE.inBlockRet ?_
          refine WE.thenRet ?_
          refine WE.thenRet ?_
          refine WE.inBlockRet ?_
          refine WE.endRet ?_
          refine WE.thenRet ?_
          subst hr
          exact WE.ret1 rfl rfl rfl
        · replace hr := hr.neg hc2
          refine WC.skip ?_
          refine WE.then ?_
          refine WC.seq ?_
          refine WC.drawn [false, false, false, false, false, false, false] mix (by kernel_rfl) (fun hb => ?_)
          refine Chain.y0 guard_none (fun _ hle => Y0.move rfl) ?_
          obtain ⟨hi3, hr⟩ := hr
          refine Chain.y0 guard_none (fun _ hle => Y0.idxA0 Try.underlying48 sz3 rfl rfl hi3) ?_
          refine Chain.y0 guard_none (fun _ hle => Y0.loadL 2 sc3 rfl rfl (vecG_at _ _ _ hi3)) ?_
          refine Chain.y0 guard_none (fun _ hle => Y0.move rfl) ?_
          obtain ⟨hi4, hr⟩ := hr
          refine Chain.y0 guard_none (fun _ hle => Y0.idxA0 Try.underlying48 sz3 rfl rfl hi4) ?_
          refine Chain.y0 guard_none (fun _ hle => Y0.loadL 3 sc3 rfl rfl (vecG_at _ _ _ hi4)) ?_
          refine Chain.y0 guard_none (fun _ hle => Y0.gtr rfl rfl) ?_
          refine Chain.tail0 hb ?_
          refine WL.nil ?_
          refine WE.nx ?_
          refine WE.then ?_
          refine WC.condD (p := (getF b1 i1) < (getF a1 i1)) rfl (fun hc3 => ?_) (fun hc3 => ?_)
          · replace hr := hr.pos hc3
            refine WC.seq ?_
            refine WC.region ?_
            refine WL.y0' guard_none (Y0.assign rfl) rfl ?_
            refine WL.nil ?_
            refine WE.then ?_
            refine WC.ret ?_
            replace hr : _ = r := hr
            refine WE.inBlockRet ?_
            refine WE.thenRet ?_
            refine WE.thenRet ?_
            refine WE.inBlockRet ?_
            refine WE.endRet ?_
            refine WE.thenRet ?_
            subst hr
            exact WE.ret1 rfl rfl rfl
          · replace hr := hr.neg hc3
            refine WC.skip ?_
            refine WE.inBlock ?_
            refine WE.then ?_
            refine WC.region ?_
            refine WL.y0' guard_none (Y0.move rfl) rfl ?_
            refine WL.y0' guard_none (Y0.add rfl rfl) rfl ?_
            refine WL.y0' guard_none (Y0.assign rfl) rfl ?_
            refine WL.nil ?_
            refine WE.backR ⟨IntKind.i64.wrap (i1 + 1), Gm2⟩ hr Gm2le (Fr.sub_cons rfl (Fr.sub_cons rfl (Fr.sub_cons rfl (Fr.sub_nil _)))) ?_
            · intro w hs
              exact hs.weaken (Lo.sub_cons rfl (Lo.sub_cons rfl (Lo.sub_nil _)))
      · replace hr := hr.neg hc1
        refine WC.exit ?_
        refine WE.thenExit ?_
        refine WE.thenExit ?_
        refine WE.exitHere ?_
        refine WE.endH Gm2 ⟨Gm2le, hr⟩ (Fr.sub_nil _) ?_
        · intro w hs
          exact hs.weaken (Lo.sub_nil _)
  · rintro Gm1 ⟨Gm1le, hr⟩
    refine WE.then ?_
    refine WC.seq ?_
    refine WC.region ?_
    refine WL.y0' guard_none (Y0.assign rfl) rfl ?_
    refine WL.nil ?_
    refine WE.then ?_
    refine WC.ret ?_
    replace hr : _ = r := hr
    subst hr
    exact WE.ret1 rfl rfl rfl
theorem L_R04_insert (l1 : (List (Fin 8 → Int))) (m1 : (Fin 8 → Int)) (l1p : Option Addr) (l1c : Nat) (r : (List (Fin 8 → Int))) (hr : (R04_insert l1 m1).Ret r) : Ctr Try.prog 57 #[.slice l1p l1.length l1c, .agg (vecG (Value.int .i64) 8 m1).toArray] (fun G => SlR (Rp.vec .i64 8) G (.slice l1p l1.length l1c) l1) (fun G v => ∃ zp zc, v = .slice zp r.length zc ∧ SlR (Rp.vec .i64 8) G (.slice zp r.length zc) r) := by
  refine Ctr.enter (args := [_, _]) (N := 50) Try.func57 rfl rfl rfl (fun w0 G0 hL0 hpre => ?_)
  have l1h := hpre
  refine WC.seq ?_
  refine WC.region ?_
  refine WL.box 3 guard_none rfl rfl (fun b1 => ?_)
  refine WL.y0' guard_none (Y0.assign rfl) rfl ?_
  refine WL.nil ?_
  refine WE.then ?_
  refine WC.seq ?_
  refine WC.region ?_
  refine WL.litR (e := 48) (r := (Rp.vec .i64 8)) (vs := #[]) (cs := []) ([] : List (Fin 8 → Int)) guard_none rfl rfl rfl rfl (by decide) (fun _ => by kernel_rfl) (rfl) (key := 999) rfl (by rw [hL0]; rfl) (fun p1 Gv1 Gv1le p1h => ?_)
  refine WL.y0' guard_none (Y0.assign rfl) rfl ?_
  refine WL.nil ?_
  refine WE.then ?_
  refine WC.seq ?_
  refine WC.region ?_
  refine WL.y0' guard_none (Y0.assign rfl) rfl ?_
  refine WL.nil ?_
  refine WE.then ?_
  refine WC.seq ?_
  refine WC.seq ?_
  refine WC.region ?_
  refine WL.y0' guard_none (Y0.assign rfl) rfl ?_
  refine WL.nil ?_
  refine WE.then ?_
  refine WC.meetH (fun (gx : (List (Fin 8 → Int)) × Option Addr × Nat × Option Ow × Bool × Mem) => match gx with | ⟨out1, out1p, out1c, out1tk, done1, Gm1⟩ => [(3, .pointer (some ⟨b1, 0, none⟩)), (5, .slice out1p out1.length out1c), (6, .bool done1)]) (fun (gx : (List (Fin 8 → Int)) × Option Addr × Nat × Option Ow × Bool × Mem) => match gx with | ⟨out1, out1p, out1c, out1tk, done1, Gm1⟩ => Mem.le Gv1 Gm1 ∧ SlR (Rp.vec .i64 8) Gm1 (.slice out1p out1.length out1c) out1 ∧ Tok 8 48 (.slice out1p out1.length out1c) out1.length out1tk ∧ (R04_insert_k1 m1 out1 done1).Ret r) (fun (gx : (List (Fin 8 → Int)) × Option Addr × Nat × Option Ow × Bool × Mem) => match gx with | ⟨out1, out1p, out1c, out1tk, done1, Gm1⟩ => St w0 G0 Gm1 [(3, some ⟨b1, .cells (vecG (Value.int .i64) 8 m1).toArray 48 (0, 0), 0⟩), (1005, out1tk)]) ?_ ?_
  · refine WC.block ?_
    let Phi1 : (((List (Fin 8 → Int)) × Bool)) → Prop := fun oo => ((fun ov => match ov with | (out1, done1) => R04_insert_k1 m1 out1 done1 : (((List (Fin 8 → Int)) × Bool)) → Comp ((List (Fin 8 → Int)))) oo).wp (fun a => a = r)
    replace hr : (Comp.loop _ _).wp Phi1 := hr
    refine WC.loopR (Φ := Phi1) (fun (gx : (List (Fin 8 → Int)) × Option Addr × Nat × Option Ow × Bool × Int × Mem) => match gx with | ⟨out2, out2p, out2c, out2tk, done2, i1, Gm2⟩ => ((out2, done2, i1) : (List (Fin 8 → Int)) × Bool × Int)) (fun (gx : (List (Fin 8 → Int)) × Option Addr × Nat × Option Ow × Bool × Int × Mem) => match gx with | ⟨out2, out2p, out2c, out2tk, done2, i1, Gm2⟩ => [(0, .slice l1p l1.length l1c), (3, .pointer (some ⟨b1, 0, none⟩)), (5, .slice out2p out2.length out2c), (6, .bool done2), (7, .int .i64 i1)]) (fun (gx : (List (Fin 8 → Int)) × Option Addr × Nat × Option Ow × Bool × Int × Mem) => match gx with | ⟨out2, out2p, out2c, out2tk, done2, i1, Gm2⟩ => Mem.le Gv1 Gm2 ∧ SlR (Rp.vec .i64 8) Gm2 (.slice out2p out2.length out2c) out2 ∧ Tok 8 48 (.slice out2p out2.length out2c) out2.length out2tk) (fun (gx : (List (Fin 8 → Int)) × Option Addr × Nat × Option Ow × Bool × Int × Mem) => match gx with | ⟨out2, out2p, out2c, out2tk, done2, i1, Gm2⟩ => St w0 G0 Gm2 [(3, some ⟨b1, .cells (vecG (Value.int .i64) 8 m1).toArray 48 (0, 0), 0⟩), (1005, out2tk)]) ⟨[], p1, 0, none, false, 0, Gv1⟩ hr (Fr.sub_cons rfl (Fr.sub_cons rfl (Fr.sub_cons rfl (Fr.sub_cons rfl (Fr.sub_cons rfl (Fr.sub_nil _)))))) ⟨(Mem.le_refl _), p1h, Tok.full⟩ ?_ ?_
    · intro w hs
      exact hs.weaken (Lo.sub_cons rfl (Lo.sub_no (Lo.sub_nil _)))
    · intro Aq1 gx hx hr
      obtain ⟨out2, out2p, out2c, out2tk, done2, i1, Gm2⟩ := gx
      obtain ⟨Gm2le, out2h, out2ht⟩ := hx
      refine WC.seq ?_
      refine WC.seq ?_
      refine WC.region ?_
      refine WL.y0' guard_none (Y0.move rfl) rfl ?_
      refine WL.y0' guard_none (Y0.move rfl) rfl ?_
      refine WL.y0' guard_none (Y0.lenR Try.underlying28 (l1h.mono (Mem.le_trans Gv1le Gm2le)) rfl) rfl ?_
      refine WL.y0' guard_none (Y0.lss rfl rfl) rfl ?_
      refine WL.nil ?_
      refine WE.then ?_
      refine WC.condD (p := i1 < (l1.length : Int)) rfl (fun hc2 => ?_) (fun hc2 => ?_)
      · replace hr := hr.pos hc2
        refine WC.skip ?_
        refine WE.then ?_
        refine WC.seq ?_
        refine WC.block ?_
        refine WC.seq ?_
        refine WC.seq ?_
        refine WC.drawn [false, false, false, false, false, false, false, false, false, false, false] mix (by kernel_rfl) (fun hb => ?_)
        refine Chain.caseY0 (p := done2 = true) guard_none (fun _ hle => Y0.eq (Y0.move rfl) (congrArg Value.bool (bdec _))) (fun hb1 => ?_) (fun hb1 => ?_)
        · replace hr := hr.pos hb1
          refine Chain.y0 guard_none (fun _ hle => Y0.not rfl) ?_
          refine Chain.y0 guard_none (fun _ hle => Y0.move rfl) ?_
          refine Chain.skip (guard_noT rfl rfl) ?_
          refine Chain.skip (guard_noT rfl rfl) ?_
          refine Chain.skip (guard_noT rfl rfl) ?_
          refine Chain.skip (guard_noT rfl rfl) ?_
          refine Chain.skip (guard_noT rfl rfl) ?_
          refine Chain.skip (guard_noT rfl rfl) ?_
          refine Chain.skip (guard_noT rfl rfl) ?_
          refine Chain.y0 guard_none (fun _ hle => Y0.pickF rfl rfl) ?_
          refine Chain.tail0 hb ?_
          refine WL.nil ?_
          refine WE.nx ?_
          refine WE.then ?_
          refine WC.condF rfl ?_
          refine WC.skip ?_
          refine WE.then ?_
          refine WC.region ?_
          refine WL.y0' guard_none (Y0.move rfl) rfl ?_
          refine WL.y0' guard_none (Y0.move rfl) rfl ?_
          refine WL.y0' guard_none (Y0.move rfl) rfl ?_
          obtain ⟨x1, hx1, hr⟩ := hr
          refine WL.y0' guard_none (Y0.idxR Try.underlying28 sz48 (l1h.mono (Mem.le_trans Gv1le Gm2le)) rfl rfl hx1) rfl ?_
          refine WL.y0' guard_none (Y0.loadGA _ ag48 rfl (vecG_size _ _ _) (AtK.vec (At.mono (SlR.at l1h hx1) (Mem.le_trans Gv1le Gm2le)))) rfl ?_
          refine WL.litR (e := 48) (r := (Rp.vec .i64 8)) (vs := #[(0, .agg (vecG (Value.int .i64) 8 x1).toArray)]) (cs := (vecG (Value.int .i64) 8 x1) ++ ([])) ([x1] : List (Fin 8 → Int)) guard_none rfl rfl rfl rfl (by decide) (fun _ => by kernel_rfl) ⟨vecG (Value.int .i64) 8 x1, [], rfl, rfl, rfl⟩ (key := 999) rfl (by rw [hL0]; rfl) (fun p4 Gv4 Gv4le p4h => ?_)
          obtain ⟨hsm2, hr⟩ := hr
          refine WL.appendR (r := (Rp.vec .i64 8)) 1005 guard_none rfl Try.underlying28 el48 rfl (by decide) rfl rfl (out2h.mono Gv4le) rfl (by rw [hL0]; rfl) out2ht p4h hsm2 (fun p5 p5c p5tk Gv5 Gv5le p5h p5ht => ?_)
          refine WL.y0' guard_none (Y0.assign rfl) rfl ?_
          refine WL.nil ?_
          refine WE.inBlock ?_
          refine WE.then ?_
          refine WC.region ?_
          refine WL.y0' guard_none (Y0.move rfl) rfl ?_
          refine WL.y0' guard_none (Y0.add rfl rfl) rfl ?_
          refine WL.y0' guard_none (Y0.assign rfl) rfl ?_
          refine WL.nil ?_
          refine WE.backR ⟨(out2 ++ [x1]), p5, p5c, p5tk, done2, IntKind.i64.wrap (i1 + 1), Gv5⟩ hr ⟨(Mem.le_trans (Mem.le_trans Gm2le Gv4le) Gv5le), p5h, p5ht⟩ (Fr.sub_cons rfl (Fr.sub_cons rfl (Fr.sub_cons rfl (Fr.sub_cons rfl (Fr.sub_cons rfl (Fr.sub_nil _)))))) ?_
          · intro w hs
            exact hs.weaken (Lo.sub_cons rfl (Lo.sub_cons rfl (Lo.sub_nil _)))
        · replace hr := hr.neg hb1
          refine Chain.y0 guard_none (fun _ hle => Y0.not rfl) ?_
          refine Chain.y0 guard_none (fun _ hle => Y0.move rfl) ?_
          refine Chain.y0 (guard_yes rfl rfl) (fun _ hle => Y0.loadLA 3 ag48 rfl rfl (vecG_size _ _ _)) ?_
          refine Chain.y0 (guard_yes rfl rfl) (fun _ hle => Y0.move rfl) ?_
          refine Chain.y0 (guard_yes rfl rfl) (fun _ hle => Y0.move rfl) ?_
          obtain ⟨x2, hx2, hr⟩ := hr
          refine Chain.y0 (guard_yes rfl rfl) (fun _ hle => Y0.idxR Try.underlying28 sz48 ((l1h.mono (Mem.le_trans Gv1le Gm2le)).mono hle) rfl rfl hx2) ?_
          refine Chain.y0 (guard_yes rfl rfl) (fun _ hle => Y0.loadGA _ ag48 rfl (vecG_size _ _ _) (AtK.vec (At.mono (At.mono (SlR.at l1h hx2) (Mem.le_trans Gv1le Gm2le)) hle))) ?_
          obtain ⟨yv1, hyv1, hr⟩ := hr
          refine Chain.call0 (guard_yes rfl rfl) (fun _ => YC.of E35 rfl) (L_R04_Cmp _ _ _ hyv1) rfl (fun G' hle => trivial) ?_
          refine Chain.y0 (guard_yes rfl rfl) (fun _ hle => Y0.geq rfl rfl) ?_
          refine Chain.y0 guard_none (fun _ hle => Y0.pickT rfl rfl) ?_
          refine Chain.tail0 hb ?_
          refine WL.nil ?_
          refine WE.nx ?_
          refine WE.then ?_
          refine WC.condD (p := 0 ≤ yv1) rfl (fun hc3 => ?_) (fun hc3 => ?_)
          · replace hr := hr.pos hc3
            refine WC.seq ?_
            refine WC.region ?_
            refine WL.y0' guard_none (Y0.assign rfl) rfl ?_
            refine WL.nil ?_
            refine WE.then ?_
            refine WC.seq ?_
            refine WC.drawn [false, false, false, false, false, false] mix (by kernel_rfl) (fun hb => ?_)
            refine Chain.y0 guard_none (fun _ hle => Y0.move rfl) ?_
            refine Chain.y0 guard_none (fun _ hle => Y0.move rfl) ?_
            obtain ⟨x3, hx3, hr⟩ := hr
            refine Chain.y0 guard_none (fun _ hle => Y0.idxR Try.underlying28 sz48 ((l1h.mono (Mem.le_trans Gv1le Gm2le)).mono hle) rfl rfl hx3) ?_
            refine Chain.y0 guard_none (fun _ hle => Y0.loadGA _ ag48 rfl (vecG_size _ _ _) (AtK.vec (At.mono (At.mono (SlR.at l1h hx3) (Mem.le_trans Gv1le Gm2le)) hle))) ?_
            refine Chain.y0 guard_none (fun _ hle => Y0.loadLA 3 ag48 rfl rfl (vecG_size _ _ _)) ?_
            refine Chain.y0 guard_none (fun _ hle => Y0.neqV Try.underlying48 Try.underlying3 sc3 sz3 eg48 rfl rfl) ?_
            refine Chain.tail0 hb ?_
            refine WL.nil ?_
            refine WE.nx ?_
            refine WE.then ?_
            refine WC.condD (p := ¬ x3 = m1) rfl (fun hc4 => ?_) (fun hc4 => ?_)
            · replace hr := hr.pos hc4
              refine WC.region ?_
              refine WL.y0' guard_none (Y0.move rfl) rfl ?_
              refine WL.y0' guard_none (Y0.loadLA 3 ag48 rfl rfl (vecG_size _ _ _)) rfl ?_
              refine WL.litR (e := 48) (r := (Rp.vec .i64 8)) (vs := #[(0, .agg (vecG (Value.int .i64) 8 m1).toArray)]) (cs := (vecG (Value.int .i64) 8 m1) ++ ([])) ([m1] : List (Fin 8 → Int)) guard_none rfl rfl rfl rfl (by decide) (fun _ => by kernel_rfl) ⟨vecG (Value.int .i64) 8 m1, [], rfl, rfl, rfl⟩ (key := 999) rfl (by rw [hL0]; rfl) (fun p6 Gv6 Gv6le p6h => ?_)
              obtain ⟨hsm3, hr⟩ := hr
              refine WL.appendR (r := (Rp.vec .i64 8)) 1005 guard_none rfl Try.underlying28 el48 rfl (by decide) rfl rfl (out2h.mono Gv6le) rfl (by rw [hL0]; rfl) out2ht p6h hsm3 (fun p7 p7c p7tk Gv7 Gv7le p7h p7ht => ?_)
              refine WL.y0' guard_none (Y0.assign rfl) rfl ?_
              refine WL.nil ?_
              refine WE.then ?_
              refine WC.region ?_
              refine WL.y0' guard_none (Y0.move rfl) rfl ?_
              refine WL.y0' guard_none (Y0.move rfl) rfl ?_
              refine WL.y0' guard_none (Y0.move rfl) rfl ?_
              obtain ⟨x4, hx4, hr⟩ := hr
              refine WL.y0' guard_none (Y0.idxR Try.underlying28 sz48 (l1h.mono (Mem.le_trans (Mem.le_trans (Mem.le_trans Gv1le Gm2le) Gv6le) Gv7le)) rfl rfl hx4) rfl ?_
              refine WL.y0' guard_none (Y0.loadGA _ ag48 rfl (vecG_size _ _ _) (AtK.vec (At.mono (SlR.at l1h hx4) (Mem.le_trans (Mem.le_trans (Mem.le_trans Gv1le Gm2le) Gv6le) Gv7le)))) rfl ?_
              refine WL.litR (e := 48) (r := (Rp.vec .i64 8)) (vs := #[(0, .agg (vecG (Value.int .i64) 8 x4).toArray)]) (cs := (vecG (Value.int .i64) 8 x4) ++ ([])) ([x4] : List (Fin 8 → Int)) guard_none rfl rfl rfl rfl (by decide) (fun _ => by kernel_rfl) ⟨vecG (Value.int .i64) 8 x4, [], rfl, rfl, rfl⟩ (key := 999) rfl (by rw [hL0]; rfl) (fun p8 Gv8 Gv8le p8h => ?_)
              obtain ⟨hsm4, hr⟩ := hr
              refine WL.appendR (r := (Rp.vec .i64 8)) 1005 guard_none rfl Try.underlying28 el48 rfl (by decide) rfl rfl (p7h.mono Gv8le) rfl (by rw [hL0]; rfl) p7ht p8h hsm4 (fun p9 p9c p9tk Gv9 Gv9le p9h p9ht => ?_)
              refine WL.y0' guard_none (Y0.assign rfl) rfl ?_
              refine WL.nil ?_
              refine WE.inBlock ?_
              refine WE.then ?_
              refine WC.region ?_
              refine WL.y0' guard_none (Y0.move rfl) rfl ?_
              refine WL.y0' guard_none (Y0.add rfl rfl) rfl ?_
              refine WL.y0' guard_none (Y0.assign rfl) rfl ?_
              refine WL.nil ?_
              refine WE.backR ⟨((out2 ++ [m1]) ++ [x4]), p9, p9c, p9tk, true, IntKind.i64.wrap (i1 + 1), Gv9⟩ hr ⟨(Mem.le_trans (Mem.le_trans (Mem.le_trans (Mem.le_trans Gm2le Gv6le) Gv7le) Gv8le) Gv9le), p9h, p9ht⟩ (Fr.sub_cons rfl (Fr.sub_cons rfl (Fr.sub_cons rfl (Fr.sub_cons rfl (Fr.sub_cons rfl (Fr.sub_nil _)))))) ?_
              · intro w hs
                exact hs.weaken (Lo.sub_cons rfl (Lo.sub_cons rfl (Lo.sub_nil _)))
            · replace hr := hr.neg hc4
              refine WC.skip ?_
              refine WE.then ?_
              refine WC.region ?_
              refine WL.y0' guard_none (Y0.move rfl) rfl ?_
              refine WL.y0' guard_none (Y0.move rfl) rfl ?_
              refine WL.y0' guard_none (Y0.move rfl) rfl ?_
              obtain ⟨x5, hx5, hr⟩ := hr
              refine WL.y0' guard_none (Y0.idxR Try.underlying28 sz48 (l1h.mono (Mem.le_trans Gv1le Gm2le)) rfl rfl hx5) rfl ?_
              refine WL.y0' guard_none (Y0.loadGA _ ag48 rfl (vecG_size _ _ _) (AtK.vec (At.mono (SlR.at l1h hx5) (Mem.le_trans Gv1le Gm2le)))) rfl ?_
              refine WL.litR (e := 48) (r := (Rp.vec .i64 8)) (vs := #[(0, .agg (vecG (Value.int .i64) 8 x5).toArray)]) (cs := (vecG (Value.int .i64) 8 x5) ++ ([])) ([x5] : List (Fin 8 → Int)) guard_none rfl rfl rfl rfl (by decide) (fun _ => by kernel_rfl) ⟨vecG (Value.int .i64) 8 x5, [], rfl, rfl, rfl⟩ (key := 999) rfl (by rw [hL0]; rfl) (fun p10 Gv10 Gv10le p10h => ?_)
              obtain ⟨hsm5, hr⟩ := hr
              refine WL.appendR (r := (Rp.vec .i64 8)) 1005 guard_none rfl Try.underlying28 el48 rfl (by decide) rfl rfl (out2h.mono Gv10le) rfl (by rw [hL0]; rfl) out2ht p10h hsm5 (fun p11 p11c p11tk Gv11 Gv11le p11h p11ht => ?_)
              refine WL.y0' guard_none (Y0.assign rfl) rfl ?_
              refine WL.nil ?_
              refine WE.inBlock ?_
              refine WE.then ?_
              refine WC.region ?_
              refine WL.y0' guard_none (Y0.move rfl) rfl ?_
              refine WL.y0' guard_none (Y0.add rfl rfl) rfl ?_
              refine WL.y0' guard_none (Y0.assign rfl) rfl ?_
              refine WL.nil ?_
              refine WE.backR ⟨(out2 ++ [x5]), p11, p11c, p11tk, true, IntKind.i64.wrap (i1 + 1), Gv11⟩ hr ⟨(Mem.le_trans (Mem.le_trans Gm2le Gv10le) Gv11le), p11h, p11ht⟩ (Fr.sub_cons rfl (Fr.sub_cons rfl (Fr.sub_cons rfl (Fr.sub_cons rfl (Fr.sub_cons rfl (Fr.sub_nil _)))))) ?_
              · intro w hs
                exact hs.weaken (Lo.sub_cons rfl (Lo.sub_cons rfl (Lo.sub_nil _)))
          · replace hr := hr.neg hc3
            refine WC.skip ?_
            refine WE.then ?_
            refine WC.region ?_
            refine WL.y0' guard_none (Y0.move rfl) rfl ?_
            refine WL.y0' guard_none (Y0.move rfl) rfl ?_
            refine WL.y0' guard_none (Y0.move rfl) rfl ?_
            obtain ⟨x6, hx6, hr⟩ := hr
            refine WL.y0' guard_none (Y0.idxR Try.underlying28 sz48 (l1h.mono (Mem.le_trans Gv1le Gm2le)) rfl rfl hx6) rfl ?_
            refine WL.y0' guard_none (Y0.loadGA _ ag48 rfl (vecG_size _ _ _) (AtK.vec (At.mono (SlR.at l1h hx6) (Mem.le_trans Gv1le Gm2le)))) rfl ?_
            refine WL.litR (e := 48) (r := (Rp.vec .i64 8)) (vs := #[(0, .agg (vecG (Value.int .i64) 8 x6).toArray)]) (cs := (vecG (Value.int .i64) 8 x6) ++ ([])) ([x6] : List (Fin 8 → Int)) guard_none rfl rfl rfl rfl (by decide) (fun _ => by kernel_rfl) ⟨vecG (Value.int .i64) 8 x6, [], rfl, rfl, rfl⟩ (key := 999) rfl (by rw [hL0]; rfl) (fun p12 Gv12 Gv12le p12h => ?_)
            obtain ⟨hsm6, hr⟩ := hr
            refine WL.appendR (r := (Rp.vec .i64 8)) 1005 guard_none rfl Try.underlying28 el48 rfl (by decide) rfl rfl (out2h.mono Gv12le) rfl (by rw [hL0]; rfl) out2ht p12h hsm6 (fun p13 p13c p13tk Gv13 Gv13le p13h p13ht => ?_)
            refine WL.y0' guard_none (Y0.assign rfl) rfl ?_
            refine WL.nil ?_
            refine WE.inBlock ?_
            refine WE.then ?_
            refine WC.region ?_
            refine WL.y0' guard_none (Y0.move rfl) rfl ?_
            refine WL.y0' guard_none (Y0.add rfl rfl) rfl ?_
            refine WL.y0' guard_none (Y0.assign rfl) rfl ?_
            refine WL.nil ?_
            refine WE.backR ⟨(out2 ++ [x6]), p13, p13c, p13tk, done2, IntKind.i64.wrap (i1 + 1), Gv13⟩ hr ⟨(Mem.le_trans (Mem.le_trans Gm2le Gv12le) Gv13le), p13h, p13ht⟩ (Fr.sub_cons rfl (Fr.sub_cons rfl (Fr.sub_cons rfl (Fr.sub_cons rfl (Fr.sub_cons rfl (Fr.sub_nil _)))))) ?_
            · intro w hs
              exact hs.weaken (Lo.sub_cons rfl (Lo.sub_cons rfl (Lo.sub_nil _)))
      · replace hr := hr.neg hc2
        refine WC.exit ?_
        refine WE.thenExit ?_
        refine WE.thenExit ?_
        refine WE.exitHere ?_
        refine WE.endH ⟨out2, out2p, out2c, out2tk, done2, Gm2⟩ ⟨Gm2le, out2h, out2ht, hr⟩ (Fr.sub_cons rfl (Fr.sub_cons rfl (Fr.sub_cons rfl (Fr.sub_nil _)))) ?_
        · intro w hs
          exact hs.weaken (Lo.sub_cons rfl (Lo.sub_cons rfl (Lo.sub_nil _)))
  · rintro ⟨out1, out1p, out1c, out1tk, done1, Gm1⟩ ⟨Gm1le, out1h, out1ht, hr⟩
    refine WE.then ?_
    refine WC.seq ?_
    refine WC.seq ?_
    refine WC.region ?_
    refine WL.y0' guard_none (Y0.move rfl) rfl ?_
    refine WL.y0' guard_none (Y0.not rfl) rfl ?_
    refine WL.nil ?_
    refine WE.then ?_
    refine WC.cond (b := !done1) rfl (fun hc1 => ?_) (fun hc1 => ?_)
    · replace hr := hr.pos hc1
      refine WC.region ?_
      refine WL.y0' guard_none (Y0.move rfl) rfl ?_
      refine WL.y0' guard_none (Y0.loadLA 3 ag48 rfl rfl (vecG_size _ _ _)) rfl ?_
      refine WL.litR (e := 48) (r := (Rp.vec .i64 8)) (vs := #[(0, .agg (vecG (Value.int .i64) 8 m1).toArray)]) (cs := (vecG (Value.int .i64) 8 m1) ++ ([])) ([m1] : List (Fin 8 → Int)) guard_none rfl rfl rfl rfl (by decide) (fun _ => by kernel_rfl) ⟨vecG (Value.int .i64) 8 m1, [], rfl, rfl, rfl⟩ (key := 999) rfl (by rw [hL0]; rfl) (fun p2 Gv2 Gv2le p2h => ?_)
      obtain ⟨hsm1, hr⟩ := hr
      refine WL.appendR (r := (Rp.vec .i64 8)) 1005 guard_none rfl Try.underlying28 el48 rfl (by decide) rfl rfl (out1h.mono Gv2le) rfl (by rw [hL0]; rfl) out1ht p2h hsm1 (fun p3 p3c p3tk Gv3 Gv3le p3h p3ht => ?_)
      refine WL.y0' guard_none (Y0.assign rfl) rfl ?_
      refine WL.nil ?_
      refine WE.then ?_
      refine WC.seq ?_
      refine WC.region ?_
      refine WL.y0' guard_none (Y0.move rfl) rfl ?_
      refine WL.y0' guard_none (Y0.assign rfl) rfl ?_
      refine WL.nil ?_
      refine WE.then ?_
      refine WC.ret ?_
      replace hr : _ = r := hr
      subst hr
      exact WE.ret1 rfl rfl ⟨_, _, rfl, p3h⟩
    · replace hr := hr.neg (Bool.eq_false_iff.1 hc1)
      refine WC.skip ?_
      refine WE.then ?_
      refine WC.seq ?_
      refine WC.region ?_
      refine WL.y0' guard_none (Y0.move rfl) rfl ?_
      refine WL.y0' guard_none (Y0.assign rfl) rfl ?_
      refine WL.nil ?_
      refine WE.then ?_
      refine WC.ret ?_
      replace hr : _ = r := hr
      subst hr
      exact WE.ret1 rfl rfl ⟨_, _, rfl, out1h⟩
theorem L_R04_Minimal (l1 : (List (Fin 8 → Int))) (l1p : Option Addr) (l1c : Nat) (r : (List (Fin 8 → Int))) (hr : (R04_Minimal l1).Ret r) : Ctr Try.prog 30 #[.slice l1p l1.length l1c] (fun G => SlR (Rp.vec .i64 8) G (.slice l1p l1.length l1c) l1) (fun G v => ∃ zp zc, v = .slice zp r.length zc ∧ SlR (Rp.vec .i64 8) G (.slice zp r.length zc) r) := by
  refine Ctr.enter (args := [_]) (N := 25) Try.func30 rfl rfl rfl (fun w0 G0 hL0 hpre => ?_)
  have l1h := hpre
  refine WC.seq ?_
  refine WC.region ?_
  refine WL.y0' guard_none (Y0.assign rfl) rfl ?_
  refine WL.nil ?_
  refine WE.then ?_
  refine WC.seq ?_
  refine WC.region ?_
  refine WL.litR (e := 48) (r := (Rp.vec .i64 8)) (vs := #[]) (cs := []) ([] : List (Fin 8 → Int)) guard_none rfl rfl rfl rfl (by decide) (fun _ => by kernel_rfl) (rfl) (key := 999) rfl (by rw [hL0]; rfl) (fun p1 Gv1 Gv1le p1h => ?_)
  refine WL.y0' guard_none (Y0.assign rfl) rfl ?_
  refine WL.nil ?_
  refine WE.then ?_
  refine WC.seq ?_
  refine WC.seq ?_
  refine WC.region ?_
  refine WL.y0' guard_none (Y0.assign rfl) rfl ?_
  refine WL.nil ?_
  refine WE.then ?_
  refine WC.meetH (fun (gx : (List (Fin 8 → Int)) × Option Addr × Nat × Mem) => match gx with | ⟨out1, out1p, out1c, Gm1⟩ => [(3, .slice out1p out1.length out1c)]) (fun (gx : (List (Fin 8 → Int)) × Option Addr × Nat × Mem) => match gx with | ⟨out1, out1p, out1c, Gm1⟩ => Mem.le Gv1 Gm1 ∧ SlR (Rp.vec .i64 8) Gm1 (.slice out1p out1.length out1c) out1 ∧ (R04_Minimal_k1 out1).Ret r) (fun (gx : (List (Fin 8 → Int)) × Option Addr × Nat × Mem) => match gx with | ⟨out1, out1p, out1c, Gm1⟩ => St w0 G0 Gm1 []) ?_ ?_
  · refine WC.block ?_
    let Phi1 : (((List (Fin 8 → Int)))) → Prop := fun oo => ((fun ov => match ov with | out1 => R04_Minimal_k1 out1 : (((List (Fin 8 → Int)))) → Comp ((List (Fin 8 → Int)))) oo).wp (fun a => a = r)
    replace hr : (Comp.loop _ _).wp Phi1 := hr
    refine WC.loopR (Φ := Phi1) (fun (gx : (List (Fin 8 → Int)) × Option Addr × Nat × Int × Mem) => match gx with | ⟨out2, out2p, out2c, i1, Gm2⟩ => ((out2, i1) : (List (Fin 8 → Int)) × Int)) (fun (gx : (List (Fin 8 → Int)) × Option Addr × Nat × Int × Mem) => match gx with | ⟨out2, out2p, out2c, i1, Gm2⟩ => [(0, .slice l1p l1.length l1c), (3, .slice out2p out2.length out2c), (4, .int .i64 i1)]) (fun (gx : (List (Fin 8 → Int)) × Option Addr × Nat × Int × Mem) => match gx with | ⟨out2, out2p, out2c, i1, Gm2⟩ => Mem.le Gv1 Gm2 ∧ SlR (Rp.vec .i64 8) Gm2 (.slice out2p out2.length out2c) out2) (fun (gx : (List (Fin 8 → Int)) × Option Addr × Nat × Int × Mem) => match gx with | ⟨out2, out2p, out2c, i1, Gm2⟩ => St w0 G0 Gm2 []) ⟨[], p1, 0, 0, Gv1⟩ hr (Fr.sub_cons rfl (Fr.sub_cons rfl (Fr.sub_cons rfl (Fr.sub_nil _)))) ⟨(Mem.le_refl _), p1h⟩ ?_ ?_
    · intro w hs
      exact hs.weaken (Lo.sub_nil _)
    · intro Aq1 gx hx hr
      obtain ⟨out2, out2p, out2c, i1, Gm2⟩ := gx
      obtain ⟨Gm2le, out2h⟩ := hx
      refine WC.seq ?_
      refine WC.seq ?_
      refine WC.region ?_
      refine WL.y0' guard_none (Y0.move rfl) rfl ?_
      refine WL.y0' guard_none (Y0.move rfl) rfl ?_
      refine WL.y0' guard_none (Y0.lenR Try.underlying28 (l1h.mono (Mem.le_trans Gv1le Gm2le)) rfl) rfl ?_
      refine WL.y0' guard_none (Y0.lss rfl rfl) rfl ?_
      refine WL.nil ?_
      refine WE.then ?_
      refine WC.condD (p := i1 < (l1.length : Int)) rfl (fun hc1 => ?_) (fun hc1 => ?_)
      · replace hr := hr.pos hc1
        refine WC.skip ?_
        refine WE.then ?_
        refine WC.seq ?_
        refine WC.block ?_
        refine WC.seq ?_
        refine WC.region ?_
        refine WL.y0' guard_none (Y0.move rfl) rfl ?_
        refine WL.y0' guard_none (Y0.move rfl) rfl ?_
        obtain ⟨x1, hx1, hr⟩ := hr
        refine WL.y0' guard_none (Y0.idxR Try.underlying28 sz48 (l1h.mono (Mem.le_trans Gv1le Gm2le)) rfl rfl hx1) rfl ?_
        refine WL.y0' guard_none (Y0.loadGA _ ag48 rfl (vecG_size _ _ _) (AtK.vec (At.mono (SlR.at l1h hx1) (Mem.le_trans Gv1le Gm2le)))) rfl ?_
        refine WL.y0' guard_none (Y0.move rfl) rfl ?_
        obtain ⟨yv1, hyv1, hr⟩ := hr
        refine WL.call0 guard_none rfl (YC.of E56 rfl) (L_R04_lowest _ _ _ _ _ hyv1) rfl ((l1h.mono (Mem.le_trans Gv1le Gm2le))) ?_
        refine WL.nil ?_
        refine WE.then ?_
        refine WC.cond (b := yv1) rfl (fun hc2 => ?_) (fun hc2 => ?_)
        · replace hr := hr.pos hc2
          refine WC.region ?_
          refine WL.y0' guard_none (Y0.move rfl) rfl ?_
          refine WL.y0' guard_none (Y0.move rfl) rfl ?_
          refine WL.y0' guard_none (Y0.move rfl) rfl ?_
          obtain ⟨x2, hx2, hr⟩ := hr
          refine WL.y0' guard_none (Y0.idxR Try.underlying28 sz48 (l1h.mono (Mem.le_trans Gv1le Gm2le)) rfl rfl hx2) rfl ?_
          refine WL.y0' guard_none (Y0.loadGA _ ag48 rfl (vecG_size _ _ _) (AtK.vec (At.mono (SlR.at l1h hx2) (Mem.le_trans Gv1le Gm2le)))) rfl ?_
          obtain ⟨yv2, hyv2, hr⟩ := hr
          refine WL.call guard_none rfl (YC.of E57 rfl) (L_R04_insert _ _ _ _ _ hyv2) rfl (out2h) (fun yv2v Gv3 Gv3le yv2post => ?_)
          obtain ⟨yv2p, yv2c, rfl, yv2h⟩ := yv2post
          refine WL.y0' guard_none (Y0.assign rfl) rfl ?_
          refine WL.nil ?_
          refine WE.inBlock ?_
          refine WE.then ?_
          refine WC.region ?_
          refine WL.y0' guard_none (Y0.move rfl) rfl ?_
          refine WL.y0' guard_none (Y0.add rfl rfl) rfl ?_
          refine WL.y0' guard_none (Y0.assign rfl) rfl ?_
          refine WL.nil ?_
          refine WE.backR ⟨yv2, yv2p, yv2c, IntKind.i64.wrap (i1 + 1), Gv3⟩ hr ⟨(Mem.le_trans Gm2le Gv3le), yv2h⟩ (Fr.sub_cons rfl (Fr.sub_cons rfl (Fr.sub_cons rfl (Fr.sub_nil _)))) ?_
          · intro w hs
            exact hs.weaken (Lo.sub_nil _)
        · replace hr := hr.neg (Bool.eq_false_iff.1 hc2)
          refine WC.skip ?_
          refine WE.inBlock ?_
          refine WE.then ?_
          refine WC.region ?_
          refine WL.y0' guard_none (Y0.move rfl) rfl ?_
          refine WL.y0' guard_none (Y0.add rfl rfl) rfl ?_
          refine WL.y0' guard_none (Y0.assign rfl) rfl ?_
          refine WL.nil ?_
          refine WE.backR ⟨out2, out2p, out2c, IntKind.i64.wrap (i1 + 1), Gm2⟩ hr ⟨Gm2le, out2h⟩ (Fr.sub_cons rfl (Fr.sub_cons rfl (Fr.sub_cons rfl (Fr.sub_nil _)))) ?_
          · intro w hs
            exact hs.weaken (Lo.sub_nil _)
      · replace hr := hr.neg hc1
        refine WC.exit ?_
        refine WE.thenExit ?_
        refine WE.thenExit ?_
        refine WE.exitHere ?_
        refine WE.endH ⟨out2, out2p, out2c, Gm2⟩ ⟨Gm2le, out2h, hr⟩ (Fr.sub_cons rfl (Fr.sub_nil _)) ?_
        · intro w hs
          exact hs.weaken (Lo.sub_nil _)
  · rintro ⟨out1, out1p, out1c, Gm1⟩ ⟨Gm1le, out1h, hr⟩
    refine WE.then ?_
    refine WC.seq ?_
    refine WC.region ?_
    refine WL.y0' guard_none (Y0.move rfl) rfl ?_
    refine WL.y0' guard_none (Y0.assign rfl) rfl ?_
    refine WL.nil ?_
    refine WE.then ?_
    refine WC.ret ?_
    replace hr : _ = r := hr
    subst hr
    exact WE.ret1 rfl rfl ⟨_, _, rfl, out1h⟩
theorem L_law21_made (x1 : T_law21_Input) (x1lp : Option Addr) (x1lc : Nat) (r : (List (Fin 8 → Int))) (hr : (law21_made x1).Ret r) : Ctr Try.prog 29 #[.agg ([.slice x1lp x1.l.length x1lc, .int .u8 x1.n]).toArray] (fun G => SlR (Rp.vec .u8 4) G (.slice x1lp x1.l.length x1lc) x1.l) (fun G v => ∃ zp zc, v = .slice zp r.length zc ∧ SlR (Rp.vec .i64 8) G (.slice zp r.length zc) r) := by
  refine Ctr.enter (args := [_]) (N := 10) Try.func29 rfl rfl rfl (fun w0 G0 hL0 hpre => ?_)
  have x1lh := hpre
  refine WC.seq ?_
  refine WC.region ?_
  refine WL.box 1 guard_none rfl rfl (fun b1 => ?_)
  refine WL.y0' guard_none (Y0.assign rfl) rfl ?_
  refine WL.nil ?_
  refine WE.then ?_
  refine WC.seq ?_
  refine WC.region ?_
  refine WL.y0' guard_none (Y0.fieldAddr Try.underlying25 rfl (fun _ => by kernel_rfl) rfl) rfl ?_
  refine WL.y0' guard_none (Y0.loadL 1 sc23 rfl rfl rfl) rfl ?_
  refine WL.y0' guard_none (Y0.fieldAddr Try.underlying25 rfl (fun _ => by kernel_rfl) rfl) rfl ?_
  refine WL.y0' guard_none (Y0.loadL 1 sc5 rfl rfl rfl) rfl ?_
  refine WL.y0' guard_none (Y0.rem rfl rfl (by decide)) rfl ?_
  refine WL.y0' guard_none (Y0.conv Try.underlying5 Try.underlying3 rfl) rfl ?_
  obtain ⟨yv1, hyv1, hr⟩ := hr
  refine WL.call guard_none rfl (YC.of E13 rfl) (L_R18_Made _ _ _ _ _ _ _ hyv1) rfl (x1lh) (fun yv1v Gv1 Gv1le yv1post => ?_)
  obtain ⟨yv1p, yv1c, rfl, yv1h⟩ := yv1post
  refine WL.y0' guard_none (Y0.assign rfl) rfl ?_
  refine WL.nil ?_
  refine WE.then ?_
  refine WC.ret ?_
  replace hr : _ = r := hr
  subst hr
  exact WE.ret1 rfl rfl ⟨_, _, rfl, yv1h⟩
theorem L_law21_all (n1 : Int) (r : (List (Fin 8 → Int))) (hr : (law21_all n1).Ret r) : Ctr Try.prog 31 #[.int .i64 n1] (fun G => True) (fun G v => ∃ zp zc, v = .slice zp r.length zc ∧ SlR (Rp.vec .i64 8) G (.slice zp r.length zc) r) := by
  refine Ctr.enter (args := [_]) (N := 40) Try.func31 rfl rfl rfl (fun w0 G0 hL0 hpre => ?_)
  refine WC.seq ?_
  refine WC.region ?_
  refine WL.y0' guard_none (Y0.assign rfl) rfl ?_
  refine WL.nil ?_
  refine WE.then ?_
  refine WC.seq ?_
  refine WC.region ?_
  refine WL.y0' guard_none (Y0.build (vs := #[]) (v := .agg (vecG (Value.int .i64) 8 (fun _ => 0)).toArray) rfl rfl (fun _ => by kernel_rfl)) rfl ?_
  refine WL.litR (e := 48) (r := (Rp.vec .i64 8)) (vs := #[(0, .agg (vecG (Value.int .i64) 8 (fun _ => 0)).toArray)]) (cs := (vecG (Value.int .i64) 8 (fun _ => 0)) ++ ([])) ([(fun _ => 0)] : List (Fin 8 → Int)) guard_none rfl rfl rfl rfl (by decide) (fun _ => by kernel_rfl) ⟨vecG (Value.int .i64) 8 (fun _ => 0), [], rfl, rfl, rfl⟩ (key := 999) rfl (by rw [hL0]; rfl) (fun p1 Gv1 Gv1le p1h => ?_)
  refine WL.y0' guard_none (Y0.assign rfl) rfl ?_
  refine WL.nil ?_
  refine WE.then ?_
  refine WC.seq ?_
  refine WC.seq ?_
  refine WC.region ?_
  refine WL.y0' guard_none (Y0.assign rfl) rfl ?_
  refine WL.nil ?_
  refine WE.then ?_
  refine WC.meetH (fun (gx : (List (Fin 8 → Int)) × Option Addr × Nat × Mem) => match gx with | ⟨out1, out1p, out1c, Gm1⟩ => [(3, .slice out1p out1.length out1c)]) (fun (gx : (List (Fin 8 → Int)) × Option Addr × Nat × Mem) => match gx with | ⟨out1, out1p, out1c, Gm1⟩ => Mem.le Gv1 Gm1 ∧ SlR (Rp.vec .i64 8) Gm1 (.slice out1p out1.length out1c) out1 ∧ (law21_all_k1 out1).Ret r) (fun (gx : (List (Fin 8 → Int)) × Option Addr × Nat × Mem) => match gx with | ⟨out1, out1p, out1c, Gm1⟩ => St w0 G0 Gm1 []) ?_ ?_
  · refine WC.block ?_
    let Phi1 : (((List (Fin 8 → Int)))) → Prop := fun oo => ((fun ov => match ov with | out1 => law21_all_k1 out1 : (((List (Fin 8 → Int)))) → Comp ((List (Fin 8 → Int)))) oo).wp (fun a => a = r)
    replace hr : (Comp.loop _ _).wp Phi1 := hr
    refine WC.loopR (Φ := Phi1) (fun (gx : (List (Fin 8 → Int)) × Option Addr × Nat × Int × Mem) => match gx with | ⟨out2, out2p, out2c, i1, Gm2⟩ => ((out2, i1) : (List (Fin 8 → Int)) × Int)) (fun (gx : (List (Fin 8 → Int)) × Option Addr × Nat × Int × Mem) => match gx with | ⟨out2, out2p, out2c, i1, Gm2⟩ => [(0, .int .i64 n1), (3, .slice out2p out2.length out2c), (4, .int .i64 i1)]) (fun (gx : (List (Fin 8 → Int)) × Option Addr × Nat × Int × Mem) => match gx with | ⟨out2, out2p, out2c, i1, Gm2⟩ => Mem.le Gv1 Gm2 ∧ SlR (Rp.vec .i64 8) Gm2 (.slice out2p out2.length out2c) out2) (fun (gx : (List (Fin 8 → Int)) × Option Addr × Nat × Int × Mem) => match gx with | ⟨out2, out2p, out2c, i1, Gm2⟩ => St w0 G0 Gm2 []) ⟨[(fun _ => 0)], p1, 1, 0, Gv1⟩ hr (Fr.sub_cons rfl (Fr.sub_cons rfl (Fr.sub_cons rfl (Fr.sub_nil _)))) ⟨(Mem.le_refl _), p1h⟩ ?_ ?_
    · intro w hs
      exact hs.weaken (Lo.sub_nil _)
    · intro Aq1 gx hx hr
      obtain ⟨out2, out2p, out2c, i1, Gm2⟩ := gx
      obtain ⟨Gm2le, out2h⟩ := hx
      refine WC.seq ?_
      refine WC.seq ?_
      refine WC.region ?_
      refine WL.y0' guard_none (Y0.move rfl) rfl ?_
      refine WL.y0' guard_none (Y0.move rfl) rfl ?_
      refine WL.y0' guard_none (Y0.lss rfl rfl) rfl ?_
      refine WL.nil ?_
      refine WE.then ?_
      refine WC.condD (p := i1 < n1) rfl (fun hc1 => ?_) (fun hc1 => ?_)
      · replace hr := hr.pos hc1
        refine WC.skip ?_
        refine WE.then ?_
        refine WC.seq ?_
        refine WC.block ?_
        refine WC.seq ?_
        refine WC.region ?_
        refine WL.litR (e := 48) (r := (Rp.vec .i64 8)) (vs := #[]) (cs := []) ([] : List (Fin 8 → Int)) guard_none rfl rfl rfl rfl (by decide) (fun _ => by kernel_rfl) (rfl) (key := 999) rfl (by rw [hL0]; rfl) (fun p2 Gv2 Gv2le p2h => ?_)
        refine WL.y0' guard_none (Y0.assign rfl) rfl ?_
        refine WL.nil ?_
        refine WE.then ?_
        refine WC.seq ?_
        refine WC.seq ?_
        refine WC.region ?_
        refine WL.y0' guard_none (Y0.assign rfl) rfl ?_
        refine WL.nil ?_
        refine WE.then ?_
        refine WC.meetH (fun (gx : (List (Fin 8 → Int)) × Option Addr × Nat × Option Ow × Mem) => match gx with | ⟨next1, next1p, next1c, next1tk, Gm3⟩ => [(0, .int .i64 n1), (4, .int .i64 i1), (5, .slice next1p next1.length next1c)]) (fun (gx : (List (Fin 8 → Int)) × Option Addr × Nat × Option Ow × Mem) => match gx with | ⟨next1, next1p, next1c, next1tk, Gm3⟩ => Mem.le Gv2 Gm3 ∧ SlR (Rp.vec .i64 8) Gm3 (.slice next1p next1.length next1c) next1 ∧ Tok 8 48 (.slice next1p next1.length next1c) next1.length next1tk ∧ (law21_all_k3 i1 next1).wp (Out Aq1 Phi1)) (fun (gx : (List (Fin 8 → Int)) × Option Addr × Nat × Option Ow × Mem) => match gx with | ⟨next1, next1p, next1c, next1tk, Gm3⟩ => St w0 G0 Gm3 [(1005, next1tk)]) ?_ ?_
        · refine WC.block ?_
          let Phi2 : (((List (Fin 8 → Int)))) → Prop := fun oo => ((fun ov => match ov with | next1 => law21_all_k3 i1 next1 : (((List (Fin 8 → Int)))) → Comp (((List (Fin 8 → Int)) × Int) ⊕ (((List (Fin 8 → Int)))))) oo).wp (Out Aq1 Phi1)
          replace hr : (Comp.loop _ _).wp Phi2 := hr
          refine WC.loopR (Φ := Phi2) (fun (gx : (List (Fin 8 → Int)) × Option Addr × Nat × Option Ow × Int × Mem) => match gx with | ⟨next2, next2p, next2c, next2tk, k1, Gm4⟩ => ((next2, k1) : (List (Fin 8 → Int)) × Int)) (fun (gx : (List (Fin 8 → Int)) × Option Addr × Nat × Option Ow × Int × Mem) => match gx with | ⟨next2, next2p, next2c, next2tk, k1, Gm4⟩ => [(0, .int .i64 n1), (3, .slice out2p out2.length out2c), (4, .int .i64 i1), (5, .slice next2p next2.length next2c), (6, .int .i64 k1)]) (fun (gx : (List (Fin 8 → Int)) × Option Addr × Nat × Option Ow × Int × Mem) => match gx with | ⟨next2, next2p, next2c, next2tk, k1, Gm4⟩ => Mem.le Gv2 Gm4 ∧ SlR (Rp.vec .i64 8) Gm4 (.slice next2p next2.length next2c) next2 ∧ Tok 8 48 (.slice next2p next2.length next2c) next2.length next2tk) (fun (gx : (List (Fin 8 → Int)) × Option Addr × Nat × Option Ow × Int × Mem) => match gx with | ⟨next2, next2p, next2c, next2tk, k1, Gm4⟩ => St w0 G0 Gm4 [(1005, next2tk)]) ⟨[], p2, 0, none, 0, Gv2⟩ hr (Fr.sub_cons rfl (Fr.sub_cons rfl (Fr.sub_cons rfl (Fr.sub_cons rfl (Fr.sub_cons rfl (Fr.sub_nil _)))))) ⟨(Mem.le_refl _), p2h, Tok.full⟩ ?_ ?_
          · intro w hs
            exact hs.weaken (Lo.sub_no (Lo.sub_nil _))
          · intro Aq2 gx hx hr
            obtain ⟨next2, next2p, next2c, next2tk, k1, Gm4⟩ := gx
            obtain ⟨Gm4le, next2h, next2ht⟩ := hx
            refine WC.seq ?_
            refine WC.seq ?_
            refine WC.region ?_
            refine WL.y0' guard_none (Y0.move rfl) rfl ?_
            refine WL.y0' guard_none (Y0.move rfl) rfl ?_
            refine WL.y0' guard_none (Y0.lenR Try.underlying28 (out2h.mono (Mem.le_trans Gv2le Gm4le)) rfl) rfl ?_
            refine WL.y0' guard_none (Y0.lss rfl rfl) rfl ?_
            refine WL.nil ?_
            refine WE.then ?_
            refine WC.condD (p := k1 < (out2.length : Int)) rfl (fun hc2 => ?_) (fun hc2 => ?_)
            · replace hr := hr.pos hc2
              refine WC.skip ?_
              refine WE.then ?_
              refine WC.seq ?_
              refine WC.block ?_
              refine WC.seq ?_
              refine WC.region ?_
              refine WL.y0' guard_none (Y0.assign rfl) rfl ?_
              refine WL.nil ?_
              refine WE.then ?_
              refine WC.meetH (fun (gx : (List (Fin 8 → Int)) × Option Addr × Nat × Option Ow × Mem) => match gx with | ⟨next3, next3p, next3c, next3tk, Gm5⟩ => [(0, .int .i64 n1), (3, .slice out2p out2.length out2c), (4, .int .i64 i1), (5, .slice next3p next3.length next3c), (6, .int .i64 k1)]) (fun (gx : (List (Fin 8 → Int)) × Option Addr × Nat × Option Ow × Mem) => match gx with | ⟨next3, next3p, next3c, next3tk, Gm5⟩ => Mem.le Gm4 Gm5 ∧ SlR (Rp.vec .i64 8) Gm5 (.slice next3p next3.length next3c) next3 ∧ Tok 8 48 (.slice next3p next3.length next3c) next3.length next3tk ∧ (law21_all_k5 k1 next3).wp (Out Aq2 Phi2)) (fun (gx : (List (Fin 8 → Int)) × Option Addr × Nat × Option Ow × Mem) => match gx with | ⟨next3, next3p, next3c, next3tk, Gm5⟩ => St w0 G0 Gm5 [(1005, next3tk)]) ?_ ?_
              · refine WC.block ?_
                let Phi3 : (((List (Fin 8 → Int)))) → Prop := fun oo => ((fun ov => match ov with | next3 => law21_all_k5 k1 next3 : (((List (Fin 8 → Int)))) → Comp (((List (Fin 8 → Int)) × Int) ⊕ (((List (Fin 8 → Int)))))) oo).wp (Out Aq2 Phi2)
                replace hr : (Comp.loop _ _).wp Phi3 := hr
                refine WC.loopR (Φ := Phi3) (fun (gx : (List (Fin 8 → Int)) × Option Addr × Nat × Option Ow × Int × Mem) => match gx with | ⟨next4, next4p, next4c, next4tk, ev1, Gm6⟩ => ((next4, ev1) : (List (Fin 8 → Int)) × Int)) (fun (gx : (List (Fin 8 → Int)) × Option Addr × Nat × Option Ow × Int × Mem) => match gx with | ⟨next4, next4p, next4c, next4tk, ev1, Gm6⟩ => [(0, .int .i64 n1), (3, .slice out2p out2.length out2c), (4, .int .i64 i1), (5, .slice next4p next4.length next4c), (6, .int .i64 k1), (7, .int .i64 ev1)]) (fun (gx : (List (Fin 8 → Int)) × Option Addr × Nat × Option Ow × Int × Mem) => match gx with | ⟨next4, next4p, next4c, next4tk, ev1, Gm6⟩ => Mem.le Gm4 Gm6 ∧ SlR (Rp.vec .i64 8) Gm6 (.slice next4p next4.length next4c) next4 ∧ Tok 8 48 (.slice next4p next4.length next4c) next4.length next4tk) (fun (gx : (List (Fin 8 → Int)) × Option Addr × Nat × Option Ow × Int × Mem) => match gx with | ⟨next4, next4p, next4c, next4tk, ev1, Gm6⟩ => St w0 G0 Gm6 [(1005, next4tk)]) ⟨next2, next2p, next2c, next2tk, 0, Gm4⟩ hr (Fr.sub_cons rfl (Fr.sub_cons rfl (Fr.sub_cons rfl (Fr.sub_cons rfl (Fr.sub_cons rfl (Fr.sub_cons rfl (Fr.sub_nil _))))))) ⟨(Mem.le_refl _), next2h, next2ht⟩ ?_ ?_
                · intro w hs
                  exact hs.weaken (Lo.sub_cons rfl (Lo.sub_nil _))
                · intro Aq3 gx hx hr
                  obtain ⟨next4, next4p, next4c, next4tk, ev1, Gm6⟩ := gx
                  obtain ⟨Gm6le, next4h, next4ht⟩ := hx
                  refine WC.seq ?_
                  refine WC.seq ?_
                  refine WC.region ?_
                  refine WL.y0' guard_none (Y0.move rfl) rfl ?_
                  refine WL.y0' guard_none (Y0.leq rfl rfl) rfl ?_
                  refine WL.nil ?_
                  refine WE.then ?_
                  refine WC.condD (p := ev1 ≤ 4) rfl (fun hc3 => ?_) (fun hc3 => ?_)
                  · replace hr := hr.pos hc3
                    refine WC.skip ?_
                    refine WE.then ?_
                    refine WC.seq ?_
                    refine WC.block ?_
                    refine WC.seq ?_
                    refine WC.region ?_
                    refine WL.y0' guard_none (Y0.move rfl) rfl ?_
                    refine WL.y0' guard_none (Y0.move rfl) rfl ?_
                    obtain ⟨x1, hx1, hr⟩ := hr
                    refine WL.y0' guard_none (Y0.idxR Try.underlying28 sz48 (out2h.mono (Mem.le_trans (Mem.le_trans Gv2le Gm4le) Gm6le)) rfl rfl hx1) rfl ?_
                    refine WL.y0' guard_none (Y0.loadGA _ ag48 rfl (vecG_size _ _ _) (AtK.vec (At.mono (SlR.at out2h hx1) (Mem.le_trans (Mem.le_trans Gv2le Gm4le) Gm6le)))) rfl ?_
                    refine WL.alloc 8 guard_none z48 rfl (fun b1 => ?_)
                    refine WL.storeLA 8 guard_none sz48 rfl rfl rfl (vecG_size _ _ _) (vecG_size _ _ _) (fun u hu => Rp.one (Rp.vec .i64 8) (G := Gm6) (x := x1) (cs := vecG (Value.int .i64) 8 x1) rfl u (by simpa using hu)) ?_
                    refine WL.nil ?_
                    refine WE.then ?_
                    refine WC.seq ?_
                    refine WC.region ?_
                    refine WL.y0' guard_none (Y0.move rfl) rfl ?_
                    refine WL.y0' guard_none (Y0.move rfl) rfl ?_
                    obtain ⟨hi1, hr⟩ := hr
                    refine WL.y0' guard_none (Y0.idxA0 Try.underlying48 sz3 rfl rfl hi1) rfl ?_
                    refine WL.storeL 8 (vecG (Value.int .i64) 8 (setF x1 i1.toNat ev1)).toArray guard_none sz3 rfl rfl rfl (by first | (rw [vecG_size]; omega) | (show _ < (vecG _ _ _).toArray.size; rw [vecG_size]; omega)) rfl (vecG_put _ _ _ _ _) ?_
                    refine WL.nil ?_
                    refine WE.then ?_
                    refine WC.region ?_
                    refine WL.y0' guard_none (Y0.move rfl) rfl ?_
                    refine WL.y0' guard_none (Y0.loadLA 8 ag48 rfl rfl (vecG_size _ _ _)) rfl ?_
                    refine WL.litR (e := 48) (r := (Rp.vec .i64 8)) (vs := #[(0, .agg (vecG (Value.int .i64) 8 (setF x1 i1.toNat ev1)).toArray)]) (cs := (vecG (Value.int .i64) 8 (setF x1 i1.toNat ev1)) ++ ([])) ([setF x1 i1.toNat ev1] : List (Fin 8 → Int)) guard_none rfl rfl rfl rfl (by decide) (fun _ => by kernel_rfl) ⟨vecG (Value.int .i64) 8 (setF x1 i1.toNat ev1), [], rfl, rfl, rfl⟩ (key := 999) rfl (by rw [hL0]; rfl) (fun p3 Gv3 Gv3le p3h => ?_)
                    obtain ⟨hsm1, hr⟩ := hr
                    refine WL.appendR (r := (Rp.vec .i64 8)) 1005 guard_none rfl Try.underlying28 el48 rfl (by decide) rfl rfl (next4h.mono Gv3le) rfl (by rw [hL0]; rfl) next4ht p3h hsm1 (fun p4 p4c p4tk Gv4 Gv4le p4h p4ht => ?_)
                    refine WL.y0' guard_none (Y0.assign rfl) rfl ?_
                    refine WL.nil ?_
                    refine WE.inBlock ?_
                    refine WE.then ?_
                    refine WC.region ?_
                    refine WL.y0' guard_none (Y0.move rfl) rfl ?_
                    refine WL.y0' guard_none (Y0.add rfl rfl) rfl ?_
                    refine WL.y0' guard_none (Y0.assign rfl) rfl ?_
                    refine WL.nil ?_
                    refine WE.backR ⟨(next4 ++ [setF x1 i1.toNat ev1]), p4, p4c, p4tk, IntKind.i64.wrap (ev1 + 1), Gv4⟩ hr ⟨(Mem.le_trans (Mem.le_trans Gm6le Gv3le) Gv4le), p4h, p4ht⟩ (Fr.sub_cons rfl (Fr.sub_cons rfl (Fr.sub_cons rfl (Fr.sub_cons rfl (Fr.sub_cons rfl (Fr.sub_cons rfl (Fr.sub_nil _))))))) ?_
                    · intro w hs
                      exact hs.weaken (Lo.sub_cons rfl (Lo.sub_nil _))
                  · replace hr := hr.neg hc3
                    refine WC.exit ?_
                    refine WE.thenExit ?_
                    refine WE.thenExit ?_
                    refine WE.exitHere ?_
                    refine WE.endH ⟨next4, next4p, next4c, next4tk, Gm6⟩ ⟨Gm6le, next4h, next4ht, hr⟩ (Fr.sub_cons rfl (Fr.sub_cons rfl (Fr.sub_cons rfl (Fr.sub_cons rfl (Fr.sub_cons rfl (Fr.sub_nil _)))))) ?_
                    · intro w hs
                      exact hs.weaken (Lo.sub_cons rfl (Lo.sub_nil _))
              · rintro ⟨next3, next3p, next3c, next3tk, Gm5⟩ ⟨Gm5le, next3h, next3ht, hr⟩
                refine WE.inBlock ?_
                refine WE.then ?_
                refine WC.region ?_
                refine WL.y0' guard_none (Y0.move rfl) rfl ?_
                refine WL.y0' guard_none (Y0.add rfl rfl) rfl ?_
                refine WL.y0' guard_none (Y0.assign rfl) rfl ?_
                refine WL.nil ?_
                refine WE.backR ⟨next3, next3p, next3c, next3tk, IntKind.i64.wrap (k1 + 1), Gm5⟩ hr ⟨(Mem.le_trans Gm4le Gm5le), next3h, next3ht⟩ (Fr.sub_cons rfl (Fr.sub_cons rfl (Fr.sub_cons rfl (Fr.sub_cons rfl (Fr.sub_cons rfl (Fr.sub_nil _)))))) ?_
                · intro w hs
                  exact hs.weaken (Lo.sub_cons rfl (Lo.sub_nil _))
            · replace hr := hr.neg hc2
              refine WC.exit ?_
              refine WE.thenExit ?_
              refine WE.thenExit ?_
              refine WE.exitHere ?_
              refine WE.endH ⟨next2, next2p, next2c, next2tk, Gm4⟩ ⟨Gm4le, next2h, next2ht, hr⟩ (Fr.sub_cons rfl (Fr.sub_cons rfl (Fr.sub_cons rfl (Fr.sub_nil _)))) ?_
              · intro w hs
                exact hs.weaken (Lo.sub_cons rfl (Lo.sub_nil _))
        · rintro ⟨next1, next1p, next1c, next1tk, Gm3⟩ ⟨Gm3le, next1h, next1ht, hr⟩
          refine WE.then ?_
          refine WC.region ?_
          refine WL.y0' guard_none (Y0.move rfl) rfl ?_
          refine WL.y0' guard_none (Y0.assign rfl) rfl ?_
          refine WL.nil ?_
          refine WE.inBlock ?_
          refine WE.then ?_
          refine WC.region ?_
          refine WL.y0' guard_none (Y0.move rfl) rfl ?_
          refine WL.y0' guard_none (Y0.add rfl rfl) rfl ?_
          refine WL.y0' guard_none (Y0.assign rfl) rfl ?_
          refine WL.nil ?_
          refine WE.backR ⟨next1, next1p, next1c, IntKind.i64.wrap (i1 + 1), Gm3⟩ hr ⟨(Mem.le_trans (Mem.le_trans Gm2le Gv2le) Gm3le), next1h⟩ (Fr.sub_cons rfl (Fr.sub_cons rfl (Fr.sub_cons rfl (Fr.sub_nil _)))) ?_
          · intro w hs
            exact hs.weaken (Lo.sub_nil _)
      · replace hr := hr.neg hc1
        refine WC.exit ?_
        refine WE.thenExit ?_
        refine WE.thenExit ?_
        refine WE.exitHere ?_
        refine WE.endH ⟨out2, out2p, out2c, Gm2⟩ ⟨Gm2le, out2h, hr⟩ (Fr.sub_cons rfl (Fr.sub_nil _)) ?_
        · intro w hs
          exact hs.weaken (Lo.sub_nil _)
  · rintro ⟨out1, out1p, out1c, Gm1⟩ ⟨Gm1le, out1h, hr⟩
    refine WE.then ?_
    refine WC.seq ?_
    refine WC.region ?_
    refine WL.y0' guard_none (Y0.move rfl) rfl ?_
    refine WL.y0' guard_none (Y0.assign rfl) rfl ?_
    refine WL.nil ?_
    refine WE.then ?_
    refine WC.ret ?_
    replace hr : _ = r := hr
    subst hr
    exact WE.ret1 rfl rfl ⟨_, _, rfl, out1h⟩
theorem L_R04_Gcd (a1 : (Fin 8 → Int)) (b1 : (Fin 8 → Int)) (r : (Fin 8 → Int)) (hr : (R04_Gcd a1 b1).Ret r) : Ctr Try.prog 60 #[.agg (vecG (Value.int .i64) 8 a1).toArray, .agg (vecG (Value.int .i64) 8 b1).toArray] (fun G => True) (fun G v => v = .agg (vecG (Value.int .i64) 8 r).toArray) := by
  refine Ctr.enter (args := [_, _]) (N := 20) Try.func60 rfl rfl rfl (fun w0 G0 hL0 hpre => ?_)
  refine WC.seq ?_
  refine WC.region ?_
  refine WL.box 2 guard_none rfl rfl (fun b2 => ?_)
  refine WL.box 3 guard_none rfl rfl (fun b3 => ?_)
  refine WL.alloc 4 guard_none z48 rfl (fun b4 => ?_)
  refine WL.nil ?_
  refine WE.then ?_
  refine WC.seq ?_
  refine WC.seq ?_
  refine WC.region ?_
  refine WL.y0' guard_none (Y0.assign rfl) rfl ?_
  refine WL.nil ?_
  refine WE.then ?_
  refine WC.meetH (fun (gx : (Fin 8 → Int) × Mem) => match gx with | ⟨bx1, Gm1⟩ => [(2, .pointer (some ⟨b2, 0, none⟩)), (4, .pointer (some ⟨b4, 0, none⟩))]) (fun (gx : (Fin 8 → Int) × Mem) => match gx with | ⟨bx1, Gm1⟩ => Mem.le G0 Gm1 ∧ (R04_Gcd_k1 bx1).Ret r) (fun (gx : (Fin 8 → Int) × Mem) => match gx with | ⟨bx1, Gm1⟩ => St w0 G0 Gm1 [(2, some ⟨b2, .cells (vecG (Value.int .i64) 8 bx1).toArray 48 (0, 0), 0⟩), (4, some ⟨b4, .cells (vecG (Value.int .i64) 8 (fun _ => 0)).toArray 48 (0, 0), 0⟩)]) ?_ ?_
  · refine WC.block ?_
    let Phi1 : (Fin 8 → Int) → Prop := fun oo => ((fun ov => match ov with | bx1 => R04_Gcd_k1 bx1 : (Fin 8 → Int) → Comp (Fin 8 → Int)) oo).wp (fun a => a = r)
    replace hr : (Comp.loop _ _).wp Phi1 := hr
    refine WC.loopR (Φ := Phi1) (fun (gx : Int × (Fin 8 → Int) × Mem) => match gx with | ⟨i1, bx2, Gm2⟩ => ((i1, bx2) : Int × (Fin 8 → Int))) (fun (gx : Int × (Fin 8 → Int) × Mem) => match gx with | ⟨i1, bx2, Gm2⟩ => [(2, .pointer (some ⟨b2, 0, none⟩)), (3, .pointer (some ⟨b3, 0, none⟩)), (4, .pointer (some ⟨b4, 0, none⟩)), (5, .int .i64 i1)]) (fun (gx : Int × (Fin 8 → Int) × Mem) => match gx with | ⟨i1, bx2, Gm2⟩ => Mem.le G0 Gm2) (fun (gx : Int × (Fin 8 → Int) × Mem) => match gx with | ⟨i1, bx2, Gm2⟩ => St w0 G0 Gm2 [(2, some ⟨b2, .cells (vecG (Value.int .i64) 8 bx2).toArray 48 (0, 0), 0⟩), (3, some ⟨b3, .cells (vecG (Value.int .i64) 8 b1).toArray 48 (0, 0), 0⟩), (4, some ⟨b4, .cells (vecG (Value.int .i64) 8 (fun _ => 0)).toArray 48 (0, 0), 0⟩)]) ⟨0, a1, G0⟩ hr (Fr.sub_cons rfl (Fr.sub_cons rfl (Fr.sub_cons rfl (Fr.sub_cons rfl (Fr.sub_nil _))))) (Mem.le_refl _) ?_ ?_
    · intro w hs
      exact hs.weaken (Lo.sub_cons rfl (Lo.sub_cons rfl (Lo.sub_cons rfl (Lo.sub_nil _))))
    · intro Aq1 gx hx hr
      obtain ⟨i1, bx2, Gm2⟩ := gx
      have Gm2le := hx
      refine WC.seq ?_
      refine WC.seq ?_
      refine WC.region ?_
      refine WL.y0' guard_none (Y0.move rfl) rfl ?_
      refine WL.y0' guard_none (Y0.lss rfl rfl) rfl ?_
      refine WL.nil ?_
      refine WE.then ?_
      refine WC.condD (p := i1 < 8) rfl (fun hc1 => ?_) (fun hc1 => ?_)
      · replace hr := hr.pos hc1
        refine WC.skip ?_
        refine WE.then ?_
        refine WC.seq ?_
        refine WC.block ?_
        refine WC.drawn [false, false, false, false, false, false, false, false, false] mix (by kernel_rfl) (fun hb => ?_)
        refine Chain.y0 guard_none (fun _ hle => Y0.move rfl) ?_
        refine Chain.y0 guard_none (fun _ hle => Y0.move rfl) ?_
        obtain ⟨hi1, hr⟩ := hr
        refine Chain.y0 guard_none (fun _ hle => Y0.idxA0 Try.underlying48 sz3 rfl rfl hi1) ?_
        refine Chain.y0 guard_none (fun _ hle => Y0.loadL 2 sc3 rfl rfl (vecG_at _ _ _ hi1)) ?_
        refine Chain.y0 guard_none (fun _ hle => Y0.move rfl) ?_
        obtain ⟨hi2, hr⟩ := hr
        refine Chain.y0 guard_none (fun _ hle => Y0.idxA0 Try.underlying48 sz3 rfl rfl hi2) ?_
        refine Chain.y0 guard_none (fun _ hle => Y0.loadL 3 sc3 rfl rfl (vecG_at _ _ _ hi2)) ?_
        refine Chain.y0 guard_none (fun _ hle => Y0.min2 rfl rfl) ?_
        obtain ⟨hi3, hr⟩ := hr
        refine Chain.y0 guard_none (fun _ hle => Y0.idxA0 Try.underlying48 sz3 rfl rfl hi3) ?_
        refine Chain.tail0 hb ?_
        refine WL.storeL 2 (vecG (Value.int .i64) 8 (setF bx2 i1.toNat (if (getF b1 i1) < (getF bx2 i1) then (getF b1 i1) else (getF bx2 i1)))).toArray guard_none sz3 rfl rfl rfl (by first | (rw [vecG_size]; omega) | (show _ < (vecG _ _ _).toArray.size; rw [vecG_size]; omega)) rfl (vecG_put _ _ _ _ _) ?_
        refine WL.nil ?_
        refine WE.nx ?_
        refine WE.inBlock ?_
        refine WE.then ?_
        refine WC.region ?_
        refine WL.y0' guard_none (Y0.move rfl) rfl ?_
        refine WL.y0' guard_none (Y0.add rfl rfl) rfl ?_
        refine WL.y0' guard_none (Y0.assign rfl) rfl ?_
        refine WL.nil ?_
        refine WE.backR ⟨IntKind.i64.wrap (i1 + 1), setF bx2 i1.toNat (if (getF b1 i1) < (getF bx2 i1) then (getF b1 i1) else (getF bx2 i1)), Gm2⟩ hr Gm2le (Fr.sub_cons rfl (Fr.sub_cons rfl (Fr.sub_cons rfl (Fr.sub_cons rfl (Fr.sub_nil _))))) ?_
        · intro w hs
          exact hs.weaken (Lo.sub_cons rfl (Lo.sub_cons rfl (Lo.sub_cons rfl (Lo.sub_nil _))))
      · replace hr := hr.neg hc1
        refine WC.exit ?_
        refine WE.thenExit ?_
        refine WE.thenExit ?_
        refine WE.exitHere ?_
        refine WE.endH ⟨bx2, Gm2⟩ ⟨Gm2le, hr⟩ (Fr.sub_cons rfl (Fr.sub_cons rfl (Fr.sub_nil _))) ?_
        · intro w hs
          exact hs.weaken (Lo.sub_cons rfl (Lo.sub_cons rfl (Lo.sub_nil _)))
  · rintro ⟨bx1, Gm1⟩ ⟨Gm1le, hr⟩
    refine WE.then ?_
    refine WC.seq ?_
    refine WC.region ?_
    refine WL.y0' guard_none (Y0.loadLA 2 ag48 rfl rfl (vecG_size _ _ _)) rfl ?_
    refine WL.storeLA 4 guard_none sz48 rfl rfl rfl (vecG_size _ _ _) (vecG_size _ _ _) (fun u hu => Rp.one (Rp.vec .i64 8) (G := Gm1) (x := bx1) (cs := vecG (Value.int .i64) 8 bx1) rfl u (by simpa using hu)) ?_
    refine WL.nil ?_
    refine WE.then ?_
    refine WC.ret ?_
    replace hr : _ = r := hr
    subst hr
    exact WE.ret1 rfl (RV.cellA (i := 4) ag48 rfl rfl (vecG_size _ _ _)) rfl
theorem L_R04_Quo (a1 : (Fin 8 → Int)) (b1 : (Fin 8 → Int)) (r : (Fin 8 → Int) × Bool) (hr : (R04_Quo a1 b1).Ret r) : Ctr Try.prog 59 #[.agg (vecG (Value.int .i64) 8 a1).toArray, .agg (vecG (Value.int .i64) 8 b1).toArray] (fun G => True) (fun G v => v = .tuple #[.agg (vecG (Value.int .i64) 8 r.1).toArray, .bool r.2]) := by
  refine Ctr.enter (args := [_, _]) (N := 25) Try.func59 rfl rfl rfl (fun w0 G0 hL0 hpre => ?_)
  refine WC.seq ?_
  refine WC.region ?_
  refine WL.box 2 guard_none rfl rfl (fun b2 => ?_)
  refine WL.box 3 guard_none rfl rfl (fun b3 => ?_)
  refine WL.alloc 4 guard_none z48 rfl (fun b4 => ?_)
  refine WL.y0' guard_none (Y0.assign rfl) rfl ?_
  refine WL.nil ?_
  refine WE.then ?_
  refine WC.seq ?_
  refine WC.seq ?_
  refine WC.region ?_
  refine WL.y0' guard_none (Y0.loadLA 3 ag48 rfl rfl (vecG_size _ _ _)) rfl ?_
  refine WL.y0' guard_none (Y0.loadLA 2 ag48 rfl rfl (vecG_size _ _ _)) rfl ?_
  obtain ⟨yv1, hyv1, hr⟩ := hr
  refine WL.call0 guard_none rfl (YC.of E58 rfl) (L_R04_Divides _ _ _ hyv1) rfl (trivial) ?_
  refine WL.y0' guard_none (Y0.not rfl) rfl ?_
  refine WL.nil ?_
  refine WE.then ?_
  refine WC.cond (b := !yv1) rfl (fun hc1 => ?_) (fun hc1 => ?_)
  · replace hr := hr.pos hc1
    refine WC.seq ?_
    refine WC.region ?_
    refine WL.y0' guard_none (Y0.build (vs := #[]) (v := .agg (vecG (Value.int .i64) 8 (fun _ => 0)).toArray) rfl rfl (fun _ => by kernel_rfl)) rfl ?_
    refine WL.storeLA 4 guard_none sz48 rfl rfl rfl (vecG_size _ _ _) (vecG_size _ _ _) (fun u hu => Rp.one (Rp.vec .i64 8) (G := G0) (x := (fun _ => 0)) (cs := vecG (Value.int .i64) 8 (fun _ => 0)) rfl u (by simpa using hu)) ?_
    refine WL.y0' guard_none (Y0.assign rfl) rfl ?_
    refine WL.nil ?_
    refine WE.then ?_
    refine WC.ret ?_
    replace hr : _ = r := hr
    refine WE.thenRet ?_
    subst hr
    exact WE.ret2 rfl (RV.cellA (i := 4) ag48 rfl rfl (vecG_size _ _ _)) rfl rfl
  · replace hr := hr.neg (Bool.eq_false_iff.1 hc1)
    refine WC.skip ?_
    refine WE.then ?_
    refine WC.seq ?_
    refine WC.seq ?_
    refine WC.region ?_
    refine WL.y0' guard_none (Y0.assign rfl) rfl ?_
    refine WL.nil ?_
    refine WE.then ?_
    refine WC.meetH (fun (gx : (Fin 8 → Int) × Mem) => match gx with | ⟨bx1, Gm1⟩ => [(2, .pointer (some ⟨b2, 0, none⟩)), (4, .pointer (some ⟨b4, 0, none⟩))]) (fun (gx : (Fin 8 → Int) × Mem) => match gx with | ⟨bx1, Gm1⟩ => Mem.le G0 Gm1 ∧ (R04_Quo_k1 bx1).Ret r) (fun (gx : (Fin 8 → Int) × Mem) => match gx with | ⟨bx1, Gm1⟩ => St w0 G0 Gm1 [(2, some ⟨b2, .cells (vecG (Value.int .i64) 8 bx1).toArray 48 (0, 0), 0⟩), (4, some ⟨b4, .cells (vecG (Value.int .i64) 8 (fun _ => 0)).toArray 48 (0, 0), 0⟩)]) ?_ ?_
    · refine WC.block ?_
      let Phi1 : (Fin 8 → Int) → Prop := fun oo => ((fun ov => match ov with | bx1 => R04_Quo_k1 bx1 : (Fin 8 → Int) → Comp ((Fin 8 → Int) × Bool)) oo).wp (fun a => a = r)
      replace hr : (Comp.loop _ _).wp Phi1 := hr
      refine WC.loopR (Φ := Phi1) (fun (gx : Int × (Fin 8 → Int) × Mem) => match gx with | ⟨i1, bx2, Gm2⟩ => ((i1, bx2) : Int × (Fin 8 → Int))) (fun (gx : Int × (Fin 8 → Int) × Mem) => match gx with | ⟨i1, bx2, Gm2⟩ => [(2, .pointer (some ⟨b2, 0, none⟩)), (3, .pointer (some ⟨b3, 0, none⟩)), (4, .pointer (some ⟨b4, 0, none⟩)), (6, .int .i64 i1)]) (fun (gx : Int × (Fin 8 → Int) × Mem) => match gx with | ⟨i1, bx2, Gm2⟩ => Mem.le G0 Gm2) (fun (gx : Int × (Fin 8 → Int) × Mem) => match gx with | ⟨i1, bx2, Gm2⟩ => St w0 G0 Gm2 [(2, some ⟨b2, .cells (vecG (Value.int .i64) 8 bx2).toArray 48 (0, 0), 0⟩), (3, some ⟨b3, .cells (vecG (Value.int .i64) 8 b1).toArray 48 (0, 0), 0⟩), (4, some ⟨b4, .cells (vecG (Value.int .i64) 8 (fun _ => 0)).toArray 48 (0, 0), 0⟩)]) ⟨0, a1, G0⟩ hr (Fr.sub_cons rfl (Fr.sub_cons rfl (Fr.sub_cons rfl (Fr.sub_cons rfl (Fr.sub_nil _))))) (Mem.le_refl _) ?_ ?_
      · intro w hs
        exact hs.weaken (Lo.sub_cons rfl (Lo.sub_cons rfl (Lo.sub_cons rfl (Lo.sub_nil _))))
      · intro Aq1 gx hx hr
        obtain ⟨i1, bx2, Gm2⟩ := gx
        have Gm2le := hx
        refine WC.seq ?_
        refine WC.seq ?_
        refine WC.region ?_
        refine WL.y0' guard_none (Y0.move rfl) rfl ?_
        refine WL.y0' guard_none (Y0.lss rfl rfl) rfl ?_
        refine WL.nil ?_
        refine WE.then ?_
        refine WC.condD (p := i1 < 8) rfl (fun hc2 => ?_) (fun hc2 => ?_)
        · replace hr := hr.pos hc2
          refine WC.skip ?_
          refine WE.then ?_
          refine WC.seq ?_
          refine WC.block ?_
          refine WC.drawn [false, false, false, false, false, false, false, false] mix (by kernel_rfl) (fun hb => ?_)
          refine Chain.y0 guard_none (fun _ hle => Y0.move rfl) ?_
          obtain ⟨hi1, hr⟩ := hr
          refine Chain.y0 guard_none (fun _ hle => Y0.idxA0 Try.underlying48 sz3 rfl rfl hi1) ?_
          refine Chain.y0 guard_none (fun _ hle => Y0.loadL 2 sc3 rfl rfl (vecG_at _ _ _ hi1)) ?_
          refine Chain.y0 guard_none (fun _ hle => Y0.move rfl) ?_
          obtain ⟨hi2, hr⟩ := hr
          refine Chain.y0 guard_none (fun _ hle => Y0.idxA0 Try.underlying48 sz3 rfl rfl hi2) ?_
          refine Chain.y0 guard_none (fun _ hle => Y0.loadL 3 sc3 rfl rfl (vecG_at _ _ _ hi2)) ?_
          refine Chain.y0 guard_none (fun _ hle => Y0.sub rfl rfl) ?_
          obtain ⟨hi3, hr⟩ := hr
          refine Chain.y0 guard_none (fun _ hle => Y0.idxA0 Try.underlying48 sz3 rfl rfl hi3) ?_
          refine Chain.tail0 hb ?_
          refine WL.storeL 2 (vecG (Value.int .i64) 8 (setF bx2 i1.toNat (IntKind.i64.wrap ((getF bx2 i1) - (getF b1 i1))))).toArray guard_none sz3 rfl rfl rfl (by first | (rw [vecG_size]; omega) | (show _ < (vecG _ _ _).toArray.size; rw [vecG_size]; omega)) rfl (vecG_put _ _ _ _ _) ?_
          refine WL.nil ?_
          refine WE.nx ?_
          refine WE.inBlock ?_
          refine WE.then ?_
          refine WC.region ?_
          refine WL.y0' guard_none (Y0.move rfl) rfl ?_
          refine WL.y0' guard_none (Y0.add rfl rfl) rfl ?_
          refine WL.y0' guard_none (Y0.assign rfl) rfl ?_
          refine WL.nil ?_
          refine WE.backR ⟨IntKind.i64.wrap (i1 + 1), setF bx2 i1.toNat (IntKind.i64.wrap ((getF bx2 i1) - (getF b1 i1))), Gm2⟩ hr Gm2le (Fr.sub_cons rfl (Fr.sub_cons rfl (Fr.sub_cons rfl (Fr.sub_cons rfl (Fr.sub_nil _))))) ?_
          · intro w hs
            exact hs.weaken (Lo.sub_cons rfl (Lo.sub_cons rfl (Lo.sub_cons rfl (Lo.sub_nil _))))
        · replace hr := hr.neg hc2
          refine WC.exit ?_
          refine WE.thenExit ?_
          refine WE.thenExit ?_
          refine WE.exitHere ?_
          refine WE.endH ⟨bx2, Gm2⟩ ⟨Gm2le, hr⟩ (Fr.sub_cons rfl (Fr.sub_cons rfl (Fr.sub_nil _))) ?_
          · intro w hs
            exact hs.weaken (Lo.sub_cons rfl (Lo.sub_cons rfl (Lo.sub_nil _)))
    · rintro ⟨bx1, Gm1⟩ ⟨Gm1le, hr⟩
      refine WE.then ?_
      refine WC.seq ?_
      refine WC.region ?_
      refine WL.y0' guard_none (Y0.loadLA 2 ag48 rfl rfl (vecG_size _ _ _)) rfl ?_
      refine WL.storeLA 4 guard_none sz48 rfl rfl rfl (vecG_size _ _ _) (vecG_size _ _ _) (fun u hu => Rp.one (Rp.vec .i64 8) (G := Gm1) (x := bx1) (cs := vecG (Value.int .i64) 8 bx1) rfl u (by simpa using hu)) ?_
      refine WL.y0' guard_none (Y0.assign rfl) rfl ?_
      refine WL.nil ?_
      refine WE.then ?_
      refine WC.ret ?_
      replace hr : _ = r := hr
      subst hr
      exact WE.ret2 rfl (RV.cellA (i := 4) ag48 rfl rfl (vecG_size _ _ _)) rfl rfl
theorem L_R18_Colon (l1 : (List (Fin 8 → Int))) (m1 : (Fin 8 → Int)) (l1p : Option Addr) (l1c : Nat) (r : (List (Fin 8 → Int))) (hr : (R18_Colon l1 m1).Ret r) : Ctr Try.prog 37 #[.slice l1p l1.length l1c, .agg (vecG (Value.int .i64) 8 m1).toArray] (fun G => SlR (Rp.vec .i64 8) G (.slice l1p l1.length l1c) l1) (fun G v => ∃ zp zc, v = .slice zp r.length zc ∧ SlR (Rp.vec .i64 8) G (.slice zp r.length zc) r) := by
  refine Ctr.enter (args := [_, _]) (N := 36) Try.func37 rfl rfl rfl (fun w0 G0 hL0 hpre => ?_)
  have l1h := hpre
  refine WC.seq ?_
  refine WC.region ?_
  refine WL.box 3 guard_none rfl rfl (fun b1 => ?_)
  refine WL.y0' guard_none (Y0.assign rfl) rfl ?_
  refine WL.nil ?_
  refine WE.then ?_
  refine WC.seq ?_
  refine WC.region ?_
  refine WL.litR (e := 48) (r := (Rp.vec .i64 8)) (vs := #[]) (cs := []) ([] : List (Fin 8 → Int)) guard_none rfl rfl rfl rfl (by decide) (fun _ => by kernel_rfl) (rfl) (key := 999) rfl (by rw [hL0]; rfl) (fun p1 Gv1 Gv1le p1h => ?_)
  refine WL.y0' guard_none (Y0.assign rfl) rfl ?_
  refine WL.nil ?_
  refine WE.then ?_
  refine WC.seq ?_
  refine WC.seq ?_
  refine WC.region ?_
  refine WL.y0' guard_none (Y0.assign rfl) rfl ?_
  refine WL.nil ?_
  refine WE.then ?_
  refine WC.meetH (fun (gx : (List (Fin 8 → Int)) × Option Addr × Nat × Option Ow × Mem) => match gx with | ⟨out1, out1p, out1c, out1tk, Gm1⟩ => [(5, .slice out1p out1.length out1c)]) (fun (gx : (List (Fin 8 → Int)) × Option Addr × Nat × Option Ow × Mem) => match gx with | ⟨out1, out1p, out1c, out1tk, Gm1⟩ => Mem.le Gv1 Gm1 ∧ SlR (Rp.vec .i64 8) Gm1 (.slice out1p out1.length out1c) out1 ∧ Tok 8 48 (.slice out1p out1.length out1c) out1.length out1tk ∧ (R18_Colon_k1 out1).Ret r) (fun (gx : (List (Fin 8 → Int)) × Option Addr × Nat × Option Ow × Mem) => match gx with | ⟨out1, out1p, out1c, out1tk, Gm1⟩ => St w0 G0 Gm1 [(1005, out1tk)]) ?_ ?_
  · refine WC.block ?_
    let Phi1 : (((List (Fin 8 → Int)))) → Prop := fun oo => ((fun ov => match ov with | out1 => R18_Colon_k1 out1 : (((List (Fin 8 → Int)))) → Comp ((List (Fin 8 → Int)))) oo).wp (fun a => a = r)
    replace hr : (Comp.loop _ _).wp Phi1 := hr
    refine WC.loopR (Φ := Phi1) (fun (gx : (List (Fin 8 → Int)) × Option Addr × Nat × Option Ow × Int × Mem) => match gx with | ⟨out2, out2p, out2c, out2tk, i1, Gm2⟩ => ((out2, i1) : (List (Fin 8 → Int)) × Int)) (fun (gx : (List (Fin 8 → Int)) × Option Addr × Nat × Option Ow × Int × Mem) => match gx with | ⟨out2, out2p, out2c, out2tk, i1, Gm2⟩ => [(0, .slice l1p l1.length l1c), (3, .pointer (some ⟨b1, 0, none⟩)), (5, .slice out2p out2.length out2c), (6, .int .i64 i1)]) (fun (gx : (List (Fin 8 → Int)) × Option Addr × Nat × Option Ow × Int × Mem) => match gx with | ⟨out2, out2p, out2c, out2tk, i1, Gm2⟩ => Mem.le Gv1 Gm2 ∧ SlR (Rp.vec .i64 8) Gm2 (.slice out2p out2.length out2c) out2 ∧ Tok 8 48 (.slice out2p out2.length out2c) out2.length out2tk) (fun (gx : (List (Fin 8 → Int)) × Option Addr × Nat × Option Ow × Int × Mem) => match gx with | ⟨out2, out2p, out2c, out2tk, i1, Gm2⟩ => St w0 G0 Gm2 [(3, some ⟨b1, .cells (vecG (Value.int .i64) 8 m1).toArray 48 (0, 0), 0⟩), (1005, out2tk)]) ⟨[], p1, 0, none, 0, Gv1⟩ hr (Fr.sub_cons rfl (Fr.sub_cons rfl (Fr.sub_cons rfl (Fr.sub_cons rfl (Fr.sub_nil _))))) ⟨(Mem.le_refl _), p1h, Tok.full⟩ ?_ ?_
    · intro w hs
      exact hs.weaken (Lo.sub_cons rfl (Lo.sub_no (Lo.sub_nil _)))
    · intro Aq1 gx hx hr
      obtain ⟨out2, out2p, out2c, out2tk, i1, Gm2⟩ := gx
      obtain ⟨Gm2le, out2h, out2ht⟩ := hx
      refine WC.seq ?_
      refine WC.seq ?_
      refine WC.region ?_
      refine WL.y0' guard_none (Y0.move rfl) rfl ?_
      refine WL.y0' guard_none (Y0.move rfl) rfl ?_
      refine WL.y0' guard_none (Y0.lenR Try.underlying28 (l1h.mono (Mem.le_trans Gv1le Gm2le)) rfl) rfl ?_
      refine WL.y0' guard_none (Y0.lss rfl rfl) rfl ?_
      refine WL.nil ?_
      refine WE.then ?_
      refine WC.condD (p := i1 < (l1.length : Int)) rfl (fun hc1 => ?_) (fun hc1 => ?_)
      · replace hr := hr.pos hc1
        refine WC.skip ?_
        refine WE.then ?_
        refine WC.seq ?_
        refine WC.block ?_
        refine WC.seq ?_
        refine WC.drawn [false, false, false, false, false, false, false, false, false, false, false, false, false, true, false] mix (by kernel_rfl) (fun hb => ?_)
        refine Chain.y0 guard_none (fun _ hle => Y0.move rfl) ?_
        refine Chain.y0 guard_none (fun _ hle => Y0.move rfl) ?_
        obtain ⟨x1, hx1, hr⟩ := hr
        refine Chain.y0 guard_none (fun _ hle => Y0.idxR Try.underlying28 sz48 ((l1h.mono (Mem.le_trans Gv1le Gm2le)).mono hle) rfl rfl hx1) ?_
        refine Chain.y0 guard_none (fun _ hle => Y0.loadGA _ ag48 rfl (vecG_size _ _ _) (AtK.vec (At.mono (At.mono (SlR.at l1h hx1) (Mem.le_trans Gv1le Gm2le)) hle))) ?_
        refine Chain.y0 guard_none (fun _ hle => Y0.move rfl) ?_
        refine Chain.y0 guard_none (fun _ hle => Y0.move rfl) ?_
        obtain ⟨x2, hx2, hr⟩ := hr
        refine Chain.y0 guard_none (fun _ hle => Y0.idxR Try.underlying28 sz48 ((l1h.mono (Mem.le_trans Gv1le Gm2le)).mono hle) rfl rfl hx2) ?_
        refine Chain.y0 guard_none (fun _ hle => Y0.loadGA _ ag48 rfl (vecG_size _ _ _) (AtK.vec (At.mono (At.mono (SlR.at l1h hx2) (Mem.le_trans Gv1le Gm2le)) hle))) ?_
        refine Chain.y0 guard_none (fun _ hle => Y0.loadLA 3 ag48 rfl rfl (vecG_size _ _ _)) ?_
        obtain ⟨yv2, hyv2, hr⟩ := hr
        refine Chain.call0 guard_none (fun _ => YC.of E60 rfl) (L_R04_Gcd _ _ _ hyv2) rfl (fun G' hle => trivial) ?_
        obtain ⟨yv3, hyv3, hr⟩ := hr
        refine Chain.call0 guard_none (fun _ => YC.of E59 rfl) (L_R04_Quo _ _ _ hyv3) rfl (fun G' hle => trivial) ?_
        refine Chain.y0 guard_none (fun _ hle => Y0.move rfl) ?_
        refine Chain.y0 guard_none (fun _ hle => Y0.extract rfl rfl) ?_
        refine Chain.float guard_none (Y0.extract rfl rfl) ?_
        refine Chain.alloc (fun _ => guard_none) z48 ?_
        refine Chain.tail1 hb (fun b2 => ?_)
        refine WL.storeLA 7 guard_none sz48 rfl rfl rfl (vecG_size _ _ _) (vecG_size _ _ _) (fun u hu => Rp.one (Rp.vec .i64 8) (G := Gm2) (x := yv3.1) (cs := vecG (Value.int .i64) 8 yv3.1) rfl u (by simpa using hu)) ?_
        refine WL.y0' guard_none (Y0.assign rfl) rfl ?_
        refine WL.nil ?_
        refine WE.nx ?_
        refine WE.then ?_
        refine WC.region ?_
        refine WL.y0' guard_none (Y0.move rfl) rfl ?_
        refine WL.y0' guard_none (Y0.loadLA 7 ag48 rfl rfl (vecG_size _ _ _)) rfl ?_
        refine WL.litR (e := 48) (r := (Rp.vec .i64 8)) (vs := #[(0, .agg (vecG (Value.int .i64) 8 yv3.1).toArray)]) (cs := (vecG (Value.int .i64) 8 yv3.1) ++ ([])) ([yv3.1] : List (Fin 8 → Int)) guard_none rfl rfl rfl rfl (by decide) (fun _ => by kernel_rfl) ⟨vecG (Value.int .i64) 8 yv3.1, [], rfl, rfl, rfl⟩ (key := 999) rfl (by rw [hL0]; rfl) (fun p2 Gv3 Gv3le p2h => ?_)
        obtain ⟨hsm1, hr⟩ := hr
        refine WL.appendR (r := (Rp.vec .i64 8)) 1005 guard_none rfl Try.underlying28 el48 rfl (by decide) rfl rfl (out2h.mono Gv3le) rfl (by rw [hL0]; rfl) out2ht p2h hsm1 (fun p3 p3c p3tk Gv4 Gv4le p3h p3ht => ?_)
        refine WL.y0' guard_none (Y0.assign rfl) rfl ?_
        refine WL.nil ?_
        refine WE.inBlock ?_
        refine WE.then ?_
        refine WC.region ?_
        refine WL.y0' guard_none (Y0.move rfl) rfl ?_
        refine WL.y0' guard_none (Y0.add rfl rfl) rfl ?_
        refine WL.y0' guard_none (Y0.assign rfl) rfl ?_
        refine WL.nil ?_
        refine WE.backR ⟨(out2 ++ [yv3.1]), p3, p3c, p3tk, IntKind.i64.wrap (i1 + 1), Gv4⟩ hr ⟨(Mem.le_trans (Mem.le_trans Gm2le Gv3le) Gv4le), p3h, p3ht⟩ (Fr.sub_cons rfl (Fr.sub_cons rfl (Fr.sub_cons rfl (Fr.sub_cons rfl (Fr.sub_nil _))))) ?_
        · intro w hs
          exact hs.weaken (Lo.sub_cons rfl (Lo.sub_cons rfl (Lo.sub_nil _)))
      · replace hr := hr.neg hc1
        refine WC.exit ?_
        refine WE.thenExit ?_
        refine WE.thenExit ?_
        refine WE.exitHere ?_
        refine WE.endH ⟨out2, out2p, out2c, out2tk, Gm2⟩ ⟨Gm2le, out2h, out2ht, hr⟩ (Fr.sub_cons rfl (Fr.sub_nil _)) ?_
        · intro w hs
          exact hs.weaken (Lo.sub_cons rfl (Lo.sub_nil _))
  · rintro ⟨out1, out1p, out1c, out1tk, Gm1⟩ ⟨Gm1le, out1h, out1ht, hr⟩
    refine WE.then ?_
    refine WC.seq ?_
    refine WC.region ?_
    refine WL.y0' guard_none (Y0.move rfl) rfl ?_
    obtain ⟨yv1, hyv1, hr⟩ := hr
    refine WL.call guard_none rfl (YC.of E30 rfl) (L_R04_Minimal _ _ _ _ hyv1) rfl (out1h) (fun yv1v Gv2 Gv2le yv1post => ?_)
    obtain ⟨yv1p, yv1c, rfl, yv1h⟩ := yv1post
    refine WL.y0' guard_none (Y0.assign rfl) rfl ?_
    refine WL.nil ?_
    refine WE.then ?_
    refine WC.ret ?_
    replace hr : _ = r := hr
    subst hr
    exact WE.ret1 rfl rfl ⟨_, _, rfl, yv1h⟩
theorem L_R04_Degree (m1 : (Fin 8 → Int)) (r : Int) (hr : (R04_Degree m1).Ret r) : Ctr Try.prog 38 #[.agg (vecG (Value.int .i64) 8 m1).toArray] (fun G => True) (fun G v => v = .int .i64 r) := by
  refine Ctr.enter (args := [_]) (N := 15) Try.func38 rfl rfl rfl (fun w0 G0 hL0 hpre => ?_)
  refine WC.seq ?_
  refine WC.region ?_
  refine WL.box 1 guard_none rfl rfl (fun b1 => ?_)
  refine WL.y0' guard_none (Y0.assign rfl) rfl ?_
  refine WL.nil ?_
  refine WE.then ?_
  refine WC.seq ?_
  refine WC.region ?_
  refine WL.y0' guard_none (Y0.assign rfl) rfl ?_
  refine WL.nil ?_
  refine WE.then ?_
  refine WC.seq ?_
  refine WC.seq ?_
  refine WC.region ?_
  refine WL.y0' guard_none (Y0.assign rfl) rfl ?_
  refine WL.nil ?_
  refine WE.then ?_
  refine WC.meetH (fun (gx : Int × Mem) => match gx with | ⟨n1, Gm1⟩ => [(3, .int .i64 n1)]) (fun (gx : Int × Mem) => match gx with | ⟨n1, Gm1⟩ => Mem.le G0 Gm1 ∧ (R04_Degree_k1 n1).Ret r) (fun (gx : Int × Mem) => match gx with | ⟨n1, Gm1⟩ => St w0 G0 Gm1 []) ?_ ?_
  · refine WC.block ?_
    let Phi1 : Int → Prop := fun oo => ((fun ov => match ov with | n1 => R04_Degree_k1 n1 : Int → Comp Int) oo).wp (fun a => a = r)
    replace hr : (Comp.loop _ _).wp Phi1 := hr
    refine WC.loopR (Φ := Phi1) (fun (gx : Int × Int × Mem) => match gx with | ⟨n2, i1, Gm2⟩ => ((n2, i1) : Int × Int)) (fun (gx : Int × Int × Mem) => match gx with | ⟨n2, i1, Gm2⟩ => [(1, .pointer (some ⟨b1, 0, none⟩)), (3, .int .i64 n2), (4, .int .i64 i1)]) (fun (gx : Int × Int × Mem) => match gx with | ⟨n2, i1, Gm2⟩ => Mem.le G0 Gm2) (fun (gx : Int × Int × Mem) => match gx with | ⟨n2, i1, Gm2⟩ => St w0 G0 Gm2 [(1, some ⟨b1, .cells (vecG (Value.int .i64) 8 m1).toArray 48 (0, 0), 0⟩)]) ⟨0, 0, G0⟩ hr (Fr.sub_cons rfl (Fr.sub_cons rfl (Fr.sub_cons rfl (Fr.sub_nil _)))) (Mem.le_refl _) ?_ ?_
    · intro w hs
      exact hs.weaken (Lo.sub_cons rfl (Lo.sub_nil _))
    · intro Aq1 gx hx hr
      obtain ⟨n2, i1, Gm2⟩ := gx
      have Gm2le := hx
      refine WC.seq ?_
      refine WC.seq ?_
      refine WC.region ?_
      refine WL.y0' guard_none (Y0.move rfl) rfl ?_
      refine WL.y0' guard_none (Y0.lss rfl rfl) rfl ?_
      refine WL.nil ?_
      refine WE.then ?_
      refine WC.condD (p := i1 < 8) rfl (fun hc1 => ?_) (fun hc1 => ?_)
      · replace hr := hr.pos hc1
        refine WC.skip ?_
        refine WE.then ?_
        refine WC.seq ?_
        refine WC.block ?_
        refine WC.region ?_
        refine WL.y0' guard_none (Y0.move rfl) rfl ?_
        refine WL.y0' guard_none (Y0.move rfl) rfl ?_
        obtain ⟨hi1, hr⟩ := hr
        refine WL.y0' guard_none (Y0.idxA0 Try.underlying48 sz3 rfl rfl hi1) rfl ?_
        refine WL.y0' guard_none (Y0.loadL 1 sc3 rfl rfl (vecG_at _ _ _ hi1)) rfl ?_
        refine WL.y0' guard_none (Y0.add rfl rfl) rfl ?_
        refine WL.y0' guard_none (Y0.assign rfl) rfl ?_
        refine WL.nil ?_
        refine WE.inBlock ?_
        refine WE.then ?_
        refine WC.region ?_
        refine WL.y0' guard_none (Y0.move rfl) rfl ?_
        refine WL.y0' guard_none (Y0.add rfl rfl) rfl ?_
        refine WL.y0' guard_none (Y0.assign rfl) rfl ?_
        refine WL.nil ?_
        refine WE.backR ⟨IntKind.i64.wrap (n2 + (getF m1 i1)), IntKind.i64.wrap (i1 + 1), Gm2⟩ hr Gm2le (Fr.sub_cons rfl (Fr.sub_cons rfl (Fr.sub_cons rfl (Fr.sub_nil _)))) ?_
        · intro w hs
          exact hs.weaken (Lo.sub_cons rfl (Lo.sub_nil _))
      · replace hr := hr.neg hc1
        refine WC.exit ?_
        refine WE.thenExit ?_
        refine WE.thenExit ?_
        refine WE.exitHere ?_
        refine WE.endH ⟨n2, Gm2⟩ ⟨Gm2le, hr⟩ (Fr.sub_cons rfl (Fr.sub_nil _)) ?_
        · intro w hs
          exact hs.weaken (Lo.sub_nil _)
  · rintro ⟨n1, Gm1⟩ ⟨Gm1le, hr⟩
    refine WE.then ?_
    refine WC.seq ?_
    refine WC.region ?_
    refine WL.y0' guard_none (Y0.move rfl) rfl ?_
    refine WL.y0' guard_none (Y0.assign rfl) rfl ?_
    refine WL.nil ?_
    refine WE.then ?_
    refine WC.ret ?_
    replace hr : _ = r := hr
    subst hr
    exact WE.ret1 rfl rfl rfl
theorem L_law21_ComponentsPrimes (a0_1 : T_law21_Input) (a0_1lp : Option Addr) (a0_1lc : Nat) (r : Bool) (hr : (law21_ComponentsPrimes a0_1).Ret r) : Ctr Try.prog 7 #[.agg ([.slice a0_1lp a0_1.l.length a0_1lc, .int .u8 a0_1.n]).toArray] (fun G => SlR (Rp.vec .u8 4) G (.slice a0_1lp a0_1.l.length a0_1lc) a0_1.l) (fun G v => v = .bool r) := by
  refine Ctr.enter (args := [_]) (N := 100) Try.func7 rfl rfl rfl (fun w0 G0 hL0 hpre => ?_)
  have a0_1lh := hpre
  refine WC.seq ?_
  refine WC.region ?_
  refine WL.box 1 guard_none rfl rfl (fun b1 => ?_)
  refine WL.y0' guard_none (Y0.assign rfl) rfl ?_
  refine WL.nil ?_
  refine WE.then ?_
  refine WC.seq ?_
  refine WC.region ?_
  obtain ⟨yv1, hyv1, hr⟩ := hr
  refine WL.call0 guard_none rfl (YC.of E11 rfl) (L_law21_sanity _ hyv1) rfl (trivial) ?_
  refine WL.y0' guard_none (Y0.assign rfl) rfl ?_
  refine WL.nil ?_
  refine WE.then ?_
  refine WC.seq ?_
  refine WC.seq ?_
  refine WC.region ?_
  refine WL.y0' guard_none (Y0.move rfl) rfl ?_
  refine WL.y0' guard_none (Y0.not rfl) rfl ?_
  refine WL.nil ?_
  refine WE.then ?_
  refine WC.cond (b := !yv1) rfl (fun hc1 => ?_) (fun hc1 => ?_)
  · replace hr := hr.pos hc1
    refine WC.seq ?_
    refine WC.region ?_
    refine WL.y0' guard_none (Y0.assign rfl) rfl ?_
    refine WL.nil ?_
    refine WE.then ?_
    refine WC.ret ?_
    replace hr : _ = r := hr
    refine WE.thenRet ?_
    subst hr
    exact WE.ret1 rfl rfl rfl
  · replace hr := hr.neg (Bool.eq_false_iff.1 hc1)
    refine WC.skip ?_
    refine WE.then ?_
    refine WC.seq ?_
    refine WC.region ?_
    refine WL.y0' guard_none (Y0.loadLA 1 ag25 rfl rfl rfl) rfl ?_
    obtain ⟨yv2, hyv2, hr⟩ := hr
    refine WL.call guard_none rfl (YC.of E29 rfl) (L_law21_made _ _ _ _ hyv2) rfl (a0_1lh) (fun yv2v Gv2 Gv2le yv2post => ?_)
    obtain ⟨yv2p, yv2c, rfl, yv2h⟩ := yv2post
    refine WL.y0' guard_none (Y0.assign rfl) rfl ?_
    refine WL.nil ?_
    refine WE.then ?_
    refine WC.seq ?_
    refine WC.region ?_
    refine WL.y0' guard_none (Y0.move rfl) rfl ?_
    refine WL.y0' guard_none (Y0.loadLA 1 ag25 rfl rfl rfl) rfl ?_
    obtain ⟨yv3, hyv3, hr⟩ := hr
    refine WL.call0 guard_none rfl (YC.of E12 rfl) (L_law21_vars _ _ _ _ hyv3) rfl ((a0_1lh.mono Gv2le)) ?_
    obtain ⟨yv4, hyv4, hr⟩ := hr
    refine WL.call guard_none rfl (YC.of E16 rfl) (L_components_Primes _ _ _ _ _ hyv4) rfl (yv2h) (fun yv4v Gv4 Gv4le yv4post => ?_)
    obtain ⟨yv4r0p, yv4r0c, rfl, yv4r0h⟩ := yv4post
    refine WL.y0' guard_none (Y0.move rfl) rfl ?_
    refine WL.y0' guard_none (Y0.extract rfl rfl) rfl ?_
    refine WL.y0' guard_none (Y0.extract rfl rfl) rfl ?_
    refine WL.y0' guard_none (Y0.assign rfl) rfl ?_
    refine WL.y0' guard_none (Y0.assign rfl) rfl ?_
    refine WL.nil ?_
    refine WE.then ?_
    refine WC.seq ?_
    refine WC.seq ?_
    refine WC.region ?_
    refine WL.y0' guard_none (Y0.move rfl) rfl ?_
    refine WL.y0' guard_none (Y0.neq rfl rfl) rfl ?_
    refine WL.nil ?_
    refine WE.then ?_
    refine WC.condD (p := ¬ yv4.2 = 0) rfl (fun hc2 => ?_) (fun hc2 => ?_)
    · replace hr := hr.pos hc2
      refine WC.seq ?_
      refine WC.region ?_
      refine WL.y0' guard_none (Y0.assign rfl) rfl ?_
      refine WL.nil ?_
      refine WE.then ?_
      refine WC.ret ?_
      replace hr : _ = r := hr
      refine WE.thenRet ?_
      subst hr
      exact WE.ret1 rfl rfl rfl
    · replace hr := hr.neg hc2
      refine WC.skip ?_
      refine WE.then ?_
      refine WC.seq ?_
      refine WC.region ?_
      refine WL.y0' guard_none (Y0.build (vs := #[]) (v := .agg (vecG Value.bool 256 (fun _ => false)).toArray) rfl rfl (fun _ => by kernel_rfl)) rfl ?_
      refine WL.alloc 7 guard_none z55 rfl (fun b2 => ?_)
      refine WL.storeLA 7 guard_none sz55 rfl rfl rfl (vecG_size _ _ _) (vecG_size _ _ _) (fun u hu => Rp.one (Rp.vecB 256) (G := Gv4) (x := (fun _ => false)) (cs := vecG Value.bool 256 (fun _ => false)) rfl u (by simpa using hu)) ?_
      refine WL.nil ?_
      refine WE.then ?_
      refine WC.seq ?_
      refine WC.region ?_
      refine WL.y0' guard_none (Y0.loadLA 1 ag25 rfl rfl rfl) rfl ?_
      obtain ⟨yv5, hyv5, hr⟩ := hr
      refine WL.call0 guard_none rfl (YC.of E12 rfl) (L_law21_vars _ _ _ _ hyv5) rfl ((a0_1lh.mono (Mem.le_trans Gv2le Gv4le))) ?_
      obtain ⟨yv6, hyv6, hr⟩ := hr
      refine WL.call guard_none rfl (YC.of E31 rfl) (L_law21_all _ _ hyv6) rfl (trivial) (fun yv6v Gv6 Gv6le yv6post => ?_)
      obtain ⟨yv6p, yv6c, rfl, yv6h⟩ := yv6post
      refine WL.y0' guard_none (Y0.assign rfl) rfl ?_
      refine WL.nil ?_
      refine WE.then ?_
      refine WC.seq ?_
      refine WC.seq ?_
      refine WC.region ?_
      refine WL.y0' guard_none (Y0.assign rfl) rfl ?_
      refine WL.nil ?_
      refine WE.then ?_
      refine WC.meetH (fun (gx : (Fin 256 → Bool) × Mem) => match gx with | ⟨bx1, Gm1⟩ => [(3, .bool yv1), (5, .slice yv4r0p yv4.1.length yv4r0c), (7, .pointer (some ⟨b2, 0, none⟩))]) (fun (gx : (Fin 256 → Bool) × Mem) => match gx with | ⟨bx1, Gm1⟩ => Mem.le Gv6 Gm1 ∧ (law21_ComponentsPrimes_k3 yv1 yv4 bx1).Ret r) (fun (gx : (Fin 256 → Bool) × Mem) => match gx with | ⟨bx1, Gm1⟩ => St w0 G0 Gm1 [(7, some ⟨b2, .cells (vecG Value.bool 256 bx1).toArray 55 (0, 0), 0⟩)]) ?_ ?_
      · refine WC.block ?_
        let Phi2 : (Fin 256 → Bool) → Prop := fun oo => ((fun ov => match ov with | bx1 => law21_ComponentsPrimes_k3 yv1 yv4 bx1 : (Fin 256 → Bool) → Comp Bool) oo).wp (fun a => a = r)
        replace hr : (Comp.loop _ _).wp Phi2 := hr
        refine WC.loopR (Φ := Phi2) (fun (gx : Int × (Fin 256 → Bool) × Mem) => match gx with | ⟨v9_1, bx2, Gm4⟩ => ((v9_1, bx2) : Int × (Fin 256 → Bool))) (fun (gx : Int × (Fin 256 → Bool) × Mem) => match gx with | ⟨v9_1, bx2, Gm4⟩ => [(3, .bool yv1), (4, .slice yv2p yv2.length yv2c), (5, .slice yv4r0p yv4.1.length yv4r0c), (7, .pointer (some ⟨b2, 0, none⟩)), (8, .slice yv6p yv6.length yv6c), (9, .int .i64 v9_1)]) (fun (gx : Int × (Fin 256 → Bool) × Mem) => match gx with | ⟨v9_1, bx2, Gm4⟩ => Mem.le Gv6 Gm4) (fun (gx : Int × (Fin 256 → Bool) × Mem) => match gx with | ⟨v9_1, bx2, Gm4⟩ => St w0 G0 Gm4 [(7, some ⟨b2, .cells (vecG Value.bool 256 bx2).toArray 55 (0, 0), 0⟩)]) ⟨0, (fun _ => false), Gv6⟩ hr (Fr.sub_cons rfl (Fr.sub_cons rfl (Fr.sub_cons rfl (Fr.sub_cons rfl (Fr.sub_cons rfl (Fr.sub_cons rfl (Fr.sub_nil _))))))) (Mem.le_refl _) ?_ ?_
        · intro w hs
          exact hs.weaken (Lo.sub_cons rfl (Lo.sub_nil _))
        · intro Aq2 gx hx hr
          obtain ⟨v9_1, bx2, Gm4⟩ := gx
          have Gm4le := hx
          refine WC.seq ?_
          refine WC.seq ?_
          refine WC.region ?_
          refine WL.y0' guard_none (Y0.move rfl) rfl ?_
          refine WL.y0' guard_none (Y0.move rfl) rfl ?_
          refine WL.y0' guard_none (Y0.lenR Try.underlying28 (yv6h.mono Gm4le) rfl) rfl ?_
          refine WL.y0' guard_none (Y0.lss rfl rfl) rfl ?_
          refine WL.nil ?_
          refine WE.then ?_
          refine WC.condD (p := v9_1 < (yv6.length : Int)) rfl (fun hc6 => ?_) (fun hc6 => ?_)
          · replace hr := hr.pos hc6
            refine WC.skip ?_
            refine WE.then ?_
            refine WC.seq ?_
            refine WC.block ?_
            refine WC.seq ?_
            refine WC.region ?_
            refine WL.y0' guard_none (Y0.move rfl) rfl ?_
            refine WL.y0' guard_none (Y0.move rfl) rfl ?_
            refine WL.y0' guard_none (Y0.move rfl) rfl ?_
            obtain ⟨x2, hx2, hr⟩ := hr
            refine WL.y0' guard_none (Y0.idxR Try.underlying28 sz48 (yv6h.mono Gm4le) rfl rfl hx2) rfl ?_
            refine WL.y0' guard_none (Y0.loadGA _ ag48 rfl (vecG_size _ _ _) (AtK.vec (At.mono (SlR.at yv6h hx2) Gm4le))) rfl ?_
            obtain ⟨yv7, hyv7, hr⟩ := hr
            refine WL.call guard_none rfl (YC.of E37 rfl) (L_R18_Colon _ _ _ _ _ hyv7) rfl ((yv2h.mono (Mem.le_trans (Mem.le_trans Gv4le Gv6le) Gm4le))) (fun yv7v Gv7 Gv7le yv7post => ?_)
            obtain ⟨yv7p, yv7c, rfl, yv7h⟩ := yv7post
            refine WL.y0' guard_none (Y0.assign rfl) rfl ?_
            refine WL.nil ?_
            refine WE.then ?_
            refine WC.seq ?_
            refine WC.region ?_
            refine WL.y0' guard_none (Y0.assign rfl) rfl ?_
            refine WL.nil ?_
            refine WE.then ?_
            refine WC.seq ?_
            refine WC.region ?_
            refine WL.y0' guard_none (Y0.assign rfl) rfl ?_
            refine WL.nil ?_
            refine WE.then ?_
            refine WC.seq ?_
            refine WC.seq ?_
            refine WC.region ?_
            refine WL.y0' guard_none (Y0.assign rfl) rfl ?_
            refine WL.nil ?_
            refine WE.then ?_
            refine WC.meetH (fun (gx : Int × Bool × Mem) => match gx with | ⟨v11_1, v12_1, Gm5⟩ => [(3, .bool yv1), (4, .slice yv2p yv2.length yv2c), (5, .slice yv4r0p yv4.1.length yv4r0c), (7, .pointer (some ⟨b2, 0, none⟩)), (8, .slice yv6p yv6.length yv6c), (9, .int .i64 v9_1), (11, .int .u8 v11_1), (12, .bool v12_1)]) (fun (gx : Int × Bool × Mem) => match gx with | ⟨v11_1, v12_1, Gm5⟩ => Mem.le Gv7 Gm5 ∧ (law21_ComponentsPrimes_k5 v9_1 bx2 v11_1 v12_1).wp (Out Aq2 Phi2)) (fun (gx : Int × Bool × Mem) => match gx with | ⟨v11_1, v12_1, Gm5⟩ => St w0 G0 Gm5 [(7, some ⟨b2, .cells (vecG Value.bool 256 bx2).toArray 55 (0, 0), 0⟩)]) ?_ ?_
            · refine WC.block ?_
              let Phi3 : (Int × Bool) → Prop := fun oo => ((fun ov => match ov with | (v11_1, v12_1) => law21_ComponentsPrimes_k5 v9_1 bx2 v11_1 v12_1 : (Int × Bool) → Comp ((Int × (Fin 256 → Bool)) ⊕ (Fin 256 → Bool))) oo).wp (Out Aq2 Phi2)
              replace hr : (Comp.loop _ _).wp Phi3 := hr
              refine WC.loopR (Φ := Phi3) (fun (gx : Int × Bool × Int × Mem) => match gx with | ⟨v11_2, v12_2, v13_1, Gm6⟩ => ((v11_2, v12_2, v13_1) : Int × Bool × Int)) (fun (gx : Int × Bool × Int × Mem) => match gx with | ⟨v11_2, v12_2, v13_1, Gm6⟩ => [(3, .bool yv1), (4, .slice yv2p yv2.length yv2c), (5, .slice yv4r0p yv4.1.length yv4r0c), (7, .pointer (some ⟨b2, 0, none⟩)), (8, .slice yv6p yv6.length yv6c), (9, .int .i64 v9_1), (10, .slice yv7p yv7.length yv7c), (11, .int .u8 v11_2), (12, .bool v12_2), (13, .int .i64 v13_1)]) (fun (gx : Int × Bool × Int × Mem) => match gx with | ⟨v11_2, v12_2, v13_1, Gm6⟩ => Mem.le Gv7 Gm6) (fun (gx : Int × Bool × Int × Mem) => match gx with | ⟨v11_2, v12_2, v13_1, Gm6⟩ => St w0 G0 Gm6 [(7, some ⟨b2, .cells (vecG Value.bool 256 bx2).toArray 55 (0, 0), 0⟩)]) ⟨0, true, 0, Gv7⟩ hr (Fr.sub_cons rfl (Fr.sub_cons rfl (Fr.sub_cons rfl (Fr.sub_cons rfl (Fr.sub_cons rfl (Fr.sub_cons rfl (Fr.sub_cons rfl (Fr.sub_cons rfl (Fr.sub_cons rfl (Fr.sub_cons rfl (Fr.sub_nil _))))))))))) (Mem.le_refl _) ?_ ?_
              · intro w hs
                exact hs.weaken (Lo.sub_cons rfl (Lo.sub_nil _))
              · intro Aq3 gx hx hr
                obtain ⟨v11_2, v12_2, v13_1, Gm6⟩ := gx
                have Gm6le := hx
                refine WC.seq ?_
                refine WC.seq ?_
                refine WC.region ?_
                refine WL.y0' guard_none (Y0.move rfl) rfl ?_
                refine WL.y0' guard_none (Y0.move rfl) rfl ?_
                refine WL.y0' guard_none (Y0.lenR Try.underlying28 (yv7h.mono Gm6le) rfl) rfl ?_
                refine WL.y0' guard_none (Y0.lss rfl rfl) rfl ?_
                refine WL.nil ?_
                refine WE.then ?_
                refine WC.condD (p := v13_1 < (yv7.length : Int)) rfl (fun hc8 => ?_) (fun hc8 => ?_)
                · replace hr := hr.pos hc8
                  refine WC.skip ?_
                  refine WE.then ?_
                  refine WC.seq ?_
                  refine WC.block ?_
                  refine WC.seq ?_
                  refine WC.region ?_
                  refine WL.caseY0 (p := v12_2 = true) guard_none (Y0.eq (Y0.move rfl) (congrArg Value.bool (bdec _))) rfl (fun hb3 => ?_) (fun hb3 => ?_)
                  · replace hr := hr.pos hb3
                    refine WL.y0' guard_none (Y0.move rfl) rfl ?_
                    refine WL.y0' (guard_yes rfl rfl) (Y0.move rfl) rfl ?_
                    refine WL.y0' (guard_yes rfl rfl) (Y0.move rfl) rfl ?_
                    obtain ⟨x3, hx3, hr⟩ := hr
                    refine WL.y0' (guard_yes rfl rfl) (Y0.idxR Try.underlying28 sz48 (yv7h.mono Gm6le) rfl rfl hx3) rfl ?_
                    refine WL.y0' (guard_yes rfl rfl) (Y0.loadGA _ ag48 rfl (vecG_size _ _ _) (AtK.vec (At.mono (SlR.at yv7h hx3) Gm6le))) rfl ?_
                    obtain ⟨yv8, hyv8, hr⟩ := hr
                    refine WL.call0 (guard_yes rfl rfl) rfl (YC.of E38 rfl) (L_R04_Degree _ _ hyv8) rfl (trivial) ?_
                    refine WL.caseY0 (p := yv8 = 1) (guard_yes rfl rfl) (Y0.eql rfl rfl) rfl (fun hb4 => ?_) (fun hb4 => ?_)
                    · replace hr := hr.pos hb4
                      refine WL.y0' guard_none (Y0.pickT rfl rfl) rfl ?_
                      refine WL.y0' guard_none (Y0.assign rfl) rfl ?_
                      refine WL.nil ?_
                      refine WE.then ?_
                      refine WC.region ?_
                      refine WL.y0' guard_none (Y0.move rfl) rfl ?_
                      refine WL.y0' guard_none (Y0.move rfl) rfl ?_
                      refine WL.y0' guard_none (Y0.move rfl) rfl ?_
                      obtain ⟨x4, hx4, hr⟩ := hr
                      refine WL.y0' guard_none (Y0.idxR Try.underlying28 sz48 (yv7h.mono Gm6le) rfl rfl hx4) rfl ?_
                      refine WL.y0' guard_none (Y0.loadGA _ ag48 rfl (vecG_size _ _ _) (AtK.vec (At.mono (SlR.at yv7h hx4) Gm6le))) rfl ?_
                      obtain ⟨yv9, hyv9, hr⟩ := hr
                      refine WL.call0 guard_none rfl (YC.of E39 rfl) (L_R04_Support _ _ hyv9) rfl (trivial) ?_
                      refine WL.y0' guard_none (Y0.or rfl rfl) rfl ?_
                      refine WL.y0' guard_none (Y0.assign rfl) rfl ?_
                      refine WL.nil ?_
                      refine WE.inBlock ?_
                      refine WE.then ?_
                      refine WC.region ?_
                      refine WL.y0' guard_none (Y0.move rfl) rfl ?_
                      refine WL.y0' guard_none (Y0.add rfl rfl) rfl ?_
                      refine WL.y0' guard_none (Y0.assign rfl) rfl ?_
                      refine WL.nil ?_
                      refine WE.backR ⟨IntKind.u8.wrap (BitVec.ofInt IntKind.u8.bits v11_2 ||| BitVec.ofInt IntKind.u8.bits yv9).toNat, true, IntKind.i64.wrap (v13_1 + 1), Gm6⟩ hr Gm6le (Fr.sub_cons rfl (Fr.sub_cons rfl (Fr.sub_cons rfl (Fr.sub_cons rfl (Fr.sub_cons rfl (Fr.sub_cons rfl (Fr.sub_cons rfl (Fr.sub_cons rfl (Fr.sub_cons rfl (Fr.sub_cons rfl (Fr.sub_nil _))))))))))) ?_
                      · intro w hs
                        exact hs.weaken (Lo.sub_cons rfl (Lo.sub_nil _))
                    · replace hr := hr.neg hb4
                      refine WL.y0' guard_none (Y0.pickT rfl rfl) rfl ?_
                      refine WL.y0' guard_none (Y0.assign rfl) rfl ?_
                      refine WL.nil ?_
                      refine WE.then ?_
                      refine WC.region ?_
                      refine WL.y0' guard_none (Y0.move rfl) rfl ?_
                      refine WL.y0' guard_none (Y0.move rfl) rfl ?_
                      refine WL.y0' guard_none (Y0.move rfl) rfl ?_
                      obtain ⟨x5, hx5, hr⟩ := hr
                      refine WL.y0' guard_none (Y0.idxR Try.underlying28 sz48 (yv7h.mono Gm6le) rfl rfl hx5) rfl ?_
                      refine WL.y0' guard_none (Y0.loadGA _ ag48 rfl (vecG_size _ _ _) (AtK.vec (At.mono (SlR.at yv7h hx5) Gm6le))) rfl ?_
                      obtain ⟨yv10, hyv10, hr⟩ := hr
                      refine WL.call0 guard_none rfl (YC.of E39 rfl) (L_R04_Support _ _ hyv10) rfl (trivial) ?_
                      refine WL.y0' guard_none (Y0.or rfl rfl) rfl ?_
                      refine WL.y0' guard_none (Y0.assign rfl) rfl ?_
                      refine WL.nil ?_
                      refine WE.inBlock ?_
                      refine WE.then ?_
                      refine WC.region ?_
                      refine WL.y0' guard_none (Y0.move rfl) rfl ?_
                      refine WL.y0' guard_none (Y0.add rfl rfl) rfl ?_
                      refine WL.y0' guard_none (Y0.assign rfl) rfl ?_
                      refine WL.nil ?_
                      refine WE.backR ⟨IntKind.u8.wrap (BitVec.ofInt IntKind.u8.bits v11_2 ||| BitVec.ofInt IntKind.u8.bits yv10).toNat, false, IntKind.i64.wrap (v13_1 + 1), Gm6⟩ hr Gm6le (Fr.sub_cons rfl (Fr.sub_cons rfl (Fr.sub_cons rfl (Fr.sub_cons rfl (Fr.sub_cons rfl (Fr.sub_cons rfl (Fr.sub_cons rfl (Fr.sub_cons rfl (Fr.sub_cons rfl (Fr.sub_cons rfl (Fr.sub_nil _))))))))))) ?_
                      · intro w hs
                        exact hs.weaken (Lo.sub_cons rfl (Lo.sub_nil _))
                  · replace hr := hr.neg hb3
                    refine WL.y0' guard_none (Y0.move rfl) rfl ?_
                    refine WL.skip (guard_noT rfl rfl) rfl ?_
                    refine WL.skip (guard_noT rfl rfl) rfl ?_
                    refine WL.skip (guard_noT rfl rfl) rfl ?_
                    refine WL.skip (guard_noT rfl rfl) rfl ?_
                    refine WL.skip (guard_noT rfl rfl) rfl ?_
                    refine WL.skip (guard_noT rfl rfl) rfl ?_
                    refine WL.y0' guard_none (Y0.pickF rfl rfl) rfl ?_
                    refine WL.y0' guard_none (Y0.assign rfl) rfl ?_
                    refine WL.nil ?_
                    refine WE.then ?_
                    refine WC.region ?_
                    refine WL.y0' guard_none (Y0.move rfl) rfl ?_
                    refine WL.y0' guard_none (Y0.move rfl) rfl ?_
                    refine WL.y0' guard_none (Y0.move rfl) rfl ?_
                    obtain ⟨x6, hx6, hr⟩ := hr
                    refine WL.y0' guard_none (Y0.idxR Try.underlying28 sz48 (yv7h.mono Gm6le) rfl rfl hx6) rfl ?_
                    refine WL.y0' guard_none (Y0.loadGA _ ag48 rfl (vecG_size _ _ _) (AtK.vec (At.mono (SlR.at yv7h hx6) Gm6le))) rfl ?_
                    obtain ⟨yv11, hyv11, hr⟩ := hr
                    refine WL.call0 guard_none rfl (YC.of E39 rfl) (L_R04_Support _ _ hyv11) rfl (trivial) ?_
                    refine WL.y0' guard_none (Y0.or rfl rfl) rfl ?_
                    refine WL.y0' guard_none (Y0.assign rfl) rfl ?_
                    refine WL.nil ?_
                    refine WE.inBlock ?_
                    refine WE.then ?_
                    refine WC.region ?_
                    refine WL.y0' guard_none (Y0.move rfl) rfl ?_
                    refine WL.y0' guard_none (Y0.add rfl rfl) rfl ?_
                    refine WL.y0' guard_none (Y0.assign rfl) rfl ?_
                    refine WL.nil ?_
                    refine WE.backR ⟨IntKind.u8.wrap (BitVec.ofInt IntKind.u8.bits v11_2 ||| BitVec.ofInt IntKind.u8.bits yv11).toNat, false, IntKind.i64.wrap (v13_1 + 1), Gm6⟩ hr Gm6le (Fr.sub_cons rfl (Fr.sub_cons rfl (Fr.sub_cons rfl (Fr.sub_cons rfl (Fr.sub_cons rfl (Fr.sub_cons rfl (Fr.sub_cons rfl (Fr.sub_cons rfl (Fr.sub_cons rfl (Fr.sub_cons rfl (Fr.sub_nil _))))))))))) ?_
                    · intro w hs
                      exact hs.weaken (Lo.sub_cons rfl (Lo.sub_nil _))
                · replace hr := hr.neg hc8
                  refine WC.exit ?_
                  refine WE.thenExit ?_
                  refine WE.thenExit ?_
                  refine WE.exitHere ?_
                  refine WE.endH ⟨v11_2, v12_2, Gm6⟩ ⟨Gm6le, hr⟩ (Fr.sub_cons rfl (Fr.sub_cons rfl (Fr.sub_cons rfl (Fr.sub_cons rfl (Fr.sub_cons rfl (Fr.sub_cons rfl (Fr.sub_cons rfl (Fr.sub_cons rfl (Fr.sub_nil _))))))))) ?_
                  · intro w hs
                    exact hs.weaken (Lo.sub_cons rfl (Lo.sub_nil _))
            · rintro ⟨v11_1, v12_1, Gm5⟩ ⟨Gm5le, hr⟩
              refine WE.then ?_
              refine WC.seq ?_
              refine WC.region ?_
              refine WL.y0' guard_none (Y0.move rfl) rfl ?_
              refine WL.nil ?_
              refine WE.then ?_
              refine WC.cond (b := v12_1) rfl (fun hc7 => ?_) (fun hc7 => ?_)
              · replace hr := hr.pos hc7
                refine WC.region ?_
                refine WL.y0' guard_none (Y0.move rfl) rfl ?_
                obtain ⟨hi2, hr⟩ := hr
                refine WL.y0' guard_none (Y0.idxA0 Try.underlying55 sz4 rfl rfl hi2) rfl ?_
                refine WL.storeL 7 (vecG Value.bool 256 (setF bx2 v11_1.toNat true)).toArray guard_none sz4 rfl rfl rfl (by first | (rw [vecG_size]; omega) | (show _ < (vecG _ _ _).toArray.size; rw [vecG_size]; omega)) rfl (vecG_put _ _ _ _ _) ?_
                refine WL.nil ?_
                refine WE.inBlock ?_
                refine WE.then ?_
                refine WC.region ?_
                refine WL.y0' guard_none (Y0.move rfl) rfl ?_
                refine WL.y0' guard_none (Y0.add rfl rfl) rfl ?_
                refine WL.y0' guard_none (Y0.assign rfl) rfl ?_
                refine WL.nil ?_
                refine WE.backR ⟨IntKind.i64.wrap (v9_1 + 1), setF bx2 v11_1.toNat true, Gm5⟩ hr (Mem.le_trans (Mem.le_trans Gm4le Gv7le) Gm5le) (Fr.sub_cons rfl (Fr.sub_cons rfl (Fr.sub_cons rfl (Fr.sub_cons rfl (Fr.sub_cons rfl (Fr.sub_cons rfl (Fr.sub_nil _))))))) ?_
                · intro w hs
                  exact hs.weaken (Lo.sub_cons rfl (Lo.sub_nil _))
              · replace hr := hr.neg (Bool.eq_false_iff.1 hc7)
                refine WC.skip ?_
                refine WE.inBlock ?_
                refine WE.then ?_
                refine WC.region ?_
                refine WL.y0' guard_none (Y0.move rfl) rfl ?_
                refine WL.y0' guard_none (Y0.add rfl rfl) rfl ?_
                refine WL.y0' guard_none (Y0.assign rfl) rfl ?_
                refine WL.nil ?_
                refine WE.backR ⟨IntKind.i64.wrap (v9_1 + 1), bx2, Gm5⟩ hr (Mem.le_trans (Mem.le_trans Gm4le Gv7le) Gm5le) (Fr.sub_cons rfl (Fr.sub_cons rfl (Fr.sub_cons rfl (Fr.sub_cons rfl (Fr.sub_cons rfl (Fr.sub_cons rfl (Fr.sub_nil _))))))) ?_
                · intro w hs
                  exact hs.weaken (Lo.sub_cons rfl (Lo.sub_nil _))
          · replace hr := hr.neg hc6
            refine WC.exit ?_
            refine WE.thenExit ?_
            refine WE.thenExit ?_
            refine WE.exitHere ?_
            refine WE.endH ⟨bx2, Gm4⟩ ⟨Gm4le, hr⟩ (Fr.sub_cons rfl (Fr.sub_cons rfl (Fr.sub_cons rfl (Fr.sub_nil _)))) ?_
            · intro w hs
              exact hs.weaken (Lo.sub_cons rfl (Lo.sub_nil _))
      · rintro ⟨bx1, Gm1⟩ ⟨Gm1le, hr⟩
        refine WE.then ?_
        refine WC.seq ?_
        refine WC.region ?_
        refine WL.y0' guard_none (Y0.assign rfl) rfl ?_
        refine WL.nil ?_
        refine WE.then ?_
        refine WC.seq ?_
        refine WC.seq ?_
        refine WC.region ?_
        refine WL.y0' guard_none (Y0.assign rfl) rfl ?_
        refine WL.nil ?_
        refine WE.then ?_
        refine WC.meetH (fun (gx : Int × Mem) => match gx with | ⟨v14_1, Gm2⟩ => [(3, .bool yv1), (5, .slice yv4r0p yv4.1.length yv4r0c), (14, .int .i64 v14_1)]) (fun (gx : Int × Mem) => match gx with | ⟨v14_1, Gm2⟩ => Mem.le Gm1 Gm2 ∧ (law21_ComponentsPrimes_k1 yv1 yv4 v14_1).Ret r) (fun (gx : Int × Mem) => match gx with | ⟨v14_1, Gm2⟩ => St w0 G0 Gm2 []) ?_ ?_
        · refine WC.block ?_
          let Phi1 : (Bool ⊕ Int) → Prop := fun oo => ((fun ov => match ov with | .inl rv1 => Comp.ret rv1 | .inr v14_1 => law21_ComponentsPrimes_k1 yv1 yv4 v14_1 : (Bool ⊕ Int) → Comp Bool) oo).wp (fun a => a = r)
          replace hr : (Comp.loop _ _).wp Phi1 := hr
          refine WC.loopR (Φ := Phi1) (fun (gx : Int × Int × Mem) => match gx with | ⟨v14_2, v15_1, Gm3⟩ => ((v14_2, v15_1) : Int × Int)) (fun (gx : Int × Int × Mem) => match gx with | ⟨v14_2, v15_1, Gm3⟩ => [(3, .bool yv1), (5, .slice yv4r0p yv4.1.length yv4r0c), (7, .pointer (some ⟨b2, 0, none⟩)), (14, .int .i64 v14_2), (15, .int .i64 v15_1)]) (fun (gx : Int × Int × Mem) => match gx with | ⟨v14_2, v15_1, Gm3⟩ => Mem.le Gm1 Gm3) (fun (gx : Int × Int × Mem) => match gx with | ⟨v14_2, v15_1, Gm3⟩ => St w0 G0 Gm3 [(7, some ⟨b2, .cells (vecG Value.bool 256 bx1).toArray 55 (0, 0), 0⟩)]) ⟨0, 0, Gm1⟩ hr (Fr.sub_cons rfl (Fr.sub_cons rfl (Fr.sub_cons rfl (Fr.sub_cons rfl (Fr.sub_cons rfl (Fr.sub_nil _)))))) (Mem.le_refl _) ?_ ?_
          · intro w hs
            exact hs.weaken (Lo.sub_cons rfl (Lo.sub_nil _))
          · intro Aq1 gx hx hr
            obtain ⟨v14_2, v15_1, Gm3⟩ := gx
            have Gm3le := hx
            refine WC.seq ?_
            refine WC.seq ?_
            refine WC.region ?_
            refine WL.y0' guard_none (Y0.move rfl) rfl ?_
            refine WL.y0' guard_none (Y0.lss rfl rfl) rfl ?_
            refine WL.nil ?_
            refine WE.then ?_
            refine WC.condD (p := v15_1 < 256) rfl (fun hc3 => ?_) (fun hc3 => ?_)
            · replace hr := hr.pos hc3
              refine WC.skip ?_
              refine WE.then ?_
              refine WC.seq ?_
              refine WC.block ?_
              refine WC.seq ?_
              refine WC.region ?_
              refine WL.y0' guard_none (Y0.move rfl) rfl ?_
              obtain ⟨hi1, hr⟩ := hr
              refine WL.y0' guard_none (Y0.idxA0 Try.underlying55 sz4 rfl rfl hi1) rfl ?_
              refine WL.y0' guard_none (Y0.loadL 7 sc4 rfl rfl (vecG_at _ _ _ hi1)) rfl ?_
              refine WL.nil ?_
              refine WE.then ?_
              refine WC.cond (b := getF bx1 v15_1) rfl (fun hc4 => ?_) (fun hc4 => ?_)
              · replace hr := hr.pos hc4
                refine WC.seq ?_
                refine WC.seq ?_
                refine WC.region ?_
                refine WL.y0' guard_none (Y0.move rfl) rfl ?_
                refine WL.y0' guard_none (Y0.move rfl) rfl ?_
                refine WL.y0' guard_none (Y0.lenR Try.underlying33 (yv4r0h.mono (Mem.le_trans (Mem.le_trans Gv6le Gm1le) Gm3le)) rfl) rfl ?_
                refine WL.caseY0 (p := (yv4.1.length : Int) ≤ v14_2) guard_none (Y0.geq rfl rfl) rfl (fun hb2 => ?_) (fun hb2 => ?_)
                · replace hr := hr.pos hb2
                  refine WL.y0' guard_none (Y0.move rfl) rfl ?_
                  refine WL.skip (guard_noF rfl rfl) rfl ?_
                  refine WL.skip (guard_noF rfl rfl) rfl ?_
                  refine WL.skip (guard_noF rfl rfl) rfl ?_
                  refine WL.skip (guard_noF rfl rfl) rfl ?_
                  refine WL.skip (guard_noF rfl rfl) rfl ?_
                  refine WL.skip (guard_noF rfl rfl) rfl ?_
                  refine WL.skip (guard_noF rfl rfl) rfl ?_
                  refine WL.y0' guard_none (Y0.pickT rfl rfl) rfl ?_
                  refine WL.nil ?_
                  refine WE.then ?_
                  refine WC.condT rfl ?_
                  refine WC.seq ?_
                  refine WC.region ?_
                  refine WL.y0' guard_none (Y0.assign rfl) rfl ?_
                  refine WL.nil ?_
                  refine WE.then ?_
                  refine WC.ret ?_
                  replace hr : _ = r := hr
                  refine WE.thenRet ?_
                  refine WE.inBlockRet ?_
                  refine WE.thenRet ?_
                  refine WE.thenRet ?_
                  refine WE.inBlockRet ?_
                  refine WE.endRet ?_
                  refine WE.thenRet ?_
                  subst hr
                  exact WE.ret1 rfl rfl rfl
                · replace hr := hr.neg hb2
                  refine WL.y0' guard_none (Y0.move rfl) rfl ?_
                  refine WL.y0' (guard_yes rfl rfl) (Y0.move rfl) rfl ?_
                  refine WL.y0' (guard_yes rfl rfl) (Y0.move rfl) rfl ?_
                  obtain ⟨x1, hx1, hr⟩ := hr
                  refine WL.y0' (guard_yes rfl rfl) (Y0.idxR Try.underlying33 sz5 (yv4r0h.mono (Mem.le_trans (Mem.le_trans Gv6le Gm1le) Gm3le)) rfl rfl hx1) rfl ?_
                  refine WL.y0' (guard_yes rfl rfl) (Y0.loadG sc5 rfl (AtK.int (At.mono (SlR.at yv4r0h hx1) (Mem.le_trans (Mem.le_trans Gv6le Gm1le) Gm3le)))) rfl ?_
                  refine WL.y0' (guard_yes rfl rfl) (Y0.conv Try.underlying5 Try.underlying3 rfl) rfl ?_
                  refine WL.y0' (guard_yes rfl rfl) (Y0.move rfl) rfl ?_
                  refine WL.y0' (guard_yes rfl rfl) (Y0.neq rfl rfl) rfl ?_
                  refine WL.y0' guard_none (Y0.pickF rfl rfl) rfl ?_
                  refine WL.nil ?_
                  refine WE.then ?_
                  refine WC.condD (p := ¬ (IntKind.i64.wrap x1) = v15_1) rfl (fun hc5 => ?_) (fun hc5 => ?_)
                  · replace hr := hr.pos hc5
                    refine WC.seq ?_
                    refine WC.region ?_
                    refine WL.y0' guard_none (Y0.assign rfl) rfl ?_
                    refine WL.nil ?_
                    refine WE.then ?_
                    refine WC.ret ?_
                    replace hr : _ = r := hr
                    refine WE.thenRet ?_
                    refine WE.inBlockRet ?_
                    refine WE.thenRet ?_
                    refine WE.thenRet ?_
                    refine WE.inBlockRet ?_
                    refine WE.endRet ?_
                    refine WE.thenRet ?_
                    subst hr
                    exact WE.ret1 rfl rfl rfl
                  · replace hr := hr.neg hc5
                    refine WC.skip ?_
                    refine WE.then ?_
                    refine WC.region ?_
                    refine WL.y0' guard_none (Y0.move rfl) rfl ?_
                    refine WL.y0' guard_none (Y0.add rfl rfl) rfl ?_
                    refine WL.y0' guard_none (Y0.assign rfl) rfl ?_
                    refine WL.nil ?_
                    refine WE.inBlock ?_
                    refine WE.then ?_
                    refine WC.region ?_
                    refine WL.y0' guard_none (Y0.move rfl) rfl ?_
                    refine WL.y0' guard_none (Y0.add rfl rfl) rfl ?_
                    refine WL.y0' guard_none (Y0.assign rfl) rfl ?_
                    refine WL.nil ?_
                    refine WE.backR ⟨IntKind.i64.wrap (v14_2 + 1), IntKind.i64.wrap (v15_1 + 1), Gm3⟩ hr Gm3le (Fr.sub_cons rfl (Fr.sub_cons rfl (Fr.sub_cons rfl (Fr.sub_cons rfl (Fr.sub_cons rfl (Fr.sub_nil _)))))) ?_
                    · intro w hs
                      exact hs.weaken (Lo.sub_cons rfl (Lo.sub_nil _))
              · replace hr := hr.neg (Bool.eq_false_iff.1 hc4)
                refine WC.skip ?_
                refine WE.inBlock ?_
                refine WE.then ?_
                refine WC.region ?_
                refine WL.y0' guard_none (Y0.move rfl) rfl ?_
                refine WL.y0' guard_none (Y0.add rfl rfl) rfl ?_
                refine WL.y0' guard_none (Y0.assign rfl) rfl ?_
                refine WL.nil ?_
                refine WE.backR ⟨v14_2, IntKind.i64.wrap (v15_1 + 1), Gm3⟩ hr Gm3le (Fr.sub_cons rfl (Fr.sub_cons rfl (Fr.sub_cons rfl (Fr.sub_cons rfl (Fr.sub_cons rfl (Fr.sub_nil _)))))) ?_
                · intro w hs
                  exact hs.weaken (Lo.sub_cons rfl (Lo.sub_nil _))
            · replace hr := hr.neg hc3
              refine WC.exit ?_
              refine WE.thenExit ?_
              refine WE.thenExit ?_
              refine WE.exitHere ?_
              refine WE.endH ⟨v14_2, Gm3⟩ ⟨Gm3le, hr⟩ (Fr.sub_cons rfl (Fr.sub_cons rfl (Fr.sub_cons rfl (Fr.sub_nil _)))) ?_
              · intro w hs
                exact hs.weaken (Lo.sub_nil _)
        · rintro ⟨v14_1, Gm2⟩ ⟨Gm2le, hr⟩
          refine WE.then ?_
          refine WC.seq ?_
          refine WC.region ?_
          refine WL.y0' guard_none (Y0.move rfl) rfl ?_
          refine WL.y0' guard_none (Y0.move rfl) rfl ?_
          refine WL.y0' guard_none (Y0.lenR Try.underlying33 (yv4r0h.mono (Mem.le_trans (Mem.le_trans Gv6le Gm1le) Gm2le)) rfl) rfl ?_
          refine WL.caseY0 (p := v14_1 = (yv4.1.length : Int)) guard_none (Y0.eql rfl rfl) rfl (fun hb1 => ?_) (fun hb1 => ?_)
          · replace hr := hr.pos hb1
            refine WL.y0' guard_none (Y0.move rfl) rfl ?_
            refine WL.y0' (guard_yes rfl rfl) (Y0.move rfl) rfl ?_
            refine WL.y0' guard_none (Y0.pickT rfl rfl) rfl ?_
            refine WL.y0' guard_none (Y0.assign rfl) rfl ?_
            refine WL.nil ?_
            refine WE.then ?_
            refine WC.ret ?_
            replace hr : _ = r := hr
            subst hr
            exact WE.ret1 rfl rfl rfl
          · replace hr := hr.neg hb1
            refine WL.y0' guard_none (Y0.move rfl) rfl ?_
            refine WL.skip (guard_noT rfl rfl) rfl ?_
            refine WL.y0' guard_none (Y0.pickF rfl rfl) rfl ?_
            refine WL.y0' guard_none (Y0.assign rfl) rfl ?_
            refine WL.nil ?_
            refine WE.then ?_
            refine WC.ret ?_
            replace hr : _ = r := hr
            subst hr
            exact WE.ret1 rfl rfl rfl
end Go.Proofs.Ytbdknlblnfnkkaa
