/- The code does what the models say. The conditions stand in each statement. -/
import Derived.Test.YtbdknlblnfnkkaaLb
namespace Go.Proofs.Ytbdknlblnfnkkaa
open Go Go.EL Go.RowKit Go.Proofs
theorem L_law21_vars (x1 : T_law21_Input) (x1lp : Option Addr) (x1lc : Nat) (r : Int) (hr : (law21_vars x1).Ret r) : Ctr Try.prog 12 #[.agg ([.slice x1lp x1.l.length x1lc, .int .u8 x1.n]).toArray] (fun G => SlR (Rp.vec .u8 4) G (.slice x1lp x1.l.length x1lc) x1.l) (fun G v => v = .int .i64 r) := by
 refine Ctr.enter (args := [_]) (N := 7) Try.func12 rfl rfl rfl (fun w0 G0 hL0 hpre => ?_)
 have x1lh := hpre
 refine sr ?_
 refine WL.box 1 guard_none rfl rfl (fun b1 => ?_)
 refine sg rfl rfl <| nr <| yy (Y0.fieldAddr Try.underlying25 rfl (fun _ => by kernel_rfl) rfl) rfl <| yy (Y0.loadL 1 sc5 rfl rfl rfl) rfl <| yy (Y0.rem rfl rfl (by decide)) rfl <| yy (Y0.conv Try.underlying5 Try.underlying3 rfl) rfl ?_
 refine sg rfl rfl <| nx ?_
 refine WC.ret ?_
 replace hr : _ = r := hr
 subst hr
 exact WE.ret1 rfl rfl rfl
theorem L_R18_Made (x1 : (List (Fin 4 → Int))) (n1 : Int) (most1 : Int) (top1 : Int) (x1p : Option Addr) (x1c : Nat) (r : (List (Fin 8 → Int))) (hr : (R18_Made x1 n1 most1 top1).Ret r) : Ctr Try.prog 13 #[.slice x1p x1.length x1c, .int .i64 n1, .int .i64 most1, .int .i64 top1] (fun G => SlR (Rp.vec .u8 4) G (.slice x1p x1.length x1c) x1) (fun G v => ∃ zp zc, v = .slice zp r.length zc ∧ SlR (Rp.vec .i64 8) G (.slice zp r.length zc) r) := by
 refine Ctr.enter (args := [_, _, _, _]) (N := 52) Try.func13 rfl rfl rfl (fun w0 G0 hL0 hpre => ?_)
 have x1h := hpre
 refine sr <| sg rfl rfl <| nr ?_
 refine WL.litR (e := 48) (r := (Rp.vec .i64 8)) (vs := #[]) (cs := []) ([] : List (Fin 8 → Int)) guard_none rfl rfl rfl rfl (by decide) (fun _ => by kernel_rfl) (rfl) (key := 999) rfl (by rw [hL0]; rfl) (fun p1 Gv1 Gv1le p1h => ?_)
 refine sg rfl rfl <| nx <| WC.seq <| sr <| sg rfl rfl <| nx ?_
 refine WC.meetH (fun (gx : (List (Fin 8 → Int)) × Option Addr × Nat × Option Ow × Mem) => match gx with | ⟨out1, out1p, out1c, out1tk, Gm1⟩ => [(9, .slice out1p out1.length out1c)]) (fun (gx : (List (Fin 8 → Int)) × Option Addr × Nat × Option Ow × Mem) => match gx with | ⟨out1, out1p, out1c, out1tk, Gm1⟩ => Mem.le Gv1 Gm1 ∧ SlR (Rp.vec .i64 8) Gm1 (.slice out1p out1.length out1c) out1 ∧ Tok 8 48 (.slice out1p out1.length out1c) out1.length out1tk ∧ (R18_Made_k1 out1).Ret r) (fun (gx : (List (Fin 8 → Int)) × Option Addr × Nat × Option Ow × Mem) => match gx with | ⟨out1, out1p, out1c, out1tk, Gm1⟩ => St w0 G0 Gm1 [(1009, out1tk)]) ?_ ?_
 ·refine WC.block ?_
  let Phi1 : (((List (Fin 8 → Int)))) → Prop := fun oo => ((fun ov => match ov with | out1 => R18_Made_k1 out1 : (((List (Fin 8 → Int)))) → Comp ((List (Fin 8 → Int)))) oo).wp (fun a => a = r)
  replace hr : (Comp.loop _ _).wp Phi1 := hr
  refine WC.loopR (Φ := Phi1) (fun (gx : (List (Fin 8 → Int)) × Option Addr × Nat × Option Ow × Int × Mem) => match gx with | ⟨out2, out2p, out2c, out2tk, i1, Gm2⟩ => ((out2, i1) : (List (Fin 8 → Int)) × Int)) (fun (gx : (List (Fin 8 → Int)) × Option Addr × Nat × Option Ow × Int × Mem) => match gx with | ⟨out2, out2p, out2c, out2tk, i1, Gm2⟩ => [(0, .slice x1p x1.length x1c), (1, .int .i64 n1), (2, .int .i64 most1), (3, .int .i64 top1), (9, .slice out2p out2.length out2c), (10, .int .i64 i1)]) (fun (gx : (List (Fin 8 → Int)) × Option Addr × Nat × Option Ow × Int × Mem) => match gx with | ⟨out2, out2p, out2c, out2tk, i1, Gm2⟩ => Mem.le Gv1 Gm2 ∧ SlR (Rp.vec .i64 8) Gm2 (.slice out2p out2.length out2c) out2 ∧ Tok 8 48 (.slice out2p out2.length out2c) out2.length out2tk) (fun (gx : (List (Fin 8 → Int)) × Option Addr × Nat × Option Ow × Int × Mem) => match gx with | ⟨out2, out2p, out2c, out2tk, i1, Gm2⟩ => St w0 G0 Gm2 [(1009, out2tk)]) ⟨[], p1, 0, none, 0, Gv1⟩ hr (Fr.sub_cons rfl (Fr.sub_cons rfl (Fr.sub_cons rfl (Fr.sub_cons rfl (Fr.sub_cons rfl (Fr.sub_cons rfl (Fr.sub_nil _))))))) ⟨(Mem.le_refl _), p1h, Tok.full⟩ ?_ ?_
  ·intro w hs
   exact hs.weaken (Lo.sub_no (Lo.sub_nil _))
  ·intro Aq1 gx hx hr
   obtain ⟨out2, out2p, out2c, out2tk, i1, Gm2⟩ := gx
   obtain ⟨Gm2le, out2h, out2ht⟩ := hx
   refine WC.seq <| sr <| mv rfl rfl <| mv rfl rfl <| yy (Y0.lenR Try.underlying23 (x1h.mono (Mem.le_trans Gv1le Gm2le)) rfl) rfl ?_
   refine WL.caseY0 (p := i1 < (x1.length : Int)) guard_none (Y0.lss rfl rfl) rfl (fun hb1 => ?_) (fun hb1 => ?_)
   ·replace hr := hr.pos hb1
    refine mv rfl rfl ?_
    refine WL.y0' (guard_yes rfl rfl) (Y0.move rfl) rfl ?_
    refine WL.y0' (guard_yes rfl rfl) (Y0.move rfl) rfl ?_
    refine WL.y0' (guard_yes rfl rfl) (Y0.lss rfl rfl) rfl ?_
    refine yy (Y0.pickT rfl rfl) rfl <| nx ?_
    refine WC.condD (p := i1 < most1) rfl (fun hc1 => ?_) (fun hc1 => ?_)
    ·replace hr := hr.pos hc1
     refine WC.skip <| WE.then <| WC.seq <| WC.block <| sr <| yy (Y0.build (vs := #[]) (v := .agg (vecG (Value.int .i64) 8 (fun _ => 0)).toArray) rfl rfl (fun _ => by kernel_rfl)) rfl ?_
     refine WL.alloc 11 guard_none z48 rfl (fun b1 => ?_)
     refine WL.storeLA 11 guard_none sz48 rfl rfl rfl (vecG_size _ _ _) (vecG_size _ _ _) (fun u hu => Rp.one (Rp.vec .i64 8) (G := Gm2) (x := (fun _ => 0)) (cs := vecG (Value.int .i64) 8 (fun _ => 0)) rfl u (by simpa using hu)) ?_
     refine nx <| WC.seq <| sr <| sg rfl rfl <| nx ?_
     refine WC.meetH (fun (gx : (Fin 8 → Int) × Mem) => match gx with | ⟨bx1, Gm3⟩ => [(0, .slice x1p x1.length x1c), (1, .int .i64 n1), (2, .int .i64 most1), (3, .int .i64 top1), (9, .slice out2p out2.length out2c), (10, .int .i64 i1), (11, .pointer (some ⟨b1, 0, none⟩))]) (fun (gx : (Fin 8 → Int) × Mem) => match gx with | ⟨bx1, Gm3⟩ => Mem.le Gm2 Gm3 ∧ (R18_Made_k3 out2 i1 bx1).wp (Out Aq1 Phi1)) (fun (gx : (Fin 8 → Int) × Mem) => match gx with | ⟨bx1, Gm3⟩ => St w0 G0 Gm3 [(11, some ⟨b1, .cells (vecG (Value.int .i64) 8 bx1).toArray 48 (0, 0), 0⟩), (1009, out2tk)]) ?_ ?_
     ·refine WC.block ?_
      let Phi2 : (Fin 8 → Int) → Prop := fun oo => ((fun ov => match ov with | bx1 => R18_Made_k3 out2 i1 bx1 : (Fin 8 → Int) → Comp (((List (Fin 8 → Int)) × Int) ⊕ (((List (Fin 8 → Int)))))) oo).wp (Out Aq1 Phi1)
      replace hr : (Comp.loop _ _).wp Phi2 := hr
      refine WC.loopR (Φ := Phi2) (fun (gx : Int × (Fin 8 → Int) × Mem) => match gx with | ⟨k1, bx2, Gm4⟩ => ((k1, bx2) : Int × (Fin 8 → Int))) (fun (gx : Int × (Fin 8 → Int) × Mem) => match gx with | ⟨k1, bx2, Gm4⟩ => [(0, .slice x1p x1.length x1c), (1, .int .i64 n1), (2, .int .i64 most1), (3, .int .i64 top1), (9, .slice out2p out2.length out2c), (10, .int .i64 i1), (11, .pointer (some ⟨b1, 0, none⟩)), (12, .int .i64 k1)]) (fun (gx : Int × (Fin 8 → Int) × Mem) => match gx with | ⟨k1, bx2, Gm4⟩ => Mem.le Gm2 Gm4) (fun (gx : Int × (Fin 8 → Int) × Mem) => match gx with | ⟨k1, bx2, Gm4⟩ => St w0 G0 Gm4 [(11, some ⟨b1, .cells (vecG (Value.int .i64) 8 bx2).toArray 48 (0, 0), 0⟩), (1009, out2tk)]) ⟨0, (fun _ => 0), Gm2⟩ hr (Fr.sub_cons rfl (Fr.sub_cons rfl (Fr.sub_cons rfl (Fr.sub_cons rfl (Fr.sub_cons rfl (Fr.sub_cons rfl (Fr.sub_cons rfl (Fr.sub_cons rfl (Fr.sub_nil _))))))))) (Mem.le_refl _) ?_ ?_
      ·intro w hs
       exact hs.weaken (Lo.sub_cons rfl (Lo.sub_cons rfl (Lo.sub_nil _)))
      ·intro Aq2 gx hx hr
       obtain ⟨k1, bx2, Gm4⟩ := gx
       have Gm4le := hx
       refine WC.seq <| sr <| mv rfl rfl <| mv rfl rfl ?_
       refine WL.caseY0 (p := k1 < n1) guard_none (Y0.lss rfl rfl) rfl (fun hb2 => ?_) (fun hb2 => ?_)
       ·replace hr := hr.pos hb2
        refine mv rfl rfl ?_
        refine WL.y0' (guard_yes rfl rfl) (Y0.move rfl) rfl ?_
        refine WL.y0' (guard_yes rfl rfl) (Y0.lss rfl rfl) rfl ?_
        refine yy (Y0.pickT rfl rfl) rfl <| nx ?_
        refine WC.condD (p := k1 < 4) rfl (fun hc2 => ?_) (fun hc2 => ?_)
        ·replace hr := hr.pos hc2
         refine WC.skip <| WE.then <| WC.seq <| WC.block <| WC.region <| mv rfl rfl ?_
         refine mv rfl rfl <| mv rfl rfl <| mv rfl rfl ?_
         obtain ⟨x2, hx2, hr⟩ := hr
         refine yy (Y0.idxR Try.underlying23 sz65 (x1h.mono (Mem.le_trans (Mem.le_trans Gv1le Gm2le) Gm4le)) rfl rfl hx2) rfl ?_
         obtain ⟨hi1, hr⟩ := hr
         refine yy (Y0.idxA Try.underlying65 sz5 rfl rfl hi1) rfl <| yy (Y0.loadG sc5 rfl (AtK.vecAt (At.mono (SlR.at x1h hx2) (Mem.le_trans (Mem.le_trans Gv1le Gm2le) Gm4le)) hi1)) rfl <| yy (Y0.conv Try.underlying5 Try.underlying3 rfl) rfl ?_
         refine mv rfl rfl <| yy (Y0.add rfl rfl) rfl ?_
         obtain ⟨hd1, hr⟩ := hr
         refine yy (Y0.rem rfl rfl hd1) rfl ?_
         obtain ⟨hi2, hr⟩ := hr
         refine yy (Y0.idxA0 Try.underlying48 sz3 rfl rfl hi2) rfl ?_
         refine WL.storeL 11 (vecG (Value.int .i64) 8 (setF bx2 k1.toNat (Int.tmod (IntKind.i64.wrap (getF x2 k1)) (IntKind.i64.wrap (top1 + 1))))).toArray guard_none sz3 rfl rfl rfl (by first | (rw [vecG_size]; omega) | (show _ < (vecG _ _ _).toArray.size; rw [vecG_size]; omega)) rfl (vecG_put _ _ _ _ _) ?_
         refine WL.nil ?_
         refine WE.inBlock ?_
         refine WE.then <| WC.region <| mv rfl rfl <| yy (Y0.add rfl rfl) rfl <| sg rfl rfl <| WL.nil ?_
         refine WE.backR ⟨IntKind.i64.wrap (k1 + 1), setF bx2 k1.toNat (Int.tmod (IntKind.i64.wrap (getF x2 k1)) (IntKind.i64.wrap (top1 + 1))), Gm4⟩ hr Gm4le (Fr.sub_cons rfl (Fr.sub_cons rfl (Fr.sub_cons rfl (Fr.sub_cons rfl (Fr.sub_cons rfl (Fr.sub_cons rfl (Fr.sub_cons rfl (Fr.sub_cons rfl (Fr.sub_nil _))))))))) ?_
         ·intro w hs
          exact hs.weaken (Lo.sub_cons rfl (Lo.sub_cons rfl (Lo.sub_nil _)))
        ·replace hr := hr.neg hc2
         refine WC.exit ?_
         refine WE.thenExit ?_
         refine WE.thenExit ?_
         refine WE.exitHere ?_
         refine WE.endH ⟨bx2, Gm4⟩ ⟨Gm4le, hr⟩ (Fr.sub_cons rfl (Fr.sub_cons rfl (Fr.sub_cons rfl (Fr.sub_cons rfl (Fr.sub_cons rfl (Fr.sub_cons rfl (Fr.sub_cons rfl (Fr.sub_nil _)))))))) ?_
         ·intro w hs
          exact hs.weaken (Lo.sub_cons rfl (Lo.sub_cons rfl (Lo.sub_nil _)))
       ·replace hr := hr.neg hb2
        refine mv rfl rfl <| sk rfl rfl rfl <| sk rfl rfl rfl <| yy (Y0.pickF rfl rfl) rfl <| nx ?_
        refine WC.condF rfl ?_
        refine WC.exit ?_
        refine WE.thenExit ?_
        refine WE.thenExit ?_
        refine WE.exitHere ?_
        refine WE.endH ⟨bx2, Gm4⟩ ⟨Gm4le, hr⟩ (Fr.sub_cons rfl (Fr.sub_cons rfl (Fr.sub_cons rfl (Fr.sub_cons rfl (Fr.sub_cons rfl (Fr.sub_cons rfl (Fr.sub_cons rfl (Fr.sub_nil _)))))))) ?_
        ·intro w hs
         exact hs.weaken (Lo.sub_cons rfl (Lo.sub_cons rfl (Lo.sub_nil _)))
     ·rintro ⟨bx1, Gm3⟩ ⟨Gm3le, hr⟩
      refine WE.then <| WC.region <| mv rfl rfl <| yy (Y0.loadLA 11 ag48 rfl rfl (vecG_size _ _ _)) rfl ?_
      refine WL.litR (e := 48) (r := (Rp.vec .i64 8)) (vs := #[(0, .agg (vecG (Value.int .i64) 8 bx1).toArray)]) (cs := (vecG (Value.int .i64) 8 bx1) ++ ([])) ([bx1] : List (Fin 8 → Int)) guard_none rfl rfl rfl rfl (by decide) (fun _ => by kernel_rfl) ⟨vecG (Value.int .i64) 8 bx1, [], rfl, rfl, rfl⟩ (key := 999) rfl (by rw [hL0]; rfl) (fun p2 Gv2 Gv2le p2h => ?_)
      obtain ⟨hsm1, hr⟩ := hr
      refine WL.appendR (r := (Rp.vec .i64 8)) 1009 guard_none rfl Try.underlying28 el48 rfl (by decide) rfl rfl (out2h.mono (Mem.le_trans Gm3le Gv2le)) rfl (by rw [hL0]; rfl) out2ht p2h hsm1 (fun p3 p3c p3tk Gv3 Gv3le p3h p3ht => ?_)
      refine sg rfl rfl <| WL.nil ?_
      refine WE.inBlock ?_
      refine WE.then <| WC.region <| mv rfl rfl <| yy (Y0.add rfl rfl) rfl <| sg rfl rfl <| WL.nil ?_
      refine WE.backR ⟨(out2 ++ [bx1]), p3, p3c, p3tk, IntKind.i64.wrap (i1 + 1), Gv3⟩ hr ⟨(Mem.le_trans (Mem.le_trans (Mem.le_trans Gm2le Gm3le) Gv2le) Gv3le), p3h, p3ht⟩ (Fr.sub_cons rfl (Fr.sub_cons rfl (Fr.sub_cons rfl (Fr.sub_cons rfl (Fr.sub_cons rfl (Fr.sub_cons rfl (Fr.sub_nil _))))))) ?_
      ·intro w hs
       exact hs.weaken (Lo.sub_cons rfl (Lo.sub_nil _))
    ·replace hr := hr.neg hc1
     refine WC.exit ?_
     refine WE.thenExit ?_
     refine WE.thenExit ?_
     refine WE.exitHere ?_
     refine WE.endH ⟨out2, out2p, out2c, out2tk, Gm2⟩ ⟨Gm2le, out2h, out2ht, hr⟩ (Fr.sub_cons rfl (Fr.sub_nil _)) ?_
     ·intro w hs
      exact hs.weaken (Lo.sub_cons rfl (Lo.sub_nil _))
   ·replace hr := hr.neg hb1
    refine mv rfl rfl <| sk rfl rfl rfl <| sk rfl rfl rfl <| sk rfl rfl rfl <| yy (Y0.pickF rfl rfl) rfl <| nx ?_
    refine WC.condF rfl ?_
    refine WC.exit ?_
    refine WE.thenExit ?_
    refine WE.thenExit ?_
    refine WE.exitHere ?_
    refine WE.endH ⟨out2, out2p, out2c, out2tk, Gm2⟩ ⟨Gm2le, out2h, out2ht, hr⟩ (Fr.sub_cons rfl (Fr.sub_nil _)) ?_
    ·intro w hs
     exact hs.weaken (Lo.sub_cons rfl (Lo.sub_nil _))
 ·rintro ⟨out1, out1p, out1c, out1tk, Gm1⟩ ⟨Gm1le, out1h, out1ht, hr⟩
  refine WE.then <| sr <| mv rfl rfl <| sg rfl rfl <| nx ?_
  refine WC.ret ?_
  replace hr : _ = r := hr
  subst hr
  exact WE.ret1 rfl rfl ⟨_, _, rfl, out1h⟩
theorem L_law21_made (x1 : T_law21_Input) (x1lp : Option Addr) (x1lc : Nat) (r : (List (Fin 8 → Int))) (hr : (law21_made x1).Ret r) : Ctr Try.prog 29 #[.agg ([.slice x1lp x1.l.length x1lc, .int .u8 x1.n]).toArray] (fun G => SlR (Rp.vec .u8 4) G (.slice x1lp x1.l.length x1lc) x1.l) (fun G v => ∃ zp zc, v = .slice zp r.length zc ∧ SlR (Rp.vec .i64 8) G (.slice zp r.length zc) r) := by
 refine Ctr.enter (args := [_]) (N := 10) Try.func29 rfl rfl rfl (fun w0 G0 hL0 hpre => ?_)
 have x1lh := hpre
 refine sr ?_
 refine WL.box 1 guard_none rfl rfl (fun b1 => ?_)
 refine sg rfl rfl <| nr <| yy (Y0.fieldAddr Try.underlying25 rfl (fun _ => by kernel_rfl) rfl) rfl <| yy (Y0.loadL 1 sc23 rfl rfl rfl) rfl <| yy (Y0.fieldAddr Try.underlying25 rfl (fun _ => by kernel_rfl) rfl) rfl ?_
 refine yy (Y0.loadL 1 sc5 rfl rfl rfl) rfl <| yy (Y0.rem rfl rfl (by decide)) rfl <| yy (Y0.conv Try.underlying5 Try.underlying3 rfl) rfl ?_
 obtain ⟨yv1, hyv1, hr⟩ := hr
 refine WL.call guard_none rfl (YC.of E13 rfl) (L_R18_Made _ _ _ _ _ _ _ hyv1) rfl (x1lh) (fun yv1v Gv1 Gv1le yv1post => ?_)
 obtain ⟨yv1p, yv1c, rfl, yv1h⟩ := yv1post
 refine sg rfl rfl <| nx ?_
 refine WC.ret ?_
 replace hr : _ = r := hr
 subst hr
 exact WE.ret1 rfl rfl ⟨_, _, rfl, yv1h⟩
theorem L_R18_Ones (setv1 : Int) (r : Int) (hr : (R18_Ones setv1).Ret r) : Ctr Try.prog 40 #[.int .u8 setv1] (fun G => True) (fun G v => v = .int .i64 r) := by
 refine Ctr.enter (args := [_]) (N := 17) Try.func40 rfl rfl rfl (fun w0 G0 hL0 hpre => ?_)
 refine sr <| sg rfl rfl <| nr <| sg rfl rfl <| nx <| WC.seq ?_
 refine sr <| sg rfl rfl <| nx ?_
 refine WC.meetH (fun (gx : Int × Mem) => match gx with | ⟨out1, Gm1⟩ => [(3, .int .i64 out1)]) (fun (gx : Int × Mem) => match gx with | ⟨out1, Gm1⟩ => Mem.le G0 Gm1 ∧ (R18_Ones_k1 out1).Ret r) (fun (gx : Int × Mem) => match gx with | ⟨out1, Gm1⟩ => St w0 G0 Gm1 []) ?_ ?_
 ·refine WC.block ?_
  let Phi1 : Int → Prop := fun oo => ((fun ov => match ov with | out1 => R18_Ones_k1 out1 : Int → Comp Int) oo).wp (fun a => a = r)
  replace hr : (Comp.loop _ _).wp Phi1 := hr
  refine WC.loopR (Φ := Phi1) (fun (gx : Int × Int × Mem) => match gx with | ⟨out2, i1, Gm2⟩ => ((out2, i1) : Int × Int)) (fun (gx : Int × Int × Mem) => match gx with | ⟨out2, i1, Gm2⟩ => [(0, .int .u8 setv1), (3, .int .i64 out2), (4, .int .i64 i1)]) (fun (gx : Int × Int × Mem) => match gx with | ⟨out2, i1, Gm2⟩ => Mem.le G0 Gm2) (fun (gx : Int × Int × Mem) => match gx with | ⟨out2, i1, Gm2⟩ => St w0 G0 Gm2 []) ⟨0, 0, G0⟩ hr (Fr.sub_cons rfl (Fr.sub_cons rfl (Fr.sub_cons rfl (Fr.sub_nil _)))) (Mem.le_refl _) ?_ ?_
  ·intro w hs
   exact hs.weaken (Lo.sub_nil _)
  ·intro Aq1 gx hx hr
   obtain ⟨out2, i1, Gm2⟩ := gx
   have Gm2le := hx
   refine WC.seq <| sr <| mv rfl rfl <| yy (Y0.lss rfl rfl) rfl <| nx ?_
   refine WC.condD (p := i1 < 8) rfl (fun hc1 => ?_) (fun hc1 => ?_)
   ·replace hr := hr.pos hc1
    refine WC.skip <| WE.then <| WC.seq <| WC.block <| WC.region <| mv rfl rfl ?_
    refine mv rfl rfl <| yy (Y0.conv Try.underlying5 Try.underlying3 rfl) rfl <| mv rfl rfl ?_
    obtain ⟨hd1, hr⟩ := hr
    refine yy (Y0.shr rfl rfl hd1) rfl <| yy (Y0.rem rfl rfl (by decide)) rfl <| yy (Y0.add rfl rfl) rfl <| sg rfl rfl <| WL.nil ?_
    refine WE.inBlock ?_
    refine WE.then <| WC.region <| mv rfl rfl <| yy (Y0.add rfl rfl) rfl <| sg rfl rfl <| WL.nil ?_
    refine WE.backR ⟨IntKind.i64.wrap (out2 + (Int.tmod (Int.fdiv (IntKind.i64.wrap setv1) (2 ^ (min (i1).toNat IntKind.i64.bits))) 2)), IntKind.i64.wrap (i1 + 1), Gm2⟩ hr Gm2le (Fr.sub_cons rfl (Fr.sub_cons rfl (Fr.sub_cons rfl (Fr.sub_nil _)))) ?_
    ·intro w hs
     exact hs.weaken (Lo.sub_nil _)
   ·replace hr := hr.neg hc1
    refine WC.exit ?_
    refine WE.thenExit ?_
    refine WE.thenExit ?_
    refine WE.exitHere ?_
    refine WE.endH ⟨out2, Gm2⟩ ⟨Gm2le, hr⟩ (Fr.sub_cons rfl (Fr.sub_nil _)) ?_
    ·intro w hs
     exact hs.weaken (Lo.sub_nil _)
 ·rintro ⟨out1, Gm1⟩ ⟨Gm1le, hr⟩
  refine WE.then <| sr <| mv rfl rfl <| sg rfl rfl <| nx ?_
  refine WC.ret ?_
  replace hr : _ = r := hr
  subst hr
  exact WE.ret1 rfl rfl rfl
theorem L_slices_Max_int_int (x1 : (List Int)) (x1p : Option Addr) (x1c : Nat) (r : Int) (hr : (slices_Max_int_int x1).Ret r) : Ctr Try.prog 82 #[.slice x1p x1.length x1c] (fun G => SlR (Rp.int .i64) G (.slice x1p x1.length x1c) x1) (fun G v => v = .int .i64 r) := by
 refine Ctr.enter (args := [_]) (N := 25) Try.func82 rfl rfl rfl (fun w0 G0 hL0 hpre => ?_)
 have x1h := hpre
 refine sr <| sg rfl rfl <| nx ?_
 refine WC.seqH (fun (gx : Mem) => match gx with | Gm1 => [(0, .slice x1p x1.length x1c)]) (fun (gx : Mem) => match gx with | Gm1 => Mem.le G0 Gm1 ∧ (slices_Max_int_int_k3 x1).Ret r) (fun (gx : Mem) => match gx with | Gm1 => St w0 G0 Gm1 []) ?_ ?_
 ·skip
  refine sr <| mv rfl rfl <| yy (Y0.lenR Try.underlying95 x1h rfl) rfl <| yy (Y0.lss rfl rfl) rfl <| nx ?_
  refine WC.condD (p := (x1.length : Int) < 1) rfl (fun hc2 => ?_) (fun hc2 => ?_)
  ·replace hr := hr.pos hc2
   exact (show False from hr).elim
  ·replace hr := hr.neg hc2
   refine WC.skip ?_
   refine WE.midH G0 ⟨(Mem.le_refl _), hr⟩ (Fr.sub_cons rfl (Fr.sub_nil _)) ?_
   ·intro w hs
    exact hs.weaken (Lo.sub_nil _)
 ·rintro Gm1 ⟨Gm1le, hr⟩
  refine sr <| mv rfl rfl ?_
  obtain ⟨x2, hx2, hr⟩ := hr
  refine yy (Y0.idxR Try.underlying95 sz3 (x1h.mono Gm1le) rfl rfl hx2) rfl <| yy (Y0.loadG sc3 rfl (AtK.int (At.mono (SlR.at x1h hx2) Gm1le))) rfl <| sg rfl rfl <| nx <| WC.seq <| sr ?_
  refine sg rfl rfl <| nx ?_
  refine WC.meetH (fun (gx : Int × Mem) => match gx with | ⟨m1, Gm2⟩ => [(3, .int .i64 m1)]) (fun (gx : Int × Mem) => match gx with | ⟨m1, Gm2⟩ => Mem.le Gm1 Gm2 ∧ (slices_Max_int_int_k1 m1).Ret r) (fun (gx : Int × Mem) => match gx with | ⟨m1, Gm2⟩ => St w0 G0 Gm2 []) ?_ ?_
  ·refine WC.block ?_
   let Phi1 : Int → Prop := fun oo => ((fun ov => match ov with | m1 => slices_Max_int_int_k1 m1 : Int → Comp Int) oo).wp (fun a => a = r)
   replace hr : (Comp.loop _ _).wp Phi1 := hr
   refine WC.loopR (Φ := Phi1) (fun (gx : Int × Int × Mem) => match gx with | ⟨m2, i1, Gm3⟩ => ((m2, i1) : Int × Int)) (fun (gx : Int × Int × Mem) => match gx with | ⟨m2, i1, Gm3⟩ => [(0, .slice x1p x1.length x1c), (3, .int .i64 m2), (4, .int .i64 i1)]) (fun (gx : Int × Int × Mem) => match gx with | ⟨m2, i1, Gm3⟩ => Mem.le Gm1 Gm3) (fun (gx : Int × Int × Mem) => match gx with | ⟨m2, i1, Gm3⟩ => St w0 G0 Gm3 []) ⟨x2, 1, Gm1⟩ hr (Fr.sub_cons rfl (Fr.sub_cons rfl (Fr.sub_cons rfl (Fr.sub_nil _)))) (Mem.le_refl _) ?_ ?_
   ·intro w hs
    exact hs.weaken (Lo.sub_nil _)
   ·intro Aq1 gx hx hr
    obtain ⟨m2, i1, Gm3⟩ := gx
    have Gm3le := hx
    refine WC.seq <| sr <| mv rfl rfl <| mv rfl rfl <| yy (Y0.lenR Try.underlying95 (x1h.mono (Mem.le_trans Gm1le Gm3le)) rfl) rfl <| yy (Y0.lss rfl rfl) rfl ?_
    refine nx ?_
    refine WC.condD (p := i1 < (x1.length : Int)) rfl (fun hc1 => ?_) (fun hc1 => ?_)
    ·replace hr := hr.pos hc1
     refine WC.skip <| WE.then <| WC.seq <| WC.block <| WC.region <| mv rfl rfl ?_
     refine mv rfl rfl <| mv rfl rfl ?_
     obtain ⟨x3, hx3, hr⟩ := hr
     refine yy (Y0.idxR Try.underlying95 sz3 (x1h.mono (Mem.le_trans Gm1le Gm3le)) rfl rfl hx3) rfl <| yy (Y0.loadG sc3 rfl (AtK.int (At.mono (SlR.at x1h hx3) (Mem.le_trans Gm1le Gm3le)))) rfl <| yy (Y0.max2 rfl rfl) rfl ?_
     refine sg rfl rfl <| WL.nil ?_
     refine WE.inBlock ?_
     refine WE.then <| WC.region <| mv rfl rfl <| yy (Y0.add rfl rfl) rfl <| sg rfl rfl <| WL.nil ?_
     refine WE.backR ⟨if m2 < x3 then x3 else m2, IntKind.i64.wrap (i1 + 1), Gm3⟩ hr Gm3le (Fr.sub_cons rfl (Fr.sub_cons rfl (Fr.sub_cons rfl (Fr.sub_nil _)))) ?_
     ·intro w hs
      exact hs.weaken (Lo.sub_nil _)
    ·replace hr := hr.neg hc1
     refine WC.exit ?_
     refine WE.thenExit ?_
     refine WE.thenExit ?_
     refine WE.exitHere ?_
     refine WE.endH ⟨m2, Gm3⟩ ⟨Gm3le, hr⟩ (Fr.sub_cons rfl (Fr.sub_nil _)) ?_
     ·intro w hs
      exact hs.weaken (Lo.sub_nil _)
  ·rintro ⟨m1, Gm2⟩ ⟨Gm2le, hr⟩
   refine WE.then <| sr <| mv rfl rfl <| sg rfl rfl <| nx ?_
   refine WC.ret ?_
   replace hr : _ = r := hr
   subst hr
   exact WE.ret1 rfl rfl rfl
theorem L_hilbert_check (l1 : (List (Fin 8 → Int))) (n1 : Int) (l1p : Option Addr) (l1c : Nat) (r : Int) (hr : (hilbert_check l1 n1).Ret r) : Ctr Try.prog 62 #[.slice l1p l1.length l1c, .int .i64 n1] (fun G => SlR (Rp.vec .i64 8) G (.slice l1p l1.length l1c) l1) (fun G v => v = .int .i64 r) := by
 refine Ctr.enter (args := [_, _]) (N := 46) Try.func62 rfl rfl rfl (fun w0 G0 hL0 hpre => ?_)
 have l1h := hpre
 refine sr <| sg rfl rfl <| nx <| WC.seq <| sr <| mv rfl rfl ?_
 refine WL.caseY0 (p := n1 < 0) guard_none (Y0.lss rfl rfl) rfl (fun hb1 => ?_) (fun hb1 => ?_)
 ·replace hr := hr.pos hb1
  refine mv rfl rfl ?_
  refine WL.skip (guard_noF rfl rfl) rfl ?_
  refine WL.skip (guard_noF rfl rfl) rfl ?_
  refine yy (Y0.pickT rfl rfl) rfl <| nx ?_
  refine WC.condT rfl ?_
  refine sr <| sg rfl rfl <| nx ?_
  refine WC.ret ?_
  replace hr : _ = r := hr
  refine WE.thenRet ?_
  subst hr
  exact WE.ret1 rfl rfl rfl
 ·replace hr := hr.neg hb1
  refine mv rfl rfl ?_
  refine WL.y0' (guard_yes rfl rfl) (Y0.move rfl) rfl ?_
  refine WL.y0' (guard_yes rfl rfl) (Y0.gtr rfl rfl) rfl ?_
  refine yy (Y0.pickF rfl rfl) rfl <| nx ?_
  refine WC.condD (p := 8 < n1) rfl (fun hc1 => ?_) (fun hc1 => ?_)
  ·replace hr := hr.pos hc1
   refine sr <| sg rfl rfl <| nx ?_
   refine WC.ret ?_
   replace hr : _ = r := hr
   refine WE.thenRet ?_
   subst hr
   exact WE.ret1 rfl rfl rfl
  ·replace hr := hr.neg hc1
   refine WC.skip <| WE.then <| WC.seq <| sr <| mv rfl rfl <| yy (Y0.lenR Try.underlying28 l1h rfl) rfl ?_
   refine mv rfl rfl <| nx ?_
   refine WC.meetH (fun (gx : Mem) => match gx with | Gm1 => [(0, .slice l1p l1.length l1c)]) (fun (gx : Mem) => match gx with | Gm1 => Mem.le G0 Gm1 ∧ (hilbert_check_k3 l1).Ret r) (fun (gx : Mem) => match gx with | Gm1 => St w0 G0 Gm1 []) ?_ ?_
   ·refine WC.block ?_
    let Phi2 : (Int ⊕ Unit) → Prop := fun oo => ((fun ov => match ov with | .inl rv2 => Comp.ret rv2 | .inr () => hilbert_check_k3 l1 : (Int ⊕ Unit) → Comp Int) oo).wp (fun a => a = r)
    replace hr : (Comp.loop _ _).wp Phi2 := hr
    refine WC.loopR (Φ := Phi2) (fun (gx : Int × Mem) => match gx with | ⟨v17_1, Gm4⟩ => (v17_1 : Int)) (fun (gx : Int × Mem) => match gx with | ⟨v17_1, Gm4⟩ => [(0, .slice l1p l1.length l1c), (1, .int .i64 n1), (15, .slice l1p l1.length l1c), (16, .int .i64 (l1.length : Int)), (17, .int .i64 v17_1)]) (fun (gx : Int × Mem) => match gx with | ⟨v17_1, Gm4⟩ => Mem.le G0 Gm4) (fun (gx : Int × Mem) => match gx with | ⟨v17_1, Gm4⟩ => St w0 G0 Gm4 []) ⟨0, G0⟩ hr (Fr.sub_cons rfl (Fr.sub_cons rfl (Fr.sub_cons rfl (Fr.sub_cons rfl (Fr.sub_cons rfl (Fr.sub_nil _)))))) (Mem.le_refl _) ?_ ?_
    ·intro w hs
     exact hs.weaken (Lo.sub_nil _)
    ·intro Aq2 gx hx hr
     obtain ⟨v17_1, Gm4⟩ := gx
     have Gm4le := hx
     refine sr <| yy (Y0.lss rfl rfl) rfl <| nx <| WC.seq ?_
     refine WC.condD (p := v17_1 < (l1.length : Int)) rfl (fun hc5 => ?_) (fun hc5 => ?_)
     ·replace hr := hr.pos hc5
      refine WC.skip <| WE.then <| WC.seq <| WC.block <| sr ?_
      obtain ⟨x2, hx2, hr⟩ := hr
      refine yy (Y0.idxR Try.underlying28 sz48 (l1h.mono Gm4le) rfl rfl hx2) rfl <| yy (Y0.loadGA _ ag48 rfl (vecG_size _ _ _) (AtK.vec (At.mono (SlR.at l1h hx2) Gm4le))) rfl ?_
      refine WL.alloc 6 guard_none z48 rfl (fun b2 => ?_)
      refine WL.storeLA 6 guard_none sz48 rfl rfl rfl (vecG_size _ _ _) (vecG_size _ _ _) (fun u hu => Rp.one (Rp.vec .i64 8) (G := Gm4) (x := x2) (cs := vecG (Value.int .i64) 8 x2) rfl u (by simpa using hu)) ?_
      refine nr <| yy (Y0.loadLA 6 ag48 rfl rfl (vecG_size _ _ _)) rfl ?_
      obtain ⟨yv2, hyv2, hr⟩ := hr
      refine WL.call0 guard_none rfl (YC.of E64 rfl) (L_monomial_Valid _ _ hyv2) rfl (trivial) ?_
      cases yv2
      ·skip
       refine yy (Y0.not rfl) rfl <| mv rfl rfl ?_
       refine WL.skip (guard_noF rfl rfl) rfl ?_
       refine WL.skip (guard_noF rfl rfl) rfl ?_
       refine WL.skip (guard_noF rfl rfl) rfl ?_
       refine WL.skip (guard_noF rfl rfl) rfl ?_
       refine WL.skip (guard_noF rfl rfl) rfl ?_
       refine WL.skip (guard_noF rfl rfl) rfl ?_
       refine yy (Y0.pickT rfl rfl) rfl <| nx ?_
       refine WC.condT rfl ?_
       refine sr <| sg rfl rfl <| nx ?_
       refine WC.ret ?_
       replace hr : _ = r := hr
       refine WE.inBlockRet ?_
       refine WE.thenRet ?_
       refine WE.thenRet ?_
       refine WE.inBlockRet ?_
       refine WE.endRet ?_
       refine WE.thenRet ?_
       subst hr
       exact WE.ret1 rfl rfl rfl
      ·skip
       refine yy (Y0.not rfl) rfl <| mv rfl rfl ?_
       refine WL.y0' (guard_yes rfl rfl) (Y0.loadLA 6 ag48 rfl rfl (vecG_size _ _ _)) rfl ?_
       obtain ⟨yv3, hyv3, hr⟩ := hr
       refine WL.call0 (guard_yes rfl rfl) rfl (YC.of E65 rfl) (L_monomial_Support _ _ hyv3) rfl (trivial) ?_
       refine WL.y0' (guard_yes rfl rfl) (Y0.conv Try.underlying5 Try.underlying3 rfl) rfl ?_
       refine WL.y0' (guard_yes rfl rfl) (Y0.move rfl) rfl ?_
       obtain ⟨hd1, hr⟩ := hr
       refine WL.y0' (guard_yes rfl rfl) (Y0.shr rfl rfl hd1) rfl ?_
       refine WL.y0' (guard_yes rfl rfl) (Y0.neq rfl rfl) rfl ?_
       refine yy (Y0.pickF rfl rfl) rfl <| nx ?_
       refine WC.condD (p := ¬ (Int.fdiv (IntKind.i64.wrap yv3) (2 ^ (min (n1).toNat IntKind.i64.bits))) = 0) rfl (fun hc6 => ?_) (fun hc6 => ?_)
       ·replace hr := hr.pos hc6
        refine sr <| sg rfl rfl <| nx ?_
        refine WC.ret ?_
        replace hr : _ = r := hr
        refine WE.inBlockRet ?_
        refine WE.thenRet ?_
        refine WE.thenRet ?_
        refine WE.inBlockRet ?_
        refine WE.endRet ?_
        refine WE.thenRet ?_
        subst hr
        exact WE.ret1 rfl rfl rfl
       ·replace hr := hr.neg hc6
        refine WC.skip ?_
        refine WE.inBlock ?_
        refine WE.then <| WC.region <| yy (Y0.add rfl rfl) rfl <| mv rfl rfl <| WL.nil ?_
        refine WE.backR ⟨IntKind.i64.wrap (v17_1 + 1), Gm4⟩ hr Gm4le (Fr.sub_cons rfl (Fr.sub_cons rfl (Fr.sub_cons rfl (Fr.sub_cons rfl (Fr.sub_cons rfl (Fr.sub_nil _)))))) ?_
        ·intro w hs
         exact hs.weaken (Lo.sub_nil _)
     ·replace hr := hr.neg hc5
      refine WC.exit ?_
      refine WE.thenExit ?_
      refine WE.thenExit ?_
      refine WE.exitHere ?_
      refine WE.endH Gm4 ⟨Gm4le, hr⟩ (Fr.sub_cons rfl (Fr.sub_nil _)) ?_
      ·intro w hs
       exact hs.weaken (Lo.sub_nil _)
   ·rintro Gm1 ⟨Gm1le, hr⟩
    refine WE.then <| WC.seq <| sr <| mv rfl rfl <| yy (Y0.lenR Try.underlying28 (l1h.mono Gm1le) rfl) rfl <| yy (Y0.gtr rfl rfl) rfl ?_
    refine nx ?_
    refine WC.condD (p := 12 < (l1.length : Int)) rfl (fun hc2 => ?_) (fun hc2 => ?_)
    ·replace hr := hr.pos hc2
     refine sr <| sg rfl rfl <| nx ?_
     refine WC.ret ?_
     replace hr : _ = r := hr
     refine WE.thenRet ?_
     subst hr
     exact WE.ret1 rfl rfl rfl
    ·replace hr := hr.neg hc2
     refine WC.skip <| WE.then <| WC.seq <| sr <| mv rfl rfl <| yy (Y0.lenR Try.underlying28 (l1h.mono Gm1le) rfl) rfl ?_
     refine mv rfl rfl <| nx ?_
     refine WC.meetH (fun (gx : Mem) => match gx with | Gm2 => []) (fun (gx : Mem) => match gx with | Gm2 => Mem.le Gm1 Gm2 ∧ (hilbert_check_k1).Ret r) (fun (gx : Mem) => match gx with | Gm2 => St w0 G0 Gm2 []) ?_ ?_
     ·refine WC.block ?_
      let Phi1 : (Int ⊕ Unit) → Prop := fun oo => ((fun ov => match ov with | .inl rv1 => Comp.ret rv1 | .inr () => hilbert_check_k1 : (Int ⊕ Unit) → Comp Int) oo).wp (fun a => a = r)
      replace hr : (Comp.loop _ _).wp Phi1 := hr
      refine WC.loopR (Φ := Phi1) (fun (gx : Int × Mem) => match gx with | ⟨v38_1, Gm3⟩ => (v38_1 : Int)) (fun (gx : Int × Mem) => match gx with | ⟨v38_1, Gm3⟩ => [(36, .slice l1p l1.length l1c), (37, .int .i64 (l1.length : Int)), (38, .int .i64 v38_1)]) (fun (gx : Int × Mem) => match gx with | ⟨v38_1, Gm3⟩ => Mem.le Gm1 Gm3) (fun (gx : Int × Mem) => match gx with | ⟨v38_1, Gm3⟩ => St w0 G0 Gm3 []) ⟨0, Gm1⟩ hr (Fr.sub_cons rfl (Fr.sub_cons rfl (Fr.sub_cons rfl (Fr.sub_nil _)))) (Mem.le_refl _) ?_ ?_
      ·intro w hs
       exact hs.weaken (Lo.sub_nil _)
      ·intro Aq1 gx hx hr
       obtain ⟨v38_1, Gm3⟩ := gx
       have Gm3le := hx
       refine sr <| yy (Y0.lss rfl rfl) rfl <| nx <| WC.seq ?_
       refine WC.condD (p := v38_1 < (l1.length : Int)) rfl (fun hc3 => ?_) (fun hc3 => ?_)
       ·replace hr := hr.pos hc3
        refine WC.skip <| WE.then <| WC.seq <| WC.block <| sr ?_
        obtain ⟨x1, hx1, hr⟩ := hr
        refine yy (Y0.idxR Try.underlying28 sz48 (l1h.mono (Mem.le_trans Gm1le Gm3le)) rfl rfl hx1) rfl <| yy (Y0.loadGA _ ag48 rfl (vecG_size _ _ _) (AtK.vec (At.mono (SlR.at l1h hx1) (Mem.le_trans Gm1le Gm3le)))) rfl ?_
        refine WL.alloc 8 guard_none z48 rfl (fun b1 => ?_)
        refine WL.storeLA 8 guard_none sz48 rfl rfl rfl (vecG_size _ _ _) (vecG_size _ _ _) (fun u hu => Rp.one (Rp.vec .i64 8) (G := Gm3) (x := x1) (cs := vecG (Value.int .i64) 8 x1) rfl u (by simpa using hu)) ?_
        refine nr ?_
        refine WL.sliceBox 8 guard_none rfl Try.underlying48 sz3 (by decide) rfl rfl (by rw [hL0]; rfl) (fun p1 Gv1 Gv1le p1h => ?_)
        obtain ⟨yv1, hyv1, hr⟩ := hr
        refine WL.call0 guard_none rfl (YC.of E82 rfl) (L_slices_Max_int_int _ _ _ _ hyv1) rfl (p1h) ?_
        refine yy (Y0.gtr rfl rfl) rfl <| nx ?_
        refine WC.condD (p := 64 < yv1) rfl (fun hc4 => ?_) (fun hc4 => ?_)
        ·replace hr := hr.pos hc4
         refine sr <| sg rfl rfl <| nx ?_
         refine WC.ret ?_
         replace hr : _ = r := hr
         refine WE.inBlockRet ?_
         refine WE.thenRet ?_
         refine WE.thenRet ?_
         refine WE.inBlockRet ?_
         refine WE.endRet ?_
         refine WE.thenRet ?_
         subst hr
         exact WE.ret1 rfl rfl rfl
        ·replace hr := hr.neg hc4
         refine WC.skip ?_
         refine WE.inBlock ?_
         refine WE.then <| WC.region <| yy (Y0.add rfl rfl) rfl <| mv rfl rfl <| WL.nil ?_
         refine WE.backR ⟨IntKind.i64.wrap (v38_1 + 1), Gv1⟩ hr (Mem.le_trans Gm3le Gv1le) (Fr.sub_cons rfl (Fr.sub_cons rfl (Fr.sub_cons rfl (Fr.sub_nil _)))) ?_
         ·intro w hs
          exact hs.weaken (Lo.sub_nil _)
       ·replace hr := hr.neg hc3
        refine WC.exit ?_
        refine WE.thenExit ?_
        refine WE.thenExit ?_
        refine WE.exitHere ?_
        refine WE.endH Gm3 ⟨Gm3le, hr⟩ (Fr.sub_nil _) ?_
        ·intro w hs
         exact hs.weaken (Lo.sub_nil _)
     ·rintro Gm2 ⟨Gm2le, hr⟩
      refine WE.then <| sr <| sg rfl rfl <| nx ?_
      refine WC.ret ?_
      replace hr : _ = r := hr
      subst hr
      exact WE.ret1 rfl rfl rfl
theorem L_hilbert_independent_c1 (m1 : (Fin 8 → Int)) (cap1 : Int) (b1 : Nat) (r : Bool) (hr : (hilbert_independent_c1 m1 cap1).Ret r) : CtrL Try.prog 93 #[.agg (vecG (Value.int .i64) 8 m1).toArray, .pointer (some ⟨b1, 0, none⟩)] [(116606, some ⟨b1, .cells ([.int .i64 cap1]).toArray 3 (0, 0), 0⟩)] (fun G => True) (fun G L v => L = [(116606, some ⟨b1, .cells ([.int .i64 cap1]).toArray 3 (0, 0), 0⟩)] ∧ v = .bool r) := by
 refine CtrL.enter (args := [_, _]) (N := 10) Try.func93 rfl rfl rfl (fun w0 G0 hL0 hpre => ?_)
 refine sr ?_
 refine WL.box 2 guard_none rfl rfl (fun b2 => ?_)
 refine sg rfl rfl <| nx <| WC.seq ?_
 refine WC.drawn [false, false, false, false, false, false] mix (by kernel_rfl) (fun hb => ?_)
 refine Chain.y0 guard_none (fun _ hle => Y0.loadLA 2 ag48 rfl rfl (vecG_size _ _ _)) ?_
 obtain ⟨yv1, hyv1, hr⟩ := hr
 refine Chain.call0 guard_none (fun _ => YC.of E65 rfl) (L_monomial_Support _ _ hyv1) rfl (fun G' hle => trivial) ?_
 refine Chain.y0 guard_none (fun _ hle => Y0.loadL 116606 sc3 rfl rfl rfl) ?_
 refine Chain.y0 guard_none (fun _ hle => Y0.conv Try.underlying3 Try.underlying5 rfl) ?_
 refine Chain.y0 guard_none (fun _ hle => Y0.andNot rfl rfl) ?_
 refine Chain.y0 guard_none (fun _ hle => Y0.eql rfl rfl) ?_
 refine Chain.tail0 hb ?_
 refine sg rfl rfl <| WL.nil ?_
 refine WE.nx ?_
 refine WE.then ?_
 refine WC.ret ?_
 replace hr : _ = r := hr
 subst hr
 refine WE.conseq (S' := St w0 G0 G0 [(116606, some ⟨b1, .cells ([.int .i64 cap1]).toArray 3 (0, 0), 0⟩)]) ?_ ?_
 ·intro w hs
  exact hs.weaken (Lo.sub_cons rfl (Lo.sub_nil _))
 exact WE.ret1 rfl rfl ⟨rfl, rfl⟩
theorem L_slices_IndexFunc_api_Mono_api_Mono_hilbert_independent_c1 (s1 : (List (Fin 8 → Int))) (cap1 : Int) (s1p : Option Addr) (s1c : Nat) (b1 : Nat) (r : Int) (hr : (slices_IndexFunc_api_Mono_api_Mono_hilbert_independent_c1 s1 cap1).Ret r) : CtrL Try.prog 107 #[.slice s1p s1.length s1c, .func (.func 93) #[] #[.pointer (some ⟨b1, 0, none⟩)]] [(116606, some ⟨b1, .cells ([.int .i64 cap1]).toArray 3 (0, 0), 0⟩)] (fun G => SlR (Rp.vec .i64 8) G (.slice s1p s1.length s1c) s1) (fun G L v => L = [(116606, some ⟨b1, .cells ([.int .i64 cap1]).toArray 3 (0, 0), 0⟩)] ∧ v = .int .i64 r) := by
 refine CtrL.enter (args := [_, _]) (N := 19) Try.func107 rfl rfl rfl (fun w0 G0 hL0 hpre => ?_)
 have s1h := hpre
 have hz : w0.L.zero := by
  rw [hL0]; intro p hp x hx
  simp only [List.mem_cons, List.not_mem_nil, or_false] at hp
  subst hp; cases hx; rfl
 refine sr <| sg rfl rfl <| nx <| WC.seq <| sr <| mv rfl rfl ?_
 refine yy (Y0.lenR Try.underlying28 s1h rfl) rfl <| mv rfl rfl <| nx ?_
 refine WC.meetH (fun (gx : Mem) => match gx with | Gm1 => []) (fun (gx : Mem) => match gx with | Gm1 => Mem.le G0 Gm1 ∧ (slices_IndexFunc_api_Mono_api_Mono_hilbert_independent_c1_k1).Ret r) (fun (gx : Mem) => match gx with | Gm1 => St w0 G0 Gm1 [(116606, some ⟨b1, .cells ([.int .i64 cap1]).toArray 3 (0, 0), 0⟩)]) ?_ ?_
 ·refine WC.block ?_
  let Phi1 : (Int ⊕ Unit) → Prop := fun oo => ((fun ov => match ov with | .inl rv1 => Comp.ret rv1 | .inr () => slices_IndexFunc_api_Mono_api_Mono_hilbert_independent_c1_k1 : (Int ⊕ Unit) → Comp Int) oo).wp (fun a => a = r)
  replace hr : (Comp.loop _ _).wp Phi1 := hr
  refine WC.loopR (Φ := Phi1) (fun (gx : Int × Mem) => match gx with | ⟨v8_1, Gm2⟩ => (v8_1 : Int)) (fun (gx : Int × Mem) => match gx with | ⟨v8_1, Gm2⟩ => [(0, .slice s1p s1.length s1c), (1, .func (.func 93) #[] #[.pointer (some ⟨b1, 0, none⟩)]), (7, .int .i64 (s1.length : Int)), (8, .int .i64 v8_1)]) (fun (gx : Int × Mem) => match gx with | ⟨v8_1, Gm2⟩ => Mem.le G0 Gm2) (fun (gx : Int × Mem) => match gx with | ⟨v8_1, Gm2⟩ => St w0 G0 Gm2 [(116606, some ⟨b1, .cells ([.int .i64 cap1]).toArray 3 (0, 0), 0⟩)]) ⟨0, G0⟩ hr (Fr.sub_cons rfl (Fr.sub_cons rfl (Fr.sub_cons rfl (Fr.sub_cons rfl (Fr.sub_nil _))))) (Mem.le_refl _) ?_ ?_
  ·intro w hs
   exact hs.weaken (Lo.sub_cons rfl (Lo.sub_nil _))
  ·intro Aq1 gx hx hr
   obtain ⟨v8_1, Gm2⟩ := gx
   have Gm2le := hx
   refine sr <| yy (Y0.lss rfl rfl) rfl <| nx <| WC.seq ?_
   refine WC.condD (p := v8_1 < (s1.length : Int)) rfl (fun hc1 => ?_) (fun hc1 => ?_)
   ·replace hr := hr.pos hc1
    refine WC.skip <| WE.then <| WC.seq <| WC.block <| sr <| mv rfl rfl ?_
    refine sg rfl rfl <| nr <| mv rfl rfl <| mv rfl rfl <| mv rfl rfl ?_
    obtain ⟨x1, hx1, hr⟩ := hr
    refine yy (Y0.idxR Try.underlying28 sz48 (s1h.mono Gm2le) rfl rfl hx1) rfl <| yy (Y0.loadGA _ ag48 rfl (vecG_size _ _ _) (AtK.vec (At.mono (SlR.at s1h hx1) Gm2le))) rfl ?_
    obtain ⟨yv1, hyv1, hr⟩ := hr
    refine WL.callRO guard_none rfl (YC.ofV E93 rfl rfl) (L_hilbert_independent_c1 _ _ _ _ hyv1) rfl (trivial) (Lo.sub_cons rfl (Lo.sub_nil _)) (fun i hi => by simp only [List.map_cons, List.map_nil, List.mem_cons, List.not_mem_nil, or_false] at hi; subst hi; exact rfl) hz (fun yv1v Gv1 Gv1le yv1post => ?_)
    subst yv1post
    refine nx ?_
    refine WC.cond (b := yv1) rfl (fun hc2 => ?_) (fun hc2 => ?_)
    ·replace hr := hr.pos hc2
     refine sr <| mv rfl rfl <| sg rfl rfl <| nx ?_
     refine WC.ret ?_
     replace hr : _ = r := hr
     refine WE.inBlockRet ?_
     refine WE.thenRet ?_
     refine WE.thenRet ?_
     refine WE.inBlockRet ?_
     refine WE.endRet ?_
     refine WE.thenRet ?_
     subst hr
     refine WE.conseq (S' := St w0 G0 Gv1 [(116606, some ⟨b1, .cells ([.int .i64 cap1]).toArray 3 (0, 0), 0⟩)]) ?_ ?_
     ·intro w hs
      exact hs.weaken (Lo.sub_cons rfl (Lo.sub_nil _))
     exact WE.ret1 rfl rfl ⟨rfl, rfl⟩
    ·replace hr := hr.neg (Bool.eq_false_iff.1 hc2)
     refine WC.skip ?_
     refine WE.inBlock ?_
     refine WE.then <| WC.region <| yy (Y0.add rfl rfl) rfl <| mv rfl rfl <| WL.nil ?_
     refine WE.backR ⟨IntKind.i64.wrap (v8_1 + 1), Gv1⟩ hr (Mem.le_trans Gm2le Gv1le) (Fr.sub_cons rfl (Fr.sub_cons rfl (Fr.sub_cons rfl (Fr.sub_cons rfl (Fr.sub_nil _))))) ?_
     ·intro w hs
      exact hs.weaken (Lo.sub_cons rfl (Lo.sub_nil _))
   ·replace hr := hr.neg hc1
    refine WC.exit ?_
    refine WE.thenExit ?_
    refine WE.thenExit ?_
    refine WE.exitHere ?_
    refine WE.endH Gm2 ⟨Gm2le, hr⟩ (Fr.sub_nil _) ?_
    ·intro w hs
     exact hs.weaken (Lo.sub_cons rfl (Lo.sub_nil _))
 ·rintro Gm1 ⟨Gm1le, hr⟩
  refine WE.then <| sr <| sg rfl rfl <| nx ?_
  refine WC.ret ?_
  replace hr : _ = r := hr
  subst hr
  refine WE.conseq (S' := St w0 G0 Gm1 [(116606, some ⟨b1, .cells ([.int .i64 cap1]).toArray 3 (0, 0), 0⟩)]) ?_ ?_
  ·intro w hs
   exact hs.weaken (Lo.sub_cons rfl (Lo.sub_nil _))
  exact WE.ret1 rfl rfl ⟨rfl, rfl⟩
theorem L_slices_ContainsFunc_api_Mono_api_Mono_hilbert_independent_c1 (s1 : (List (Fin 8 → Int))) (cap1 : Int) (s1p : Option Addr) (s1c : Nat) (b1 : Nat) (r : Bool) (hr : (slices_ContainsFunc_api_Mono_api_Mono_hilbert_independent_c1 s1 cap1).Ret r) : CtrL Try.prog 94 #[.slice s1p s1.length s1c, .func (.func 93) #[] #[.pointer (some ⟨b1, 0, none⟩)]] [(116606, some ⟨b1, .cells ([.int .i64 cap1]).toArray 3 (0, 0), 0⟩)] (fun G => SlR (Rp.vec .i64 8) G (.slice s1p s1.length s1c) s1) (fun G L v => L = [(116606, some ⟨b1, .cells ([.int .i64 cap1]).toArray 3 (0, 0), 0⟩)] ∧ v = .bool r) := by
 refine CtrL.enter (args := [_, _]) (N := 9) Try.func94 rfl rfl rfl (fun w0 G0 hL0 hpre => ?_)
 have s1h := hpre
 have hz : w0.L.zero := by
  rw [hL0]; intro p hp x hx
  simp only [List.mem_cons, List.not_mem_nil, or_false] at hp
  subst hp; cases hx; rfl
 refine sr <| sg rfl rfl <| nr <| mv rfl rfl <| mv rfl rfl ?_
 obtain ⟨yv1, hyv1, hr⟩ := hr
 refine WL.callRO guard_none rfl (YC.of E107 rfl) (L_slices_IndexFunc_api_Mono_api_Mono_hilbert_independent_c1 _ _ _ _ _ _ hyv1) rfl (s1h) (Lo.sub_cons rfl (Lo.sub_nil _)) (fun i hi => by simp only [List.map_cons, List.map_nil, List.mem_cons, List.not_mem_nil, or_false] at hi; subst hi; exact rfl) hz (fun yv1v Gv1 Gv1le yv1post => ?_)
 subst yv1post
 refine yy (Y0.geq rfl rfl) rfl <| sg rfl rfl <| nx ?_
 refine WC.ret ?_
 replace hr : _ = r := hr
 subst hr
 refine WE.conseq (S' := St w0 G0 Gv1 [(116606, some ⟨b1, .cells ([.int .i64 cap1]).toArray 3 (0, 0), 0⟩)]) ?_ ?_
 ·intro w hs
  exact hs.weaken (Lo.sub_cons rfl (Lo.sub_nil _))
 exact WE.ret1 rfl rfl ⟨rfl, rfl⟩
theorem L_hilbert_independent (l1 : (List (Fin 8 → Int))) (n1 : Int) (l1p : Option Addr) (l1c : Nat) (r : (List Int)) (hr : (hilbert_independent l1 n1).Ret r) : Ctr Try.prog 83 #[.slice l1p l1.length l1c, .int .i64 n1] (fun G => SlR (Rp.vec .i64 8) G (.slice l1p l1.length l1c) l1) (fun G v => ∃ zp zc, v = .slice zp r.length zc ∧ SlR (Rp.int .u8) G (.slice zp r.length zc) r) := by
 refine Ctr.enter (args := [_, _]) (N := 25) Try.func83 rfl rfl rfl (fun w0 G0 hL0 hpre => ?_)
 have l1h := hpre
 have hz : w0.L.zero := by rw [hL0]; intro p hp; simp at hp
 refine sr <| sg rfl rfl <| nr <| sg rfl rfl <| nx <| WC.seq ?_
 refine sr <| mv rfl rfl ?_
 obtain ⟨hd1, hr⟩ := hr
 refine yy (Y0.shl rfl rfl hd1) rfl <| mv rfl rfl <| nx ?_
 refine WC.meetH (fun (gx : (List Int) × Option Addr × Nat × Option Ow × Mem) => match gx with | ⟨result1, result1p, result1c, result1tk, Gm1⟩ => [(5, .slice result1p result1.length result1c)]) (fun (gx : (List Int) × Option Addr × Nat × Option Ow × Mem) => match gx with | ⟨result1, result1p, result1c, result1tk, Gm1⟩ => Mem.le G0 Gm1 ∧ SlR (Rp.int .u8) Gm1 (.slice result1p result1.length result1c) result1 ∧ Tok 1 5 (.slice result1p result1.length result1c) result1.length result1tk ∧ (hilbert_independent_k1 result1).Ret r) (fun (gx : (List Int) × Option Addr × Nat × Option Ow × Mem) => match gx with | ⟨result1, result1p, result1c, result1tk, Gm1⟩ => St w0 G0 Gm1 [(1005, result1tk)]) ?_ ?_
 ·refine WC.block ?_
  let Phi1 : (List Int) → Prop := fun oo => ((fun ov => match ov with | result1 => hilbert_independent_k1 result1 : (List Int) → Comp (List Int)) oo).wp (fun a => a = r)
  replace hr : (Comp.loop _ _).wp Phi1 := hr
  refine WC.loopR (Φ := Phi1) (fun (gx : (List Int) × Option Addr × Nat × Option Ow × Int × Mem) => match gx with | ⟨result2, result2p, result2c, result2tk, v10_1, Gm2⟩ => ((result2, v10_1) : (List Int) × Int)) (fun (gx : (List Int) × Option Addr × Nat × Option Ow × Int × Mem) => match gx with | ⟨result2, result2p, result2c, result2tk, v10_1, Gm2⟩ => [(0, .slice l1p l1.length l1c), (5, .slice result2p result2.length result2c), (9, .int .i64 (IntKind.i64.wrap (1 * 2 ^ (min (n1).toNat IntKind.i64.bits)))), (10, .int .i64 v10_1)]) (fun (gx : (List Int) × Option Addr × Nat × Option Ow × Int × Mem) => match gx with | ⟨result2, result2p, result2c, result2tk, v10_1, Gm2⟩ => Mem.le G0 Gm2 ∧ SlR (Rp.int .u8) Gm2 (.slice result2p result2.length result2c) result2 ∧ Tok 1 5 (.slice result2p result2.length result2c) result2.length result2tk) (fun (gx : (List Int) × Option Addr × Nat × Option Ow × Int × Mem) => match gx with | ⟨result2, result2p, result2c, result2tk, v10_1, Gm2⟩ => St w0 G0 Gm2 [(1005, result2tk)]) ⟨[], none, 0, none, 0, G0⟩ hr (Fr.sub_cons rfl (Fr.sub_cons rfl (Fr.sub_cons rfl (Fr.sub_cons rfl (Fr.sub_nil _))))) ⟨(Mem.le_refl _), (SlR.nil _ _), Tok.full⟩ ?_ ?_
  ·intro w hs
   exact hs.weaken (Lo.sub_no (Lo.sub_nil _))
  ·intro Aq1 gx hx hr
   obtain ⟨result2, result2p, result2c, result2tk, v10_1, Gm2⟩ := gx
   obtain ⟨Gm2le, result2h, result2ht⟩ := hx
   refine sr <| yy (Y0.lss rfl rfl) rfl <| nx <| WC.seq ?_
   refine WC.condD (p := v10_1 < (IntKind.i64.wrap (1 * 2 ^ (min (n1).toNat IntKind.i64.bits)))) rfl (fun hc1 => ?_) (fun hc1 => ?_)
   ·replace hr := hr.pos hc1
    refine WC.skip <| WE.then <| WC.seq <| WC.block <| sr <| mv rfl rfl ?_
    refine WL.alloc 116606 guard_none z3 rfl (fun b1 => ?_)
    refine WL.storeL 116606 ([.int .i64 v10_1]).toArray guard_none sz3 rfl rfl rfl (by first | decide | simp) rfl rfl ?_
    refine nr <| yy (Y0.makeFunc rfl rfl) rfl <| sg rfl rfl <| nr <| mv rfl rfl <| mv rfl rfl ?_
    obtain ⟨yv1, hyv1, hr⟩ := hr
    refine WL.callRO guard_none rfl (YC.of E94 rfl) (L_slices_ContainsFunc_api_Mono_api_Mono_hilbert_independent_c1 _ _ _ _ _ _ hyv1) rfl ((l1h.mono Gm2le)) (Lo.sub_cons rfl (Lo.sub_nil _)) (fun i hi => by simp only [List.map_cons, List.map_nil, List.mem_cons, List.not_mem_nil, or_false] at hi; subst hi; exact rfl) hz (fun yv1v Gv1 Gv1le yv1post => ?_)
    subst yv1post
    refine yy (Y0.not rfl) rfl <| nx ?_
    refine WC.cond (b := !yv1) rfl (fun hc2 => ?_) (fun hc2 => ?_)
    ·replace hr := hr.pos hc2
     refine WC.region <| mv rfl rfl <| yy (Y0.loadL 116606 sc3 rfl rfl rfl) rfl <| yy (Y0.conv Try.underlying3 Try.underlying5 rfl) rfl ?_
     refine WL.litR (e := 5) (r := (Rp.int .u8)) (vs := #[(0, .int .u8 (IntKind.u8.wrap v10_1))]) (cs := [.int .u8 (IntKind.u8.wrap v10_1)] ++ ([])) ([IntKind.u8.wrap v10_1] : List Int) guard_none rfl rfl rfl rfl (by decide) (fun _ => by kernel_rfl) ⟨[.int .u8 (IntKind.u8.wrap v10_1)], [], rfl, rfl, rfl⟩ (key := 999) rfl (by rw [hL0]; rfl) (fun p1 Gv2 Gv2le p1h => ?_)
     obtain ⟨hsm1, hr⟩ := hr
     refine WL.appendR (r := (Rp.int .u8)) 1005 guard_none rfl Try.underlying33 el5 rfl (by decide) rfl rfl (result2h.mono (Mem.le_trans Gv1le Gv2le)) rfl (by rw [hL0]; rfl) result2ht p1h hsm1 (fun p2 p2c p2tk Gv3 Gv3le p2h p2ht => ?_)
     refine sg rfl rfl <| WL.nil ?_
     refine WE.inBlock ?_
     refine WE.then <| WC.region <| yy (Y0.add rfl rfl) rfl <| mv rfl rfl <| WL.nil ?_
     refine WE.backR ⟨(result2 ++ [IntKind.u8.wrap v10_1]), p2, p2c, p2tk, IntKind.i64.wrap (v10_1 + 1), Gv3⟩ hr ⟨(Mem.le_trans (Mem.le_trans (Mem.le_trans Gm2le Gv1le) Gv2le) Gv3le), p2h, p2ht⟩ (Fr.sub_cons rfl (Fr.sub_cons rfl (Fr.sub_cons rfl (Fr.sub_cons rfl (Fr.sub_nil _))))) ?_
     ·intro w hs
      exact hs.weaken (Lo.sub_cons rfl (Lo.sub_nil _))
    ·replace hr := hr.neg (Bool.eq_false_iff.1 hc2)
     refine WC.skip ?_
     refine WE.inBlock ?_
     refine WE.then <| WC.region <| yy (Y0.add rfl rfl) rfl <| mv rfl rfl <| WL.nil ?_
     refine WE.backR ⟨result2, result2p, result2c, result2tk, IntKind.i64.wrap (v10_1 + 1), Gv1⟩ hr ⟨(Mem.le_trans Gm2le Gv1le), (result2h.mono Gv1le), result2ht⟩ (Fr.sub_cons rfl (Fr.sub_cons rfl (Fr.sub_cons rfl (Fr.sub_cons rfl (Fr.sub_nil _))))) ?_
     ·intro w hs
      exact hs.weaken (Lo.sub_cons rfl (Lo.sub_nil _))
   ·replace hr := hr.neg hc1
    refine WC.exit ?_
    refine WE.thenExit ?_
    refine WE.thenExit ?_
    refine WE.exitHere ?_
    refine WE.endH ⟨result2, result2p, result2c, result2tk, Gm2⟩ ⟨Gm2le, result2h, result2ht, hr⟩ (Fr.sub_cons rfl (Fr.sub_nil _)) ?_
    ·intro w hs
     exact hs.weaken (Lo.sub_cons rfl (Lo.sub_nil _))
 ·rintro ⟨result1, result1p, result1c, result1tk, Gm1⟩ ⟨Gm1le, result1h, result1ht, hr⟩
  refine WE.then <| sr <| mv rfl rfl <| sg rfl rfl <| nx ?_
  refine WC.ret ?_
  replace hr : _ = r := hr
  subst hr
  exact WE.ret1 rfl rfl ⟨_, _, rfl, result1h⟩
theorem L_math_bits_OnesCount8 (x1 : Int) (r : Int) (hr : (math_bits_OnesCount8 x1).Ret r) : Ctr Try.prog 84 #[.int .u8 x1] (fun G => True) (fun G v => v = .int .i64 r) := by
 refine Ctr.enter (args := [_]) (N := 6) Try.func84 rfl rfl rfl (fun w0 G0 hL0 hpre => ?_)
 refine sr <| sg rfl rfl <| nr <| mv rfl rfl ?_
 obtain ⟨hi1, hr⟩ := hr
 refine yy (Y0.indexS (s := str_d97f7905) Try.underlying9 rfl rfl hi1) rfl <| yy (Y0.conv Try.underlying5 Try.underlying3 rfl) rfl <| sg rfl rfl <| nx ?_
 refine WC.ret ?_
 replace hr : _ = r := hr
 subst hr
 exact WE.ret1 rfl rfl rfl
theorem L_hilbert_dimension (l1 : (List (Fin 8 → Int))) (n1 : Int) (l1p : Option Addr) (l1c : Nat) (r : Int) (hr : (hilbert_dimension l1 n1).Ret r) : Ctr Try.prog 63 #[.slice l1p l1.length l1c, .int .i64 n1] (fun G => SlR (Rp.vec .i64 8) G (.slice l1p l1.length l1c) l1) (fun G v => v = .int .i64 r) := by
 refine Ctr.enter (args := [_, _]) (N := 22) Try.func63 rfl rfl rfl (fun w0 G0 hL0 hpre => ?_)
 have l1h := hpre
 refine sr <| sg rfl rfl <| nr <| sg rfl rfl <| nx <| WC.seq ?_
 refine sr <| mv rfl rfl <| mv rfl rfl ?_
 obtain ⟨yv1, hyv1, hr⟩ := hr
 refine WL.call guard_none rfl (YC.of E83 rfl) (L_hilbert_independent _ _ _ _ _ hyv1) rfl (l1h) (fun yv1v Gv1 Gv1le yv1post => ?_)
 obtain ⟨yv1p, yv1c, rfl, yv1h⟩ := yv1post
 refine yy (Y0.lenR Try.underlying33 yv1h rfl) rfl <| mv rfl rfl <| nx ?_
 refine WC.meetH (fun (gx : Int × Mem) => match gx with | ⟨d1, Gm1⟩ => [(5, .int .i64 d1)]) (fun (gx : Int × Mem) => match gx with | ⟨d1, Gm1⟩ => Mem.le Gv1 Gm1 ∧ (hilbert_dimension_k1 d1).Ret r) (fun (gx : Int × Mem) => match gx with | ⟨d1, Gm1⟩ => St w0 G0 Gm1 []) ?_ ?_
 ·refine WC.block ?_
  let Phi1 : Int → Prop := fun oo => ((fun ov => match ov with | d1 => hilbert_dimension_k1 d1 : Int → Comp Int) oo).wp (fun a => a = r)
  replace hr : (Comp.loop _ _).wp Phi1 := hr
  refine WC.loopR (Φ := Phi1) (fun (gx : Int × Int × Mem) => match gx with | ⟨d2, v12_1, Gm2⟩ => ((d2, v12_1) : Int × Int)) (fun (gx : Int × Int × Mem) => match gx with | ⟨d2, v12_1, Gm2⟩ => [(5, .int .i64 d2), (10, .slice yv1p yv1.length yv1c), (11, .int .i64 (yv1.length : Int)), (12, .int .i64 v12_1)]) (fun (gx : Int × Int × Mem) => match gx with | ⟨d2, v12_1, Gm2⟩ => Mem.le Gv1 Gm2) (fun (gx : Int × Int × Mem) => match gx with | ⟨d2, v12_1, Gm2⟩ => St w0 G0 Gm2 []) ⟨(-1), 0, Gv1⟩ hr (Fr.sub_cons rfl (Fr.sub_cons rfl (Fr.sub_cons rfl (Fr.sub_cons rfl (Fr.sub_nil _))))) (Mem.le_refl _) ?_ ?_
  ·intro w hs
   exact hs.weaken (Lo.sub_nil _)
  ·intro Aq1 gx hx hr
   obtain ⟨d2, v12_1, Gm2⟩ := gx
   have Gm2le := hx
   refine sr <| yy (Y0.lss rfl rfl) rfl <| nx <| WC.seq ?_
   refine WC.condD (p := v12_1 < (yv1.length : Int)) rfl (fun hc1 => ?_) (fun hc1 => ?_)
   ·replace hr := hr.pos hc1
    refine WC.skip <| WE.then <| WC.seq <| WC.block <| sr ?_
    obtain ⟨x1, hx1, hr⟩ := hr
    refine yy (Y0.idxR Try.underlying33 sz5 (yv1h.mono Gm2le) rfl rfl hx1) rfl <| yy (Y0.loadG sc5 rfl (AtK.int (At.mono (SlR.at yv1h hx1) Gm2le))) rfl <| sg rfl rfl <| nx <| WC.region <| mv rfl rfl ?_
    refine mv rfl rfl ?_
    obtain ⟨yv2, hyv2, hr⟩ := hr
    refine WL.call0 guard_none rfl (YC.of E84 rfl) (L_math_bits_OnesCount8 _ _ hyv2) rfl (trivial) ?_
    refine yy (Y0.max2 rfl rfl) rfl <| sg rfl rfl <| WL.nil ?_
    refine WE.inBlock ?_
    refine WE.then <| WC.region <| yy (Y0.add rfl rfl) rfl <| mv rfl rfl <| WL.nil ?_
    refine WE.backR ⟨if d2 < yv2 then yv2 else d2, IntKind.i64.wrap (v12_1 + 1), Gm2⟩ hr Gm2le (Fr.sub_cons rfl (Fr.sub_cons rfl (Fr.sub_cons rfl (Fr.sub_cons rfl (Fr.sub_nil _))))) ?_
    ·intro w hs
     exact hs.weaken (Lo.sub_nil _)
   ·replace hr := hr.neg hc1
    refine WC.exit ?_
    refine WE.thenExit ?_
    refine WE.thenExit ?_
    refine WE.exitHere ?_
    refine WE.endH ⟨d2, Gm2⟩ ⟨Gm2le, hr⟩ (Fr.sub_cons rfl (Fr.sub_nil _)) ?_
    ·intro w hs
     exact hs.weaken (Lo.sub_nil _)
 ·rintro ⟨d1, Gm1⟩ ⟨Gm1le, hr⟩
  refine WE.then <| sr <| mv rfl rfl <| sg rfl rfl <| nx ?_
  refine WC.ret ?_
  replace hr : _ = r := hr
  subst hr
  exact WE.ret1 rfl rfl rfl
theorem L_hilbert_Dimension (l1 : (List (Fin 8 → Int))) (n1 : Int) (l1p : Option Addr) (l1c : Nat) (r : Int × Int) (hr : (hilbert_Dimension l1 n1).Ret r) : Ctr Try.prog 41 #[.slice l1p l1.length l1c, .int .i64 n1] (fun G => SlR (Rp.vec .i64 8) G (.slice l1p l1.length l1c) l1) (fun G v => v = .tuple #[.int .i64 r.1, .int .i64 r.2]) := by
 refine Ctr.enter (args := [_, _]) (N := 16) Try.func41 rfl rfl rfl (fun w0 G0 hL0 hpre => ?_)
 have l1h := hpre
 refine sr <| sg rfl rfl <| sg rfl rfl <| nx <| WC.seq <| sr ?_
 refine mv rfl rfl <| mv rfl rfl ?_
 obtain ⟨yv1, hyv1, hr⟩ := hr
 refine WL.call0 guard_none rfl (YC.of E62 rfl) (L_hilbert_check _ _ _ _ _ hyv1) rfl (l1h) ?_
 refine sg rfl rfl <| nr <| mv rfl rfl <| yy (Y0.neq rfl rfl) rfl <| nx ?_
 refine WC.condD (p := ¬ yv1 = 0) rfl (fun hc1 => ?_) (fun hc1 => ?_)
 ·replace hr := hr.pos hc1
  refine sr <| mv rfl rfl <| sg rfl rfl <| sg rfl rfl <| nx ?_
  refine WC.ret ?_
  replace hr : _ = r := hr
  refine WE.thenRet ?_
  subst hr
  exact WE.ret2 rfl rfl rfl rfl
 ·replace hr := hr.neg hc1
  refine WC.skip <| WE.then <| sr <| mv rfl rfl <| mv rfl rfl ?_
  obtain ⟨yv2, hyv2, hr⟩ := hr
  refine WL.call0 guard_none rfl (YC.of E63 rfl) (L_hilbert_dimension _ _ _ _ _ hyv2) rfl (l1h) ?_
  refine sg rfl rfl <| sg rfl rfl <| nx ?_
  refine WC.ret ?_
  replace hr : _ = r := hr
  subst hr
  exact WE.ret2 rfl rfl rfl rfl
theorem L_law21_ComponentsDimensions (x1 : T_law21_Input) (x1lp : Option Addr) (x1lc : Nat) (r : Bool) (hr : (law21_ComponentsDimensions x1).Ret r) : Ctr Try.prog 10 #[.agg ([.slice x1lp x1.l.length x1lc, .int .u8 x1.n]).toArray] (fun G => SlR (Rp.vec .u8 4) G (.slice x1lp x1.l.length x1lc) x1.l) (fun G v => v = .bool r) := by
 refine Ctr.enter (args := [_]) (N := 60) Try.func10 rfl rfl rfl (fun w0 G0 hL0 hpre => ?_)
 have x1lh := hpre
 refine sr ?_
 refine WL.box 1 guard_none rfl rfl (fun b1 => ?_)
 refine sg rfl rfl <| nr ?_
 obtain ⟨yv1, hyv1, hr⟩ := hr
 refine WL.call0 guard_none rfl (YC.of E11 rfl) (L_law21_sanity _ hyv1) rfl (trivial) ?_
 refine sg rfl rfl <| nx <| WC.seq <| sr <| mv rfl rfl <| yy (Y0.not rfl) rfl ?_
 refine nx ?_
 refine WC.cond (b := !yv1) rfl (fun hc1 => ?_) (fun hc1 => ?_)
 ·replace hr := hr.pos hc1
  refine sr <| sg rfl rfl <| nx ?_
  refine WC.ret ?_
  replace hr : _ = r := hr
  refine WE.thenRet ?_
  subst hr
  exact WE.ret1 rfl rfl rfl
 ·replace hr := hr.neg (Bool.eq_false_iff.1 hc1)
  refine WC.skip <| WE.then <| WC.seq ?_
  refine WC.drawn [false, false, false, false] mix (by kernel_rfl) (fun hb => ?_)
  refine Chain.y0 guard_none (fun _ hle => Y0.loadLA 1 ag25 rfl rfl rfl) ?_
  obtain ⟨yv2, hyv2, hr⟩ := hr
  refine Chain.callU (post := fun G v => ∃ yv2p yv2c, v = .slice yv2p yv2.length yv2c ∧ SlR (Rp.vec .i64 8) G (.slice yv2p yv2.length yv2c) yv2) (fun _ => guard_none) (fun _ _ => YC.of E29 rfl) (L_law21_made _ _ _ _ hyv2) rfl (fun G' hle => (x1lh.mono hle)) (fun v G1 G2 hle h => ?_) ?_
  ·obtain ⟨yv2p, yv2c, rfl, yv2h⟩ := h
   exact ⟨_, _, rfl, yv2h.mono hle⟩
  refine Chain.y0U (fun _ => guard_none) (fun _ _ hle => Y0.loadLA 1 ag25 rfl rfl rfl) ?_
  obtain ⟨yv3, hyv3, hr⟩ := hr
  refine Chain.callD (f := 12) (c := .int .i64 yv3) (fun _ => guard_none) (fun u G' hle hu => ?_) ?_
  ·obtain ⟨_, _⟩ := (show True ∧ True from hu)
   exact ⟨_, _, _, fun _ => YC.of E12 rfl, L_law21_vars _ _ _ _ hyv3, rfl, (x1lh.mono hle)⟩
  refine Chain.tailU1 (d := 16) (post := fun G v => ∃ yv2p yv2c, v = .slice yv2p yv2.length yv2c ∧ SlR (Rp.vec .i64 8) G (.slice yv2p yv2.length yv2c) yv2) (fun yv2v Gv2 Gv2le yv2post => ?_)
  obtain ⟨yv2p, yv2c, rfl, yv2h⟩ := yv2post
  refine sg rfl rfl <| sg rfl rfl <| WL.nil ?_
  refine WE.nx ?_
  refine WE.then <| sr <| mv rfl rfl <| mv rfl rfl ?_
  obtain ⟨yv4, hyv4, hr⟩ := hr
  refine WL.call guard_none rfl (YC.of E16 rfl) (L_components_Primes _ _ _ _ _ hyv4) rfl (yv2h) (fun yv4v Gv3 Gv3le yv4post => ?_)
  obtain ⟨yv4r0p, yv4r0c, rfl, yv4r0h⟩ := yv4post
  refine mv rfl rfl <| yy (Y0.extract rfl rfl) rfl <| yy (Y0.extract rfl rfl) rfl <| sg rfl rfl <| sg rfl rfl <| nr ?_
  refine mv rfl rfl <| mv rfl rfl ?_
  obtain ⟨yv5, hyv5, hr⟩ := hr
  refine WL.call0 guard_none rfl (YC.of E41 rfl) (L_hilbert_Dimension _ _ _ _ _ hyv5) rfl ((yv2h.mono Gv3le)) ?_
  refine mv rfl rfl <| yy (Y0.extract rfl rfl) rfl <| yy (Y0.extract rfl rfl) rfl <| sg rfl rfl <| sg rfl rfl <| nx ?_
  refine WC.seq <| sr <| mv rfl rfl ?_
  refine WL.caseY0 (p := ¬ yv4.2 = 0) guard_none (Y0.neq rfl rfl) rfl (fun hb1 => ?_) (fun hb1 => ?_)
  ·replace hr := hr.pos hb1
   refine mv rfl rfl ?_
   refine WL.skip (guard_noF rfl rfl) rfl ?_
   refine WL.skip (guard_noF rfl rfl) rfl ?_
   refine yy (Y0.pickT rfl rfl) rfl <| nx ?_
   refine WC.condT rfl ?_
   refine sr <| sg rfl rfl <| nx ?_
   refine WC.ret ?_
   replace hr : _ = r := hr
   refine WE.thenRet ?_
   subst hr
   exact WE.ret1 rfl rfl rfl
  ·replace hr := hr.neg hb1
   refine mv rfl rfl ?_
   refine WL.y0' (guard_yes rfl rfl) (Y0.move rfl) rfl ?_
   refine WL.y0' (guard_yes rfl rfl) (Y0.neq rfl rfl) rfl ?_
   refine yy (Y0.pickF rfl rfl) rfl <| nx ?_
   refine WC.condD (p := ¬ yv5.2 = 0) rfl (fun hc2 => ?_) (fun hc2 => ?_)
   ·replace hr := hr.pos hc2
    refine sr <| sg rfl rfl <| nx ?_
    refine WC.ret ?_
    replace hr : _ = r := hr
    refine WE.thenRet ?_
    subst hr
    exact WE.ret1 rfl rfl rfl
   ·replace hr := hr.neg hc2
    refine WC.skip <| WE.then <| sr <| mv rfl rfl <| yy (Y0.add rfl rfl) rfl <| sg rfl rfl ?_
    refine nx <| WC.seq <| sr <| sg rfl rfl <| nx ?_
    refine WC.meetH (fun (gx : Int × Mem) => match gx with | ⟨least1, Gm1⟩ => [(3, .bool yv1), (5, .int .i64 yv3), (8, .int .i64 yv5.1), (10, .int .i64 least1)]) (fun (gx : Int × Mem) => match gx with | ⟨least1, Gm1⟩ => Mem.le Gv3 Gm1 ∧ (law21_ComponentsDimensions_k1 yv1 yv3 yv5 least1).Ret r) (fun (gx : Int × Mem) => match gx with | ⟨least1, Gm1⟩ => St w0 G0 Gm1 []) ?_ ?_
    ·refine WC.block ?_
     let Phi1 : Int → Prop := fun oo => ((fun ov => match ov with | least1 => law21_ComponentsDimensions_k1 yv1 yv3 yv5 least1 : Int → Comp Bool) oo).wp (fun a => a = r)
     replace hr : (Comp.loop _ _).wp Phi1 := hr
     refine WC.loopR (Φ := Phi1) (fun (gx : Int × Int × Mem) => match gx with | ⟨least2, i1, Gm2⟩ => ((least2, i1) : Int × Int)) (fun (gx : Int × Int × Mem) => match gx with | ⟨least2, i1, Gm2⟩ => [(3, .bool yv1), (5, .int .i64 yv3), (6, .slice yv4r0p yv4.1.length yv4r0c), (8, .int .i64 yv5.1), (10, .int .i64 least2), (11, .int .i64 i1)]) (fun (gx : Int × Int × Mem) => match gx with | ⟨least2, i1, Gm2⟩ => Mem.le Gv3 Gm2) (fun (gx : Int × Int × Mem) => match gx with | ⟨least2, i1, Gm2⟩ => St w0 G0 Gm2 []) ⟨IntKind.i64.wrap (yv3 + 1), 0, Gv3⟩ hr (Fr.sub_cons rfl (Fr.sub_cons rfl (Fr.sub_cons rfl (Fr.sub_cons rfl (Fr.sub_cons rfl (Fr.sub_cons rfl (Fr.sub_nil _))))))) (Mem.le_refl _) ?_ ?_
     ·intro w hs
      exact hs.weaken (Lo.sub_nil _)
     ·intro Aq1 gx hx hr
      obtain ⟨least2, i1, Gm2⟩ := gx
      have Gm2le := hx
      refine WC.seq <| sr <| mv rfl rfl <| mv rfl rfl <| yy (Y0.lenR Try.underlying33 (yv4r0h.mono Gm2le) rfl) rfl <| yy (Y0.lss rfl rfl) rfl ?_
      refine nx ?_
      refine WC.condD (p := i1 < (yv4.1.length : Int)) rfl (fun hc3 => ?_) (fun hc3 => ?_)
      ·replace hr := hr.pos hc3
       refine WC.skip <| WE.then <| WC.seq <| WC.block <| WC.region <| mv rfl rfl ?_
       refine mv rfl rfl <| mv rfl rfl ?_
       obtain ⟨x2, hx2, hr⟩ := hr
       refine yy (Y0.idxR Try.underlying33 sz5 (yv4r0h.mono Gm2le) rfl rfl hx2) rfl <| yy (Y0.loadG sc5 rfl (AtK.int (At.mono (SlR.at yv4r0h hx2) Gm2le))) rfl ?_
       obtain ⟨yv6, hyv6, hr⟩ := hr
       refine WL.call0 guard_none rfl (YC.of E40 rfl) (L_R18_Ones _ _ hyv6) rfl (trivial) ?_
       refine yy (Y0.min2 rfl rfl) rfl <| sg rfl rfl <| WL.nil ?_
       refine WE.inBlock ?_
       refine WE.then <| WC.region <| mv rfl rfl <| yy (Y0.add rfl rfl) rfl <| sg rfl rfl <| WL.nil ?_
       refine WE.backR ⟨if yv6 < least2 then yv6 else least2, IntKind.i64.wrap (i1 + 1), Gm2⟩ hr Gm2le (Fr.sub_cons rfl (Fr.sub_cons rfl (Fr.sub_cons rfl (Fr.sub_cons rfl (Fr.sub_cons rfl (Fr.sub_cons rfl (Fr.sub_nil _))))))) ?_
       ·intro w hs
        exact hs.weaken (Lo.sub_nil _)
      ·replace hr := hr.neg hc3
       refine WC.exit ?_
       refine WE.thenExit ?_
       refine WE.thenExit ?_
       refine WE.exitHere ?_
       refine WE.endH ⟨least2, Gm2⟩ ⟨Gm2le, hr⟩ (Fr.sub_cons rfl (Fr.sub_cons rfl (Fr.sub_cons rfl (Fr.sub_cons rfl (Fr.sub_nil _))))) ?_
       ·intro w hs
        exact hs.weaken (Lo.sub_nil _)
    ·rintro ⟨least1, Gm1⟩ ⟨Gm1le, hr⟩
     refine WE.then <| sr <| mv rfl rfl <| mv rfl rfl <| mv rfl rfl <| yy (Y0.sub rfl rfl) rfl ?_
     refine WL.caseY0 (p := yv5.1 = (IntKind.i64.wrap (yv3 - least1))) guard_none (Y0.eql rfl rfl) rfl (fun hb2 => ?_) (fun hb2 => ?_)
     ·replace hr := hr.pos hb2
      refine mv rfl rfl ?_
      refine WL.y0' (guard_yes rfl rfl) (Y0.move rfl) rfl ?_
      refine yy (Y0.pickT rfl rfl) rfl <| sg rfl rfl <| nx ?_
      refine WC.ret ?_
      replace hr : _ = r := hr
      subst hr
      exact WE.ret1 rfl rfl rfl
     ·replace hr := hr.neg hb2
      refine mv rfl rfl <| sk rfl rfl rfl <| yy (Y0.pickF rfl rfl) rfl <| sg rfl rfl <| nx ?_
      refine WC.ret ?_
      replace hr : _ = r := hr
      subst hr
      exact WE.ret1 rfl rfl rfl
end Go.Proofs.Ytbdknlblnfnkkaa
