/- The code does what the models say. The conditions stand in each statement. -/
import Derived.Test.YtbdknlblnfnkkaaLb
namespace Go.Proofs.Ytbdknlblnfnkkaa
open Go Go.EL Go.RowKit Go.Proofs
theorem L_law21_vars (x1 : T_law21_Input) (x1lp : Option Addr) (x1lc : Nat) (r : Int) (hr : (law21_vars x1).Ret r) : Ctr Try.prog 12 #[.agg ([.slice x1lp x1.l.length x1lc, .int .u8 x1.n]).toArray] (fun G => SlR (Rp.vec .u8 4) G (.slice x1lp x1.l.length x1lc) x1.l) (fun G v => v = .int .i64 r) := by
 refine Ctr.enter (args := [_]) (N := 7) Try.func12 rfl rfl rfl (fun w0 G0 hL0 hpre => ?_)
 have x1lh := hpre
 refine sr ?_
 refine WL.box 1 guard_none rfl rfl (fun b1 => ?_)
 refine sg rfl rfl <| nr <| yy (Y0.fieldAddr Try.underlying25 rfl (fun _ => by kernel_rfl) rfl) rfl <| yy (Y0.loadL 1 sc5 rfl rfl rfl) rfl <| yy (Y0.rem rfl rfl (by decide)) rfl <| yy (Y0.conv Try.underlying5 Try.underlying3 rfl) rfl ?_
 refine sg rfl rfl <| nx ?_
 refine WC.ret ?_
 replace hr : _ = r := hr
 subst hr
 exact WE.ret1 rfl rfl rfl
theorem L_R18_Made (x1 : (List (Fin 4 → Int))) (n1 : Int) (most1 : Int) (top1 : Int) (x1p : Option Addr) (x1c : Nat) (r : (List (Fin 8 → Int))) (hr : (R18_Made x1 n1 most1 top1).Ret r) : Ctr Try.prog 13 #[.slice x1p x1.length x1c, .int .i64 n1, .int .i64 most1, .int .i64 top1] (fun G => SlR (Rp.vec .u8 4) G (.slice x1p x1.length x1c) x1) (fun G v => ∃ zp zc, v = .slice zp r.length zc ∧ SlR (Rp.vec .i64 8) G (.slice zp r.length zc) r) := by
 refine Ctr.enter (args := [_, _, _, _]) (N := 52) Try.func13 rfl rfl rfl (fun w0 G0 hL0 hpre => ?_)
 have x1h := hpre
 refine sr <| sg rfl rfl <| nr ?_
 refine WL.litR (e := 48) (r := (Rp.vec .i64 8)) (vs := #[]) (cs := []) ([] : List (Fin 8 → Int)) guard_none rfl rfl rfl rfl (by decide) (fun _ => by kernel_rfl) (rfl) (key := 999) rfl (by rw [hL0]; rfl) (fun p1 Gv1 Gv1le p1h => ?_)
 refine sg rfl rfl <| nx <| WC.seq <| sr <| sg rfl rfl <| nx ?_
 refine WC.meetH (fun (gx : (List (Fin 8 → Int)) × Option Addr × Nat × Option Ow × Mem) => match gx with | ⟨out1, out1p, out1c, out1tk, Gm1⟩ => [(9, .slice out1p out1.length out1c)]) (fun (gx : (List (Fin 8 → Int)) × Option Addr × Nat × Option Ow × Mem) => match gx with | ⟨out1, out1p, out1c, out1tk, Gm1⟩ => Mem.le Gv1 Gm1 ∧ SlR (Rp.vec .i64 8) Gm1 (.slice out1p out1.length out1c) out1 ∧ Tok 8 48 (.slice out1p out1.length out1c) out1.length out1tk ∧ (R18_Made_k1 out1).Ret r) (fun (gx : (List (Fin 8 → Int)) × Option Addr × Nat × Option Ow × Mem) => match gx with | ⟨out1, out1p, out1c, out1tk, Gm1⟩ => St w0 G0 Gm1 [(1009, out1tk)]) ?_ ?_
 ·refine WC.block ?_
  let Phi1 : (((List (Fin 8 → Int)))) → Prop := fun oo => ((fun ov => match ov with | out1 => R18_Made_k1 out1 : (((List (Fin 8 → Int)))) → Comp ((List (Fin 8 → Int)))) oo).wp (fun a => a = r)
  replace hr : (Comp.loop _ _).wp Phi1 := hr
  refine WC.loopR (Φ := Phi1) (fun (gx : (List (Fin 8 → Int)) × Option Addr × Nat × Option Ow × Int × Mem) => match gx with | ⟨out2, out2p, out2c, out2tk, i1, Gm2⟩ => ((out2, i1) : (List (Fin 8 → Int)) × Int)) (fun (gx : (List (Fin 8 → Int)) × Option Addr × Nat × Option Ow × Int × Mem) => match gx with | ⟨out2, out2p, out2c, out2tk, i1, Gm2⟩ => [(0, .slice x1p x1.length x1c), (1, .int .i64 n1), (2, .int .i64 most1), (3, .int .i64 top1), (9, .slice out2p out2.length out2c), (10, .int .i64 i1)]) (fun (gx : (List (Fin 8 → Int)) × Option Addr × Nat × Option Ow × Int × Mem) => match gx with | ⟨out2, out2p, out2c, out2tk, i1, Gm2⟩ => Mem.le Gv1 Gm2 ∧ SlR (Rp.vec .i64 8) Gm2 (.slice out2p out2.length out2c) out2 ∧ Tok 8 48 (.slice out2p out2.length out2c) out2.length out2tk) (fun (gx : (List (Fin 8 → Int)) × Option Addr × Nat × Option Ow × Int × Mem) => match gx with | ⟨out2, out2p, out2c, out2tk, i1, Gm2⟩ => St w0 G0 Gm2 [(1009, out2tk)]) ⟨[], p1, 0, none, 0, Gv1⟩ hr (Fr.sub_cons rfl (Fr.sub_cons rfl (Fr.sub_cons rfl (Fr.sub_cons rfl (Fr.sub_cons rfl (Fr.sub_cons rfl (Fr.sub_nil _))))))) ⟨(Mem.le_refl _), p1h, Tok.full⟩ ?_ ?_
  ·intro w hs
   exact hs.weaken (Lo.sub_no (Lo.sub_nil _))
  ·intro Aq1 gx hx hr
   obtain ⟨out2, out2p, out2c, out2tk, i1, Gm2⟩ := gx
   obtain ⟨Gm2le, out2h, out2ht⟩ := hx
   refine WC.seq <| sr <| mv rfl rfl <| mv rfl rfl <| yy (Y0.lenR Try.underlying23 (x1h.mono (Mem.le_trans Gv1le Gm2le)) rfl) rfl ?_
   refine WL.caseY0 (p := i1 < (x1.length : Int)) guard_none (Y0.lss rfl rfl) rfl (fun hb1 => ?_) (fun hb1 => ?_)
   ·replace hr := hr.pos hb1
    refine mv rfl rfl ?_
    refine WL.y0' (guard_yes rfl rfl) (Y0.move rfl) rfl ?_
    refine WL.y0' (guard_yes rfl rfl) (Y0.move rfl) rfl ?_
    refine WL.y0' (guard_yes rfl rfl) (Y0.lss rfl rfl) rfl ?_
    refine yy (Y0.pickT rfl rfl) rfl <| nx ?_
    refine WC.condD (p := i1 < most1) rfl (fun hc1 => ?_) (fun hc1 => ?_)
    ·replace hr := hr.pos hc1
     refine WC.skip <| WE.then <| WC.seq <| WC.block <| sr <| yy (Y0.build (vs := #[]) (v := .agg (vecG (Value.int .i64) 8 (fun _ => 0)).toArray) rfl rfl (fun _ => by kernel_rfl)) rfl ?_
     refine WL.alloc 11 guard_none z48 rfl (fun b1 => ?_)
     refine WL.storeLA 11 guard_none sz48 rfl rfl rfl (vecG_size _ _ _) (vecG_size _ _ _) (fun u hu => Rp.one (Rp.vec .i64 8) (G := Gm2) (x := (fun _ => 0)) (cs := vecG (Value.int .i64) 8 (fun _ => 0)) rfl u (by simpa using hu)) ?_
     refine nx <| WC.seq <| sr <| sg rfl rfl <| nx ?_
     refine WC.meetH (fun (gx : (Fin 8 → Int) × Mem) => match gx with | ⟨bx1, Gm3⟩ => [(0, .slice x1p x1.length x1c), (1, .int .i64 n1), (2, .int .i64 most1), (3, .int .i64 top1), (9, .slice out2p out2.length out2c), (10, .int .i64 i1), (11, .pointer (some ⟨b1, 0, none⟩))]) (fun (gx : (Fin 8 → Int) × Mem) => match gx with | ⟨bx1, Gm3⟩ => Mem.le Gm2 Gm3 ∧ (R18_Made_k3 out2 i1 bx1).wp (Out Aq1 Phi1)) (fun (gx : (Fin 8 → Int) × Mem) => match gx with | ⟨bx1, Gm3⟩ => St w0 G0 Gm3 [(11, some ⟨b1, .cells (vecG (Value.int .i64) 8 bx1).toArray 48 (0, 0), 0⟩), (1009, out2tk)]) ?_ ?_
     ·refine WC.block ?_
      let Phi2 : (Fin 8 → Int) → Prop := fun oo => ((fun ov => match ov with | bx1 => R18_Made_k3 out2 i1 bx1 : (Fin 8 → Int) → Comp (((List (Fin 8 → Int)) × Int) ⊕ (((List (Fin 8 → Int)))))) oo).wp (Out Aq1 Phi1)
      replace hr : (Comp.loop _ _).wp Phi2 := hr
      refine WC.loopR (Φ := Phi2) (fun (gx : Int × (Fin 8 → Int) × Mem) => match gx with | ⟨k1, bx2, Gm4⟩ => ((k1, bx2) : Int × (Fin 8 → Int))) (fun (gx : Int × (Fin 8 → Int) × Mem) => match gx with | ⟨k1, bx2, Gm4⟩ => [(0, .slice x1p x1.length x1c), (1, .int .i64 n1), (2, .int .i64 most1), (3, .int .i64 top1), (9, .slice out2p out2.length out2c), (10, .int .i64 i1), (11, .pointer (some ⟨b1, 0, none⟩)), (12, .int .i64 k1)]) (fun (gx : Int × (Fin 8 → Int) × Mem) => match gx with | ⟨k1, bx2, Gm4⟩ => Mem.le Gm2 Gm4) (fun (gx : Int × (Fin 8 → Int) × Mem) => match gx with | ⟨k1, bx2, Gm4⟩ => St w0 G0 Gm4 [(11, some ⟨b1, .cells (vecG (Value.int .i64) 8 bx2).toArray 48 (0, 0), 0⟩), (1009, out2tk)]) ⟨0, (fun _ => 0), Gm2⟩ hr (Fr.sub_cons rfl (Fr.sub_cons rfl (Fr.sub_cons rfl (Fr.sub_cons rfl (Fr.sub_cons rfl (Fr.sub_cons rfl (Fr.sub_cons rfl (Fr.sub_cons rfl (Fr.sub_nil _))))))))) (Mem.le_refl _) ?_ ?_
      ·intro w hs
       exact hs.weaken (Lo.sub_cons rfl (Lo.sub_cons rfl (Lo.sub_nil _)))
      ·intro Aq2 gx hx hr
       obtain ⟨k1, bx2, Gm4⟩ := gx
       have Gm4le := hx
       refine WC.seq <| sr <| mv rfl rfl <| mv rfl rfl ?_
       refine WL.caseY0 (p := k1 < n1) guard_none (Y0.lss rfl rfl) rfl (fun hb2 => ?_) (fun hb2 => ?_)
       ·replace hr := hr.pos hb2
        refine mv rfl rfl ?_
        refine WL.y0' (guard_yes rfl rfl) (Y0.move rfl) rfl ?_
        refine WL.y0' (guard_yes rfl rfl) (Y0.lss rfl rfl) rfl ?_
        refine yy (Y0.pickT rfl rfl) rfl <| nx ?_
        refine WC.condD (p := k1 < 4) rfl (fun hc2 => ?_) (fun hc2 => ?_)
        ·replace hr := hr.pos hc2
         refine WC.skip <| WE.then <| WC.seq <| WC.block <| WC.region <| mv rfl rfl ?_
         refine mv rfl rfl <| mv rfl rfl <| mv rfl rfl ?_
         obtain ⟨x2, hx2, hr⟩ := hr
         refine yy (Y0.idxR Try.underlying23 sz65 (x1h.mono (Mem.le_trans (Mem.le_trans Gv1le Gm2le) Gm4le)) rfl rfl hx2) rfl ?_
         obtain ⟨hi1, hr⟩ := hr
         refine yy (Y0.idxA Try.underlying65 sz5 rfl rfl hi1) rfl <| yy (Y0.loadG sc5 rfl (AtK.vecAt (At.mono (SlR.at x1h hx2) (Mem.le_trans (Mem.le_trans Gv1le Gm2le) Gm4le)) hi1)) rfl <| yy (Y0.conv Try.underlying5 Try.underlying3 rfl) rfl ?_
         refine mv rfl rfl <| yy (Y0.add rfl rfl) rfl ?_
         obtain ⟨hd1, hr⟩ := hr
         refine yy (Y0.rem rfl rfl hd1) rfl ?_
         obtain ⟨hi2, hr⟩ := hr
         refine yy (Y0.idxA0 Try.underlying48 sz3 rfl rfl hi2) rfl ?_
         refine WL.storeL 11 (vecG (Value.int .i64) 8 (setF bx2 k1.toNat (Int.tmod (IntKind.i64.wrap (getF x2 k1)) (IntKind.i64.wrap (top1 + 1))))).toArray guard_none sz3 rfl rfl rfl (by first | (rw [vecG_size]; omega) | (show _ < (vecG _ _ _).toArray.size; rw [vecG_size]; omega)) rfl (vecG_put _ _ _ _ _) ?_
         refine WL.nil ?_
         refine WE.inBlock ?_
         refine WE.then <| WC.region <| mv rfl rfl <| yy (Y0.add rfl rfl) rfl <| sg rfl rfl <| WL.nil ?_
         refine WE.backR ⟨IntKind.i64.wrap (k1 + 1), setF bx2 k1.toNat (Int.tmod (IntKind.i64.wrap (getF x2 k1)) (IntKind.i64.wrap (top1 + 1))), Gm4⟩ hr Gm4le (Fr.sub_cons rfl (Fr.sub_cons rfl (Fr.sub_cons rfl (Fr.sub_cons rfl (Fr.sub_cons rfl (Fr.sub_cons rfl (Fr.sub_cons rfl (Fr.sub_cons rfl (Fr.sub_nil _))))))))) ?_
         ·intro w hs
          exact hs.weaken (Lo.sub_cons rfl (Lo.sub_cons rfl (Lo.sub_nil _)))
        ·replace hr := hr.neg hc2
         refine WC.exit ?_
         refine WE.thenExit ?_
         refine WE.thenExit ?_
         refine WE.exitHere ?_
         refine WE.endH ⟨bx2, Gm4⟩ ⟨Gm4le, hr⟩ (Fr.sub_cons rfl (Fr.sub_cons rfl (Fr.sub_cons rfl (Fr.sub_cons rfl (Fr.sub_cons rfl (Fr.sub_cons rfl (Fr.sub_cons rfl (Fr.sub_nil _)))))))) ?_
         ·intro w hs
          exact hs.weaken (Lo.sub_cons rfl (Lo.sub_cons rfl (Lo.sub_nil _)))
       ·replace hr := hr.neg hb2
        refine mv rfl rfl <| sk rfl rfl rfl <| sk rfl rfl rfl <| yy (Y0.pickF rfl rfl) rfl <| nx ?_
        refine WC.condF rfl ?_
        refine WC.exit ?_
        refine WE.thenExit ?_
        refine WE.thenExit ?_
        refine WE.exitHere ?_
        refine WE.endH ⟨bx2, Gm4⟩ ⟨Gm4le, hr⟩ (Fr.sub_cons rfl (Fr.sub_cons rfl (Fr.sub_cons rfl (Fr.sub_cons rfl (Fr.sub_cons rfl (Fr.sub_cons rfl (Fr.sub_cons rfl (Fr.sub_nil _)))))))) ?_
        ·intro w hs
         exact hs.weaken (Lo.sub_cons rfl (Lo.sub_cons rfl (Lo.sub_nil _)))
     ·rintro ⟨bx1, Gm3⟩ ⟨Gm3le, hr⟩
      refine WE.then <| WC.region <| mv rfl rfl <| yy (Y0.loadLA 11 ag48 rfl rfl (vecG_size _ _ _)) rfl ?_
      refine WL.litR (e := 48) (r := (Rp.vec .i64 8)) (vs := #[(0, .agg (vecG (Value.int .i64) 8 bx1).toArray)]) (cs := (vecG (Value.int .i64) 8 bx1) ++ ([])) ([bx1] : List (Fin 8 → Int)) guard_none rfl rfl rfl rfl (by decide) (fun _ => by kernel_rfl) ⟨vecG (Value.int .i64) 8 bx1, [], rfl, rfl, rfl⟩ (key := 999) rfl (by rw [hL0]; rfl) (fun p2 Gv2 Gv2le p2h => ?_)
      obtain ⟨hsm1, hr⟩ := hr
      refine WL.appendR (r := (Rp.vec .i64 8)) 1009 guard_none rfl Try.underlying28 el48 rfl (by decide) rfl rfl (out2h.mono (Mem.le_trans Gm3le Gv2le)) rfl (by rw [hL0]; rfl) out2ht p2h hsm1 (fun p3 p3c p3tk Gv3 Gv3le p3h p3ht => ?_)
      refine sg rfl rfl <| WL.nil ?_
      refine WE.inBlock ?_
      refine WE.then <| WC.region <| mv rfl rfl <| yy (Y0.add rfl rfl) rfl <| sg rfl rfl <| WL.nil ?_
      refine WE.backR ⟨(out2 ++ [bx1]), p3, p3c, p3tk, IntKind.i64.wrap (i1 + 1), Gv3⟩ hr ⟨(Mem.le_trans (Mem.le_trans (Mem.le_trans Gm2le Gm3le) Gv2le) Gv3le), p3h, p3ht⟩ (Fr.sub_cons rfl (Fr.sub_cons rfl (Fr.sub_cons rfl (Fr.sub_cons rfl (Fr.sub_cons rfl (Fr.sub_cons rfl (Fr.sub_nil _))))))) ?_
      ·intro w hs
       exact hs.weaken (Lo.sub_cons rfl (Lo.sub_nil _))
    ·replace hr := hr.neg hc1
     refine WC.exit ?_
     refine WE.thenExit ?_
     refine WE.thenExit ?_
     refine WE.exitHere ?_
     refine WE.endH ⟨out2, out2p, out2c, out2tk, Gm2⟩ ⟨Gm2le, out2h, out2ht, hr⟩ (Fr.sub_cons rfl (Fr.sub_nil _)) ?_
     ·intro w hs
      exact hs.weaken (Lo.sub_cons rfl (Lo.sub_nil _))
   ·replace hr := hr.neg hb1
    refine mv rfl rfl <| sk rfl rfl rfl <| sk rfl rfl rfl <| sk rfl rfl rfl <| yy (Y0.pickF rfl rfl) rfl <| nx ?_
    refine WC.condF rfl ?_
    refine WC.exit ?_
    refine WE.thenExit ?_
    refine WE.thenExit ?_
    refine WE.exitHere ?_
    refine WE.endH ⟨out2, out2p, out2c, out2tk, Gm2⟩ ⟨Gm2le, out2h, out2ht, hr⟩ (Fr.sub_cons rfl (Fr.sub_nil _)) ?_
    ·intro w hs
     exact hs.weaken (Lo.sub_cons rfl (Lo.sub_nil _))
 ·rintro ⟨out1, out1p, out1c, out1tk, Gm1⟩ ⟨Gm1le, out1h, out1ht, hr⟩
  refine WE.then <| sr <| mv rfl rfl <| sg rfl rfl <| nx ?_
  refine WC.ret ?_
  replace hr : _ = r := hr
  subst hr
  exact WE.ret1 rfl rfl ⟨_, _, rfl, out1h⟩
theorem L_R04_Valid (m1 : (Fin 8 → Int)) (r : Bool) (hr : (R04_Valid m1).Ret r) : Ctr Try.prog 34 #[.agg (vecG (Value.int .i64) 8 m1).toArray] (fun G => True) (fun G v => v = .bool r) := by
 refine Ctr.enter (args := [_]) (N := 18) Try.func34 rfl rfl rfl (fun w0 G0 hL0 hpre => ?_)
 refine sr ?_
 refine WL.box 1 guard_none rfl rfl (fun b1 => ?_)
 refine sg rfl rfl <| nx <| WC.seq <| sr <| sg rfl rfl <| nx ?_
 refine WC.meetH (fun (gx : Mem) => match gx with | Gm1 => []) (fun (gx : Mem) => match gx with | Gm1 => Mem.le G0 Gm1 ∧ (R04_Valid_k1).Ret r) (fun (gx : Mem) => match gx with | Gm1 => St w0 G0 Gm1 []) ?_ ?_
 ·refine WC.block ?_
  let Phi1 : (Bool ⊕ Unit) → Prop := fun oo => ((fun ov => match ov with | .inl rv1 => Comp.ret rv1 | .inr () => R04_Valid_k1 : (Bool ⊕ Unit) → Comp Bool) oo).wp (fun a => a = r)
  replace hr : (Comp.loop _ _).wp Phi1 := hr
  refine WC.loopR (Φ := Phi1) (fun (gx : Int × Mem) => match gx with | ⟨i1, Gm2⟩ => (i1 : Int)) (fun (gx : Int × Mem) => match gx with | ⟨i1, Gm2⟩ => [(1, .pointer (some ⟨b1, 0, none⟩)), (3, .int .i64 i1)]) (fun (gx : Int × Mem) => match gx with | ⟨i1, Gm2⟩ => Mem.le G0 Gm2) (fun (gx : Int × Mem) => match gx with | ⟨i1, Gm2⟩ => St w0 G0 Gm2 [(1, some ⟨b1, .cells (vecG (Value.int .i64) 8 m1).toArray 48 (0, 0), 0⟩)]) ⟨0, G0⟩ hr (Fr.sub_cons rfl (Fr.sub_cons rfl (Fr.sub_nil _))) (Mem.le_refl _) ?_ ?_
  ·intro w hs
   exact hs.weaken (Lo.sub_cons rfl (Lo.sub_nil _))
  ·intro Aq1 gx hx hr
   obtain ⟨i1, Gm2⟩ := gx
   have Gm2le := hx
   refine WC.seq <| sr <| mv rfl rfl <| yy (Y0.lss rfl rfl) rfl <| nx ?_
   refine WC.condD (p := i1 < 8) rfl (fun hc1 => ?_) (fun hc1 => ?_)
   ·replace hr := hr.pos hc1
    refine WC.skip <| WE.then <| WC.seq <| WC.block <| sr <| mv rfl rfl ?_
    obtain ⟨hi1, hr⟩ := hr
    refine yy (Y0.idxA0 Try.underlying48 sz3 rfl rfl hi1) rfl <| yy (Y0.loadL 1 sc3 rfl rfl (vecG_at _ _ _ hi1)) rfl ?_
    refine WL.caseY0 (p := (getF m1 i1) < 0) guard_none (Y0.lss rfl rfl) rfl (fun hb1 => ?_) (fun hb1 => ?_)
    ·replace hr := hr.pos hb1
     refine mv rfl rfl ?_
     refine WL.skip (guard_noF rfl rfl) rfl ?_
     refine WL.skip (guard_noF rfl rfl) rfl ?_
     refine WL.skip (guard_noF rfl rfl) rfl ?_
     refine WL.skip (guard_noF rfl rfl) rfl ?_
     refine yy (Y0.pickT rfl rfl) rfl <| nx ?_
     refine WC.condT rfl ?_
     refine sr <| sg rfl rfl <| nx ?_
     refine WC.ret ?_
     replace hr : _ = r := hr
     refine WE.inBlockRet ?_
     refine WE.thenRet ?_
     refine WE.thenRet ?_
     refine WE.inBlockRet ?_
     refine WE.endRet ?_
     refine WE.thenRet ?_
     subst hr
     exact WE.ret1 rfl rfl rfl
    ·replace hr := hr.neg hb1
     refine mv rfl rfl ?_
     refine WL.y0' (guard_yes rfl rfl) (Y0.move rfl) rfl ?_
     obtain ⟨hi2, hr⟩ := hr
     refine WL.y0' (guard_yes rfl rfl) (Y0.idxA0 Try.underlying48 sz3 rfl rfl hi2) rfl ?_
     refine WL.y0' (guard_yes rfl rfl) (Y0.loadL 1 sc3 rfl rfl (vecG_at _ _ _ hi2)) rfl ?_
     refine WL.y0' (guard_yes rfl rfl) (Y0.gtr rfl rfl) rfl ?_
     refine yy (Y0.pickF rfl rfl) rfl <| nx ?_
     refine WC.condD (p := 65535 < (getF m1 i1)) rfl (fun hc2 => ?_) (fun hc2 => ?_)
     ·replace hr := hr.pos hc2
      refine sr <| sg rfl rfl <| nx ?_
      refine WC.ret ?_
      replace hr : _ = r := hr
      refine WE.inBlockRet ?_
      refine WE.thenRet ?_
      refine WE.thenRet ?_
      refine WE.inBlockRet ?_
      refine WE.endRet ?_
      refine WE.thenRet ?_
      subst hr
      exact WE.ret1 rfl rfl rfl
     ·replace hr := hr.neg hc2
      refine WC.skip ?_
      refine WE.inBlock ?_
      refine WE.then <| WC.region <| mv rfl rfl <| yy (Y0.add rfl rfl) rfl <| sg rfl rfl <| WL.nil ?_
      refine WE.backR ⟨IntKind.i64.wrap (i1 + 1), Gm2⟩ hr Gm2le (Fr.sub_cons rfl (Fr.sub_cons rfl (Fr.sub_nil _))) ?_
      ·intro w hs
       exact hs.weaken (Lo.sub_cons rfl (Lo.sub_nil _))
   ·replace hr := hr.neg hc1
    refine WC.exit ?_
    refine WE.thenExit ?_
    refine WE.thenExit ?_
    refine WE.exitHere ?_
    refine WE.endH Gm2 ⟨Gm2le, hr⟩ (Fr.sub_nil _) ?_
    ·intro w hs
     exact hs.weaken (Lo.sub_nil _)
 ·rintro Gm1 ⟨Gm1le, hr⟩
  refine WE.then <| sr <| sg rfl rfl <| nx ?_
  refine WC.ret ?_
  replace hr : _ = r := hr
  subst hr
  exact WE.ret1 rfl rfl rfl
theorem L_R04_Bit (i1 : Int) (r : Int) (hr : (R04_Bit i1).Ret r) : Ctr Try.prog 61 #[.int .i64 i1] (fun G => True) (fun G v => v = .int .u8 r) := by
 refine Ctr.enter (args := [_]) (N := 14) Try.func61 rfl rfl rfl (fun w0 G0 hL0 hpre => ?_)
 refine sr <| sg rfl rfl <| nr <| sg rfl rfl <| nx <| WC.seq ?_
 refine sr <| sg rfl rfl <| nx ?_
 refine WC.meetH (fun (gx : Int × Mem) => match gx with | ⟨n1, Gm1⟩ => [(3, .int .i64 n1)]) (fun (gx : Int × Mem) => match gx with | ⟨n1, Gm1⟩ => Mem.le G0 Gm1 ∧ (R04_Bit_k1 n1).Ret r) (fun (gx : Int × Mem) => match gx with | ⟨n1, Gm1⟩ => St w0 G0 Gm1 []) ?_ ?_
 ·refine WC.block ?_
  let Phi1 : Int → Prop := fun oo => ((fun ov => match ov with | n1 => R04_Bit_k1 n1 : Int → Comp Int) oo).wp (fun a => a = r)
  replace hr : (Comp.loop _ _).wp Phi1 := hr
  refine WC.loopR (Φ := Phi1) (fun (gx : Int × Int × Mem) => match gx with | ⟨n2, k1, Gm2⟩ => ((n2, k1) : Int × Int)) (fun (gx : Int × Int × Mem) => match gx with | ⟨n2, k1, Gm2⟩ => [(0, .int .i64 i1), (3, .int .i64 n2), (4, .int .i64 k1)]) (fun (gx : Int × Int × Mem) => match gx with | ⟨n2, k1, Gm2⟩ => Mem.le G0 Gm2) (fun (gx : Int × Int × Mem) => match gx with | ⟨n2, k1, Gm2⟩ => St w0 G0 Gm2 []) ⟨1, 0, G0⟩ hr (Fr.sub_cons rfl (Fr.sub_cons rfl (Fr.sub_cons rfl (Fr.sub_nil _)))) (Mem.le_refl _) ?_ ?_
  ·intro w hs
   exact hs.weaken (Lo.sub_nil _)
  ·intro Aq1 gx hx hr
   obtain ⟨n2, k1, Gm2⟩ := gx
   have Gm2le := hx
   refine WC.seq <| sr <| mv rfl rfl <| mv rfl rfl <| yy (Y0.lss rfl rfl) rfl <| nx ?_
   refine WC.condD (p := k1 < i1) rfl (fun hc1 => ?_) (fun hc1 => ?_)
   ·replace hr := hr.pos hc1
    refine WC.skip <| WE.then <| WC.seq <| WC.block <| WC.region <| mv rfl rfl ?_
    refine yy (Y0.mul rfl rfl) rfl <| sg rfl rfl <| WL.nil ?_
    refine WE.inBlock ?_
    refine WE.then <| WC.region <| mv rfl rfl <| yy (Y0.add rfl rfl) rfl <| sg rfl rfl <| WL.nil ?_
    refine WE.backR ⟨IntKind.i64.wrap (2 * n2), IntKind.i64.wrap (k1 + 1), Gm2⟩ hr Gm2le (Fr.sub_cons rfl (Fr.sub_cons rfl (Fr.sub_cons rfl (Fr.sub_nil _)))) ?_
    ·intro w hs
     exact hs.weaken (Lo.sub_nil _)
   ·replace hr := hr.neg hc1
    refine WC.exit ?_
    refine WE.thenExit ?_
    refine WE.thenExit ?_
    refine WE.exitHere ?_
    refine WE.endH ⟨n2, Gm2⟩ ⟨Gm2le, hr⟩ (Fr.sub_cons rfl (Fr.sub_nil _)) ?_
    ·intro w hs
     exact hs.weaken (Lo.sub_nil _)
 ·rintro ⟨n1, Gm1⟩ ⟨Gm1le, hr⟩
  refine WE.then <| sr <| mv rfl rfl <| yy (Y0.conv Try.underlying3 Try.underlying5 rfl) rfl <| sg rfl rfl <| nx ?_
  refine WC.ret ?_
  replace hr : _ = r := hr
  subst hr
  exact WE.ret1 rfl rfl rfl
theorem L_R04_Support (m1 : (Fin 8 → Int)) (r : Int) (hr : (R04_Support m1).Ret r) : Ctr Try.prog 39 #[.agg (vecG (Value.int .i64) 8 m1).toArray] (fun G => True) (fun G v => v = .int .u8 r) := by
 refine Ctr.enter (args := [_]) (N := 18) Try.func39 rfl rfl rfl (fun w0 G0 hL0 hpre => ?_)
 refine sr ?_
 refine WL.box 1 guard_none rfl rfl (fun b1 => ?_)
 refine sg rfl rfl <| nr <| sg rfl rfl <| nx <| WC.seq <| sr ?_
 refine sg rfl rfl <| nx ?_
 refine WC.meetH (fun (gx : Int × Mem) => match gx with | ⟨n1, Gm1⟩ => [(3, .int .u8 n1)]) (fun (gx : Int × Mem) => match gx with | ⟨n1, Gm1⟩ => Mem.le G0 Gm1 ∧ (R04_Support_k1 n1).Ret r) (fun (gx : Int × Mem) => match gx with | ⟨n1, Gm1⟩ => St w0 G0 Gm1 []) ?_ ?_
 ·refine WC.block ?_
  let Phi1 : Int → Prop := fun oo => ((fun ov => match ov with | n1 => R04_Support_k1 n1 : Int → Comp Int) oo).wp (fun a => a = r)
  replace hr : (Comp.loop _ _).wp Phi1 := hr
  refine WC.loopR (Φ := Phi1) (fun (gx : Int × Int × Mem) => match gx with | ⟨n2, i1, Gm2⟩ => ((n2, i1) : Int × Int)) (fun (gx : Int × Int × Mem) => match gx with | ⟨n2, i1, Gm2⟩ => [(1, .pointer (some ⟨b1, 0, none⟩)), (3, .int .u8 n2), (4, .int .i64 i1)]) (fun (gx : Int × Int × Mem) => match gx with | ⟨n2, i1, Gm2⟩ => Mem.le G0 Gm2) (fun (gx : Int × Int × Mem) => match gx with | ⟨n2, i1, Gm2⟩ => St w0 G0 Gm2 [(1, some ⟨b1, .cells (vecG (Value.int .i64) 8 m1).toArray 48 (0, 0), 0⟩)]) ⟨0, 0, G0⟩ hr (Fr.sub_cons rfl (Fr.sub_cons rfl (Fr.sub_cons rfl (Fr.sub_nil _)))) (Mem.le_refl _) ?_ ?_
  ·intro w hs
   exact hs.weaken (Lo.sub_cons rfl (Lo.sub_nil _))
  ·intro Aq1 gx hx hr
   obtain ⟨n2, i1, Gm2⟩ := gx
   have Gm2le := hx
   refine WC.seq <| sr <| mv rfl rfl <| yy (Y0.lss rfl rfl) rfl <| nx ?_
   refine WC.condD (p := i1 < 8) rfl (fun hc1 => ?_) (fun hc1 => ?_)
   ·replace hr := hr.pos hc1
    refine WC.skip <| WE.then <| WC.seq <| WC.block <| sr <| mv rfl rfl ?_
    obtain ⟨hi1, hr⟩ := hr
    refine yy (Y0.idxA0 Try.underlying48 sz3 rfl rfl hi1) rfl <| yy (Y0.loadL 1 sc3 rfl rfl (vecG_at _ _ _ hi1)) rfl <| yy (Y0.gtr rfl rfl) rfl <| nx ?_
    refine WC.condD (p := 0 < (getF m1 i1)) rfl (fun hc2 => ?_) (fun hc2 => ?_)
    ·replace hr := hr.pos hc2
     refine WC.region <| mv rfl rfl <| mv rfl rfl ?_
     obtain ⟨yv1, hyv1, hr⟩ := hr
     refine WL.call0 guard_none rfl (YC.of E61 rfl) (L_R04_Bit _ _ hyv1) rfl (trivial) ?_
     refine yy (Y0.add rfl rfl) rfl <| sg rfl rfl <| WL.nil ?_
     refine WE.inBlock ?_
     refine WE.then <| WC.region <| mv rfl rfl <| yy (Y0.add rfl rfl) rfl <| sg rfl rfl <| WL.nil ?_
     refine WE.backR ⟨IntKind.u8.wrap (n2 + yv1), IntKind.i64.wrap (i1 + 1), Gm2⟩ hr Gm2le (Fr.sub_cons rfl (Fr.sub_cons rfl (Fr.sub_cons rfl (Fr.sub_nil _)))) ?_
     ·intro w hs
      exact hs.weaken (Lo.sub_cons rfl (Lo.sub_nil _))
    ·replace hr := hr.neg hc2
     refine WC.skip ?_
     refine WE.inBlock ?_
     refine WE.then <| WC.region <| mv rfl rfl <| yy (Y0.add rfl rfl) rfl <| sg rfl rfl <| WL.nil ?_
     refine WE.backR ⟨n2, IntKind.i64.wrap (i1 + 1), Gm2⟩ hr Gm2le (Fr.sub_cons rfl (Fr.sub_cons rfl (Fr.sub_cons rfl (Fr.sub_nil _)))) ?_
     ·intro w hs
      exact hs.weaken (Lo.sub_cons rfl (Lo.sub_nil _))
   ·replace hr := hr.neg hc1
    refine WC.exit ?_
    refine WE.thenExit ?_
    refine WE.thenExit ?_
    refine WE.exitHere ?_
    refine WE.endH ⟨n2, Gm2⟩ ⟨Gm2le, hr⟩ (Fr.sub_cons rfl (Fr.sub_nil _)) ?_
    ·intro w hs
     exact hs.weaken (Lo.sub_nil _)
 ·rintro ⟨n1, Gm1⟩ ⟨Gm1le, hr⟩
  refine WE.then <| sr <| mv rfl rfl <| sg rfl rfl <| nx ?_
  refine WC.ret ?_
  replace hr : _ = r := hr
  subst hr
  exact WE.ret1 rfl rfl rfl
theorem L_R21_check (l1 : (List (Fin 8 → Int))) (n1 : Int) (l1p : Option Addr) (l1c : Nat) (r : Int) (hr : (R21_check l1 n1).Ret r) : Ctr Try.prog 44 #[.slice l1p l1.length l1c, .int .i64 n1] (fun G => SlR (Rp.vec .i64 8) G (.slice l1p l1.length l1c) l1) (fun G v => v = .int .i64 r) := by
 refine Ctr.enter (args := [_, _]) (N := 38) Try.func44 rfl rfl rfl (fun w0 G0 hL0 hpre => ?_)
 have l1h := hpre
 refine sr <| sg rfl rfl <| nx <| WC.seq <| sr <| mv rfl rfl ?_
 refine WL.caseY0 (p := n1 < 0) guard_none (Y0.lss rfl rfl) rfl (fun hb1 => ?_) (fun hb1 => ?_)
 ·replace hr := hr.pos hb1
  refine mv rfl rfl ?_
  refine WL.skip (guard_noF rfl rfl) rfl ?_
  refine WL.skip (guard_noF rfl rfl) rfl ?_
  refine yy (Y0.pickT rfl rfl) rfl <| nx ?_
  refine WC.condT rfl ?_
  refine sr <| sg rfl rfl <| nx ?_
  refine WC.ret ?_
  replace hr : _ = r := hr
  refine WE.thenRet ?_
  subst hr
  exact WE.ret1 rfl rfl rfl
 ·replace hr := hr.neg hb1
  refine mv rfl rfl ?_
  refine WL.y0' (guard_yes rfl rfl) (Y0.move rfl) rfl ?_
  refine WL.y0' (guard_yes rfl rfl) (Y0.gtr rfl rfl) rfl ?_
  refine yy (Y0.pickF rfl rfl) rfl <| nx ?_
  refine WC.condD (p := 8 < n1) rfl (fun hc1 => ?_) (fun hc1 => ?_)
  ·replace hr := hr.pos hc1
   refine sr <| sg rfl rfl <| nx ?_
   refine WC.ret ?_
   replace hr : _ = r := hr
   refine WE.thenRet ?_
   subst hr
   exact WE.ret1 rfl rfl rfl
  ·replace hr := hr.neg hc1
   refine WC.skip <| WE.then <| WC.seq <| sr <| sg rfl rfl <| nx ?_
   refine WC.meetH (fun (gx : Mem) => match gx with | Gm1 => [(0, .slice l1p l1.length l1c)]) (fun (gx : Mem) => match gx with | Gm1 => Mem.le G0 Gm1 ∧ (R21_check_k1 l1).Ret r) (fun (gx : Mem) => match gx with | Gm1 => St w0 G0 Gm1 []) ?_ ?_
   ·refine WC.block ?_
    let Phi1 : (Int ⊕ Unit) → Prop := fun oo => ((fun ov => match ov with | .inl rv1 => Comp.ret rv1 | .inr () => R21_check_k1 l1 : (Int ⊕ Unit) → Comp Int) oo).wp (fun a => a = r)
    replace hr : (Comp.loop _ _).wp Phi1 := hr
    refine WC.loopR (Φ := Phi1) (fun (gx : Int × Mem) => match gx with | ⟨i1, Gm2⟩ => (i1 : Int)) (fun (gx : Int × Mem) => match gx with | ⟨i1, Gm2⟩ => [(0, .slice l1p l1.length l1c), (1, .int .i64 n1), (5, .int .i64 i1)]) (fun (gx : Int × Mem) => match gx with | ⟨i1, Gm2⟩ => Mem.le G0 Gm2) (fun (gx : Int × Mem) => match gx with | ⟨i1, Gm2⟩ => St w0 G0 Gm2 []) ⟨0, G0⟩ hr (Fr.sub_cons rfl (Fr.sub_cons rfl (Fr.sub_cons rfl (Fr.sub_nil _)))) (Mem.le_refl _) ?_ ?_
    ·intro w hs
     exact hs.weaken (Lo.sub_nil _)
    ·intro Aq1 gx hx hr
     obtain ⟨i1, Gm2⟩ := gx
     have Gm2le := hx
     refine WC.seq <| sr <| mv rfl rfl <| mv rfl rfl <| yy (Y0.lenR Try.underlying28 (l1h.mono Gm2le) rfl) rfl <| yy (Y0.lss rfl rfl) rfl ?_
     refine nx ?_
     refine WC.condD (p := i1 < (l1.length : Int)) rfl (fun hc3 => ?_) (fun hc3 => ?_)
     ·replace hr := hr.pos hc3
      refine WC.skip <| WE.then <| WC.seq <| WC.block <| sr <| mv rfl rfl ?_
      refine mv rfl rfl ?_
      obtain ⟨x1, hx1, hr⟩ := hr
      refine yy (Y0.idxR Try.underlying28 sz48 (l1h.mono Gm2le) rfl rfl hx1) rfl <| yy (Y0.loadGA _ ag48 rfl (vecG_size _ _ _) (AtK.vec (At.mono (SlR.at l1h hx1) Gm2le))) rfl ?_
      obtain ⟨yv1, hyv1, hr⟩ := hr
      refine WL.call0 guard_none rfl (YC.of E34 rfl) (L_R04_Valid _ _ hyv1) rfl (trivial) ?_
      cases yv1
      ·skip
       refine yy (Y0.not rfl) rfl <| mv rfl rfl ?_
       refine WL.skip (guard_noF rfl rfl) rfl ?_
       refine WL.skip (guard_noF rfl rfl) rfl ?_
       refine WL.skip (guard_noF rfl rfl) rfl ?_
       refine WL.skip (guard_noF rfl rfl) rfl ?_
       refine WL.skip (guard_noF rfl rfl) rfl ?_
       refine WL.skip (guard_noF rfl rfl) rfl ?_
       refine WL.skip (guard_noF rfl rfl) rfl ?_
       refine WL.skip (guard_noF rfl rfl) rfl ?_
       refine WL.skip (guard_noF rfl rfl) rfl ?_
       refine yy (Y0.pickT rfl rfl) rfl <| nx ?_
       refine WC.condT rfl ?_
       refine sr <| sg rfl rfl <| nx ?_
       refine WC.ret ?_
       replace hr : _ = r := hr
       refine WE.inBlockRet ?_
       refine WE.thenRet ?_
       refine WE.thenRet ?_
       refine WE.inBlockRet ?_
       refine WE.endRet ?_
       refine WE.thenRet ?_
       subst hr
       exact WE.ret1 rfl rfl rfl
      ·skip
       refine yy (Y0.not rfl) rfl <| mv rfl rfl ?_
       refine WL.y0' (guard_yes rfl rfl) (Y0.move rfl) rfl ?_
       refine WL.y0' (guard_yes rfl rfl) (Y0.move rfl) rfl ?_
       obtain ⟨x2, hx2, hr⟩ := hr
       refine WL.y0' (guard_yes rfl rfl) (Y0.idxR Try.underlying28 sz48 (l1h.mono Gm2le) rfl rfl hx2) rfl ?_
       refine WL.y0' (guard_yes rfl rfl) (Y0.loadGA _ ag48 rfl (vecG_size _ _ _) (AtK.vec (At.mono (SlR.at l1h hx2) Gm2le))) rfl ?_
       obtain ⟨yv2, hyv2, hr⟩ := hr
       refine WL.call0 (guard_yes rfl rfl) rfl (YC.of E39 rfl) (L_R04_Support _ _ hyv2) rfl (trivial) ?_
       refine WL.y0' (guard_yes rfl rfl) (Y0.conv Try.underlying5 Try.underlying3 rfl) rfl ?_
       refine WL.y0' (guard_yes rfl rfl) (Y0.move rfl) rfl ?_
       obtain ⟨hd1, hr⟩ := hr
       refine WL.y0' (guard_yes rfl rfl) (Y0.shr rfl rfl hd1) rfl ?_
       refine WL.y0' (guard_yes rfl rfl) (Y0.gtr rfl rfl) rfl ?_
       refine yy (Y0.pickF rfl rfl) rfl <| nx ?_
       refine WC.condD (p := 0 < (Int.fdiv (IntKind.i64.wrap yv2) (2 ^ (min (n1).toNat IntKind.i64.bits)))) rfl (fun hc4 => ?_) (fun hc4 => ?_)
       ·replace hr := hr.pos hc4
        refine sr <| sg rfl rfl <| nx ?_
        refine WC.ret ?_
        replace hr : _ = r := hr
        refine WE.inBlockRet ?_
        refine WE.thenRet ?_
        refine WE.thenRet ?_
        refine WE.inBlockRet ?_
        refine WE.endRet ?_
        refine WE.thenRet ?_
        subst hr
        exact WE.ret1 rfl rfl rfl
       ·replace hr := hr.neg hc4
        refine WC.skip ?_
        refine WE.inBlock ?_
        refine WE.then <| WC.region <| mv rfl rfl <| yy (Y0.add rfl rfl) rfl <| sg rfl rfl <| WL.nil ?_
        refine WE.backR ⟨IntKind.i64.wrap (i1 + 1), Gm2⟩ hr Gm2le (Fr.sub_cons rfl (Fr.sub_cons rfl (Fr.sub_cons rfl (Fr.sub_nil _)))) ?_
        ·intro w hs
         exact hs.weaken (Lo.sub_nil _)
     ·replace hr := hr.neg hc3
      refine WC.exit ?_
      refine WE.thenExit ?_
      refine WE.thenExit ?_
      refine WE.exitHere ?_
      refine WE.endH Gm2 ⟨Gm2le, hr⟩ (Fr.sub_cons rfl (Fr.sub_nil _)) ?_
      ·intro w hs
       exact hs.weaken (Lo.sub_nil _)
   ·rintro Gm1 ⟨Gm1le, hr⟩
    refine WE.then <| WC.seq <| sr <| mv rfl rfl <| yy (Y0.lenR Try.underlying28 (l1h.mono Gm1le) rfl) rfl <| yy (Y0.gtr rfl rfl) rfl ?_
    refine nx ?_
    refine WC.condD (p := 8 < (l1.length : Int)) rfl (fun hc2 => ?_) (fun hc2 => ?_)
    ·replace hr := hr.pos hc2
     refine sr <| sg rfl rfl <| nx ?_
     refine WC.ret ?_
     replace hr : _ = r := hr
     refine WE.thenRet ?_
     subst hr
     exact WE.ret1 rfl rfl rfl
    ·replace hr := hr.neg hc2
     refine WC.skip <| WE.then <| sr <| sg rfl rfl <| nx ?_
     refine WC.ret ?_
     replace hr : _ = r := hr
     subst hr
     exact WE.ret1 rfl rfl rfl
theorem L_R04_Divides (a1 : (Fin 8 → Int)) (b1 : (Fin 8 → Int)) (r : Bool) (hr : (R04_Divides a1 b1).Ret r) : Ctr Try.prog 58 #[.agg (vecG (Value.int .i64) 8 a1).toArray, .agg (vecG (Value.int .i64) 8 b1).toArray] (fun G => True) (fun G v => v = .bool r) := by
 refine Ctr.enter (args := [_, _]) (N := 17) Try.func58 rfl rfl rfl (fun w0 G0 hL0 hpre => ?_)
 refine sr ?_
 refine WL.box 2 guard_none rfl rfl (fun b2 => ?_)
 refine WL.box 3 guard_none rfl rfl (fun b3 => ?_)
 refine sg rfl rfl <| nx <| WC.seq <| sr <| sg rfl rfl <| nx ?_
 refine WC.meetH (fun (gx : Mem) => match gx with | Gm1 => []) (fun (gx : Mem) => match gx with | Gm1 => Mem.le G0 Gm1 ∧ (R04_Divides_k1).Ret r) (fun (gx : Mem) => match gx with | Gm1 => St w0 G0 Gm1 []) ?_ ?_
 ·refine WC.block ?_
  let Phi1 : (Bool ⊕ Unit) → Prop := fun oo => ((fun ov => match ov with | .inl rv1 => Comp.ret rv1 | .inr () => R04_Divides_k1 : (Bool ⊕ Unit) → Comp Bool) oo).wp (fun a => a = r)
  replace hr : (Comp.loop _ _).wp Phi1 := hr
  refine WC.loopR (Φ := Phi1) (fun (gx : Int × Mem) => match gx with | ⟨i1, Gm2⟩ => (i1 : Int)) (fun (gx : Int × Mem) => match gx with | ⟨i1, Gm2⟩ => [(2, .pointer (some ⟨b2, 0, none⟩)), (3, .pointer (some ⟨b3, 0, none⟩)), (5, .int .i64 i1)]) (fun (gx : Int × Mem) => match gx with | ⟨i1, Gm2⟩ => Mem.le G0 Gm2) (fun (gx : Int × Mem) => match gx with | ⟨i1, Gm2⟩ => St w0 G0 Gm2 [(2, some ⟨b2, .cells (vecG (Value.int .i64) 8 a1).toArray 48 (0, 0), 0⟩), (3, some ⟨b3, .cells (vecG (Value.int .i64) 8 b1).toArray 48 (0, 0), 0⟩)]) ⟨0, G0⟩ hr (Fr.sub_cons rfl (Fr.sub_cons rfl (Fr.sub_cons rfl (Fr.sub_nil _)))) (Mem.le_refl _) ?_ ?_
  ·intro w hs
   exact hs.weaken (Lo.sub_cons rfl (Lo.sub_cons rfl (Lo.sub_nil _)))
  ·intro Aq1 gx hx hr
   obtain ⟨i1, Gm2⟩ := gx
   have Gm2le := hx
   refine WC.seq <| sr <| mv rfl rfl <| yy (Y0.lss rfl rfl) rfl <| nx ?_
   refine WC.condD (p := i1 < 8) rfl (fun hc1 => ?_) (fun hc1 => ?_)
   ·replace hr := hr.pos hc1
    refine WC.skip <| WE.then <| WC.seq <| WC.block <| WC.seq ?_
    refine WC.drawn [false, false, false, false, false, false, false] mix (by kernel_rfl) (fun hb => ?_)
    refine Chain.y0 guard_none (fun _ hle => Y0.move rfl) ?_
    obtain ⟨hi1, hr⟩ := hr
    refine Chain.y0 guard_none (fun _ hle => Y0.idxA0 Try.underlying48 sz3 rfl rfl hi1) ?_
    refine Chain.y0 guard_none (fun _ hle => Y0.loadL 2 sc3 rfl rfl (vecG_at _ _ _ hi1)) ?_
    refine Chain.y0 guard_none (fun _ hle => Y0.move rfl) ?_
    obtain ⟨hi2, hr⟩ := hr
    refine Chain.y0 guard_none (fun _ hle => Y0.idxA0 Try.underlying48 sz3 rfl rfl hi2) ?_
    refine Chain.y0 guard_none (fun _ hle => Y0.loadL 3 sc3 rfl rfl (vecG_at _ _ _ hi2)) ?_
    refine Chain.y0 guard_none (fun _ hle => Y0.gtr rfl rfl) ?_
    refine Chain.tail0 hb ?_
    refine WL.nil ?_
    refine WE.nx ?_
    refine WE.then ?_
    refine WC.condD (p := (getF b1 i1) < (getF a1 i1)) rfl (fun hc2 => ?_) (fun hc2 => ?_)
    ·replace hr := hr.pos hc2
     refine sr <| sg rfl rfl <| nx ?_
     refine WC.ret ?_
     replace hr : _ = r := hr
     refine WE.inBlockRet ?_
     refine WE.thenRet ?_
     refine WE.thenRet ?_
     refine WE.inBlockRet ?_
     refine WE.endRet ?_
     refine WE.thenRet ?_
     subst hr
     exact WE.ret1 rfl rfl rfl
    ·replace hr := hr.neg hc2
     refine WC.skip ?_
     refine WE.inBlock ?_
     refine WE.then <| WC.region <| mv rfl rfl <| yy (Y0.add rfl rfl) rfl <| sg rfl rfl <| WL.nil ?_
     refine WE.backR ⟨IntKind.i64.wrap (i1 + 1), Gm2⟩ hr Gm2le (Fr.sub_cons rfl (Fr.sub_cons rfl (Fr.sub_cons rfl (Fr.sub_nil _)))) ?_
     ·intro w hs
      exact hs.weaken (Lo.sub_cons rfl (Lo.sub_cons rfl (Lo.sub_nil _)))
   ·replace hr := hr.neg hc1
    refine WC.exit ?_
    refine WE.thenExit ?_
    refine WE.thenExit ?_
    refine WE.exitHere ?_
    refine WE.endH Gm2 ⟨Gm2le, hr⟩ (Fr.sub_nil _) ?_
    ·intro w hs
     exact hs.weaken (Lo.sub_nil _)
 ·rintro Gm1 ⟨Gm1le, hr⟩
  refine WE.then <| sr <| sg rfl rfl <| nx ?_
  refine WC.ret ?_
  replace hr : _ = r := hr
  subst hr
  exact WE.ret1 rfl rfl rfl
theorem L_R04_lowest (m1 : (Fin 8 → Int)) (l1 : (List (Fin 8 → Int))) (l1p : Option Addr) (l1c : Nat) (r : Bool) (hr : (R04_lowest m1 l1).Ret r) : Ctr Try.prog 56 #[.agg (vecG (Value.int .i64) 8 m1).toArray, .slice l1p l1.length l1c] (fun G => SlR (Rp.vec .i64 8) G (.slice l1p l1.length l1c) l1) (fun G v => v = .bool r) := by
 refine Ctr.enter (args := [_, _]) (N := 26) Try.func56 rfl rfl rfl (fun w0 G0 hL0 hpre => ?_)
 have l1h := hpre
 refine sr ?_
 refine WL.box 2 guard_none rfl rfl (fun b1 => ?_)
 refine sg rfl rfl <| nx <| WC.seq <| sr <| sg rfl rfl <| nx ?_
 refine WC.meetH (fun (gx : Mem) => match gx with | Gm1 => []) (fun (gx : Mem) => match gx with | Gm1 => Mem.le G0 Gm1 ∧ (R04_lowest_k1).Ret r) (fun (gx : Mem) => match gx with | Gm1 => St w0 G0 Gm1 []) ?_ ?_
 ·refine WC.block ?_
  let Phi1 : (Bool ⊕ Unit) → Prop := fun oo => ((fun ov => match ov with | .inl rv1 => Comp.ret rv1 | .inr () => R04_lowest_k1 : (Bool ⊕ Unit) → Comp Bool) oo).wp (fun a => a = r)
  replace hr : (Comp.loop _ _).wp Phi1 := hr
  refine WC.loopR (Φ := Phi1) (fun (gx : Int × Mem) => match gx with | ⟨i1, Gm2⟩ => (i1 : Int)) (fun (gx : Int × Mem) => match gx with | ⟨i1, Gm2⟩ => [(1, .slice l1p l1.length l1c), (2, .pointer (some ⟨b1, 0, none⟩)), (5, .int .i64 i1)]) (fun (gx : Int × Mem) => match gx with | ⟨i1, Gm2⟩ => Mem.le G0 Gm2) (fun (gx : Int × Mem) => match gx with | ⟨i1, Gm2⟩ => St w0 G0 Gm2 [(2, some ⟨b1, .cells (vecG (Value.int .i64) 8 m1).toArray 48 (0, 0), 0⟩)]) ⟨0, G0⟩ hr (Fr.sub_cons rfl (Fr.sub_cons rfl (Fr.sub_cons rfl (Fr.sub_nil _)))) (Mem.le_refl _) ?_ ?_
  ·intro w hs
   exact hs.weaken (Lo.sub_cons rfl (Lo.sub_nil _))
  ·intro Aq1 gx hx hr
   obtain ⟨i1, Gm2⟩ := gx
   have Gm2le := hx
   refine WC.seq <| sr <| mv rfl rfl <| mv rfl rfl <| yy (Y0.lenR Try.underlying28 (l1h.mono Gm2le) rfl) rfl <| yy (Y0.lss rfl rfl) rfl ?_
   refine nx ?_
   refine WC.condD (p := i1 < (l1.length : Int)) rfl (fun hc1 => ?_) (fun hc1 => ?_)
   ·replace hr := hr.pos hc1
    refine WC.skip <| WE.then <| WC.seq <| WC.block <| WC.seq ?_
    refine WC.drawn [false, false, false, false, false, false, false, false, false, false, false, false, false, false] mix (by kernel_rfl) (fun hb => ?_)
    refine Chain.y0 guard_none (fun _ hle => Y0.move rfl) ?_
    refine Chain.y0 guard_none (fun _ hle => Y0.move rfl) ?_
    obtain ⟨x1, hx1, hr⟩ := hr
    refine Chain.y0 guard_none (fun _ hle => Y0.idxR Try.underlying28 sz48 ((l1h.mono Gm2le).mono hle) rfl rfl hx1) ?_
    refine Chain.y0 guard_none (fun _ hle => Y0.loadGA _ ag48 rfl (vecG_size _ _ _) (AtK.vec (At.mono (At.mono (SlR.at l1h hx1) Gm2le) hle))) ?_
    refine Chain.y0 guard_none (fun _ hle => Y0.loadLA 2 ag48 rfl rfl (vecG_size _ _ _)) ?_
    refine Chain.caseY0 (p := ¬ x1 = m1) guard_none (fun _ hle => Y0.neqV Try.underlying48 Try.underlying3 sc3 sz3 eg48 rfl rfl) (fun hb1 => ?_) (fun hb1 => ?_)
    ·replace hr := hr.pos hb1
     refine Chain.y0 guard_none (fun _ hle => Y0.move rfl) ?_
     refine Chain.y0 (guard_yes rfl rfl) (fun _ hle => Y0.move rfl) ?_
     refine Chain.y0 (guard_yes rfl rfl) (fun _ hle => Y0.move rfl) ?_
     obtain ⟨x2, hx2, hr⟩ := hr
     refine Chain.y0 (guard_yes rfl rfl) (fun _ hle => Y0.idxR Try.underlying28 sz48 ((l1h.mono Gm2le).mono hle) rfl rfl hx2) ?_
     refine Chain.y0 (guard_yes rfl rfl) (fun _ hle => Y0.loadGA _ ag48 rfl (vecG_size _ _ _) (AtK.vec (At.mono (At.mono (SlR.at l1h hx2) Gm2le) hle))) ?_
     refine Chain.y0 (guard_yes rfl rfl) (fun _ hle => Y0.loadLA 2 ag48 rfl rfl (vecG_size _ _ _)) ?_
     obtain ⟨yv1, hyv1, hr⟩ := hr
     refine Chain.call0 (guard_yes rfl rfl) (fun _ => YC.of E58 rfl) (L_R04_Divides _ _ _ hyv1) rfl (fun G' hle => trivial) ?_
     refine Chain.y0 guard_none (fun _ hle => Y0.pickT rfl rfl) ?_
     refine Chain.tail0 hb ?_
     refine WL.nil ?_
     refine WE.nx ?_
     refine WE.then ?_
     refine WC.cond (b := yv1) rfl (fun hc2 => ?_) (fun hc2 => ?_)
     ·replace hr := hr.pos hc2
      refine sr <| sg rfl rfl <| nx ?_
      refine WC.ret ?_
      replace hr : _ = r := hr
      refine WE.inBlockRet ?_
      refine WE.thenRet ?_
      refine WE.thenRet ?_
      refine WE.inBlockRet ?_
      refine WE.endRet ?_
      refine WE.thenRet ?_
      subst hr
      exact WE.ret1 rfl rfl rfl
     ·replace hr := hr.neg (Bool.eq_false_iff.1 hc2)
      refine WC.skip ?_
      refine WE.inBlock ?_
      refine WE.then <| WC.region <| mv rfl rfl <| yy (Y0.add rfl rfl) rfl <| sg rfl rfl <| WL.nil ?_
      refine WE.backR ⟨IntKind.i64.wrap (i1 + 1), Gm2⟩ hr Gm2le (Fr.sub_cons rfl (Fr.sub_cons rfl (Fr.sub_cons rfl (Fr.sub_nil _)))) ?_
      ·intro w hs
       exact hs.weaken (Lo.sub_cons rfl (Lo.sub_nil _))
    ·replace hr := hr.neg hb1
     refine Chain.y0 guard_none (fun _ hle => Y0.move rfl) ?_
     refine Chain.skip (guard_noT rfl rfl) ?_
     refine Chain.skip (guard_noT rfl rfl) ?_
     refine Chain.skip (guard_noT rfl rfl) ?_
     refine Chain.skip (guard_noT rfl rfl) ?_
     refine Chain.skip (guard_noT rfl rfl) ?_
     refine Chain.skip (guard_noT rfl rfl) ?_
     refine Chain.y0 guard_none (fun _ hle => Y0.pickF rfl rfl) ?_
     refine Chain.tail0 hb ?_
     refine WL.nil ?_
     refine WE.nx ?_
     refine WE.then ?_
     refine WC.condF rfl ?_
     refine WC.skip ?_
     refine WE.inBlock ?_
     refine WE.then <| WC.region <| mv rfl rfl <| yy (Y0.add rfl rfl) rfl <| sg rfl rfl <| WL.nil ?_
     refine WE.backR ⟨IntKind.i64.wrap (i1 + 1), Gm2⟩ hr Gm2le (Fr.sub_cons rfl (Fr.sub_cons rfl (Fr.sub_cons rfl (Fr.sub_nil _)))) ?_
     ·intro w hs
      exact hs.weaken (Lo.sub_cons rfl (Lo.sub_nil _))
   ·replace hr := hr.neg hc1
    refine WC.exit ?_
    refine WE.thenExit ?_
    refine WE.thenExit ?_
    refine WE.exitHere ?_
    refine WE.endH Gm2 ⟨Gm2le, hr⟩ (Fr.sub_nil _) ?_
    ·intro w hs
     exact hs.weaken (Lo.sub_nil _)
 ·rintro Gm1 ⟨Gm1le, hr⟩
  refine WE.then <| sr <| sg rfl rfl <| nx ?_
  refine WC.ret ?_
  replace hr : _ = r := hr
  subst hr
  exact WE.ret1 rfl rfl rfl
theorem L_R04_Cmp (a1 : (Fin 8 → Int)) (b1 : (Fin 8 → Int)) (r : Int) (hr : (R04_Cmp a1 b1).Ret r) : Ctr Try.prog 35 #[.agg (vecG (Value.int .i64) 8 a1).toArray, .agg (vecG (Value.int .i64) 8 b1).toArray] (fun G => True) (fun G v => v = .int .i64 r) := by
 refine Ctr.enter (args := [_, _]) (N := 24) Try.func35 rfl rfl rfl (fun w0 G0 hL0 hpre => ?_)
 refine sr ?_
 refine WL.box 2 guard_none rfl rfl (fun b2 => ?_)
 refine WL.box 3 guard_none rfl rfl (fun b3 => ?_)
 refine sg rfl rfl <| nx <| WC.seq <| sr <| sg rfl rfl <| nx ?_
 refine WC.meetH (fun (gx : Mem) => match gx with | Gm1 => []) (fun (gx : Mem) => match gx with | Gm1 => Mem.le G0 Gm1 ∧ (R04_Cmp_k1).Ret r) (fun (gx : Mem) => match gx with | Gm1 => St w0 G0 Gm1 []) ?_ ?_
 ·refine WC.block ?_
  let Phi1 : (Int ⊕ Unit) → Prop := fun oo => ((fun ov => match ov with | .inl rv1 => Comp.ret rv1 | .inr () => R04_Cmp_k1 : (Int ⊕ Unit) → Comp Int) oo).wp (fun a => a = r)
  replace hr : (Comp.loop _ _).wp Phi1 := hr
  refine WC.loopR (Φ := Phi1) (fun (gx : Int × Mem) => match gx with | ⟨i1, Gm2⟩ => (i1 : Int)) (fun (gx : Int × Mem) => match gx with | ⟨i1, Gm2⟩ => [(2, .pointer (some ⟨b2, 0, none⟩)), (3, .pointer (some ⟨b3, 0, none⟩)), (5, .int .i64 i1)]) (fun (gx : Int × Mem) => match gx with | ⟨i1, Gm2⟩ => Mem.le G0 Gm2) (fun (gx : Int × Mem) => match gx with | ⟨i1, Gm2⟩ => St w0 G0 Gm2 [(2, some ⟨b2, .cells (vecG (Value.int .i64) 8 a1).toArray 48 (0, 0), 0⟩), (3, some ⟨b3, .cells (vecG (Value.int .i64) 8 b1).toArray 48 (0, 0), 0⟩)]) ⟨0, G0⟩ hr (Fr.sub_cons rfl (Fr.sub_cons rfl (Fr.sub_cons rfl (Fr.sub_nil _)))) (Mem.le_refl _) ?_ ?_
  ·intro w hs
   exact hs.weaken (Lo.sub_cons rfl (Lo.sub_cons rfl (Lo.sub_nil _)))
  ·intro Aq1 gx hx hr
   obtain ⟨i1, Gm2⟩ := gx
   have Gm2le := hx
   refine WC.seq <| sr <| mv rfl rfl <| yy (Y0.lss rfl rfl) rfl <| nx ?_
   refine WC.condD (p := i1 < 8) rfl (fun hc1 => ?_) (fun hc1 => ?_)
   ·replace hr := hr.pos hc1
    refine WC.skip <| WE.then <| WC.seq <| WC.block <| WC.seq <| WC.seq ?_
    refine WC.drawn [false, false, false, false, false, false, false] mix (by kernel_rfl) (fun hb => ?_)
    refine Chain.y0 guard_none (fun _ hle => Y0.move rfl) ?_
    obtain ⟨hi1, hr⟩ := hr
    refine Chain.y0 guard_none (fun _ hle => Y0.idxA0 Try.underlying48 sz3 rfl rfl hi1) ?_
    refine Chain.y0 guard_none (fun _ hle => Y0.loadL 2 sc3 rfl rfl (vecG_at _ _ _ hi1)) ?_
    refine Chain.y0 guard_none (fun _ hle => Y0.move rfl) ?_
    obtain ⟨hi2, hr⟩ := hr
    refine Chain.y0 guard_none (fun _ hle => Y0.idxA0 Try.underlying48 sz3 rfl rfl hi2) ?_
    refine Chain.y0 guard_none (fun _ hle => Y0.loadL 3 sc3 rfl rfl (vecG_at _ _ _ hi2)) ?_
    refine Chain.y0 guard_none (fun _ hle => Y0.lss rfl rfl) ?_
    refine Chain.tail0 hb ?_
    refine WL.nil ?_
    refine WE.nx ?_
    refine WE.then ?_
    refine WC.condD (p := (getF a1 i1) < (getF b1 i1)) rfl (fun hc2 => ?_) (fun hc2 => ?_)
    ·replace hr := hr.pos hc2
     refine sr <| sg rfl rfl <| nx ?_
     refine WC.ret ?_
     replace hr : _ = r := hr
     refine WE.thenRet ?_
     refine WE.inBlockRet ?_
     refine WE.thenRet ?_
     refine WE.thenRet ?_
     refine WE.inBlockRet ?_
     refine WE.endRet ?_
     refine WE.thenRet ?_
     subst hr
     exact WE.ret1 rfl rfl rfl
    ·replace hr := hr.neg hc2
     refine WC.skip <| WE.then <| WC.seq ?_
     refine WC.drawn [false, false, false, false, false, false, false] mix (by kernel_rfl) (fun hb => ?_)
     refine Chain.y0 guard_none (fun _ hle => Y0.move rfl) ?_
     obtain ⟨hi3, hr⟩ := hr
     refine Chain.y0 guard_none (fun _ hle => Y0.idxA0 Try.underlying48 sz3 rfl rfl hi3) ?_
     refine Chain.y0 guard_none (fun _ hle => Y0.loadL 2 sc3 rfl rfl (vecG_at _ _ _ hi3)) ?_
     refine Chain.y0 guard_none (fun _ hle => Y0.move rfl) ?_
     obtain ⟨hi4, hr⟩ := hr
     refine Chain.y0 guard_none (fun _ hle => Y0.idxA0 Try.underlying48 sz3 rfl rfl hi4) ?_
     refine Chain.y0 guard_none (fun _ hle => Y0.loadL 3 sc3 rfl rfl (vecG_at _ _ _ hi4)) ?_
     refine Chain.y0 guard_none (fun _ hle => Y0.gtr rfl rfl) ?_
     refine Chain.tail0 hb ?_
     refine WL.nil ?_
     refine WE.nx ?_
     refine WE.then ?_
     refine WC.condD (p := (getF b1 i1) < (getF a1 i1)) rfl (fun hc3 => ?_) (fun hc3 => ?_)
     ·replace hr := hr.pos hc3
      refine sr <| sg rfl rfl <| nx ?_
      refine WC.ret ?_
      replace hr : _ = r := hr
      refine WE.inBlockRet ?_
      refine WE.thenRet ?_
      refine WE.thenRet ?_
      refine WE.inBlockRet ?_
      refine WE.endRet ?_
      refine WE.thenRet ?_
      subst hr
      exact WE.ret1 rfl rfl rfl
     ·replace hr := hr.neg hc3
      refine WC.skip ?_
      refine WE.inBlock ?_
      refine WE.then <| WC.region <| mv rfl rfl <| yy (Y0.add rfl rfl) rfl <| sg rfl rfl <| WL.nil ?_
      refine WE.backR ⟨IntKind.i64.wrap (i1 + 1), Gm2⟩ hr Gm2le (Fr.sub_cons rfl (Fr.sub_cons rfl (Fr.sub_cons rfl (Fr.sub_nil _)))) ?_
      ·intro w hs
       exact hs.weaken (Lo.sub_cons rfl (Lo.sub_cons rfl (Lo.sub_nil _)))
   ·replace hr := hr.neg hc1
    refine WC.exit ?_
    refine WE.thenExit ?_
    refine WE.thenExit ?_
    refine WE.exitHere ?_
    refine WE.endH Gm2 ⟨Gm2le, hr⟩ (Fr.sub_nil _) ?_
    ·intro w hs
     exact hs.weaken (Lo.sub_nil _)
 ·rintro Gm1 ⟨Gm1le, hr⟩
  refine WE.then <| sr <| sg rfl rfl <| nx ?_
  refine WC.ret ?_
  replace hr : _ = r := hr
  subst hr
  exact WE.ret1 rfl rfl rfl
theorem L_R04_insert (l1 : (List (Fin 8 → Int))) (m1 : (Fin 8 → Int)) (l1p : Option Addr) (l1c : Nat) (r : (List (Fin 8 → Int))) (hr : (R04_insert l1 m1).Ret r) : Ctr Try.prog 57 #[.slice l1p l1.length l1c, .agg (vecG (Value.int .i64) 8 m1).toArray] (fun G => SlR (Rp.vec .i64 8) G (.slice l1p l1.length l1c) l1) (fun G v => ∃ zp zc, v = .slice zp r.length zc ∧ SlR (Rp.vec .i64 8) G (.slice zp r.length zc) r) := by
 refine Ctr.enter (args := [_, _]) (N := 50) Try.func57 rfl rfl rfl (fun w0 G0 hL0 hpre => ?_)
 have l1h := hpre
 refine sr ?_
 refine WL.box 3 guard_none rfl rfl (fun b1 => ?_)
 refine sg rfl rfl <| nr ?_
 refine WL.litR (e := 48) (r := (Rp.vec .i64 8)) (vs := #[]) (cs := []) ([] : List (Fin 8 → Int)) guard_none rfl rfl rfl rfl (by decide) (fun _ => by kernel_rfl) (rfl) (key := 999) rfl (by rw [hL0]; rfl) (fun p1 Gv1 Gv1le p1h => ?_)
 refine sg rfl rfl <| nr <| sg rfl rfl <| nx <| WC.seq <| sr ?_
 refine sg rfl rfl <| nx ?_
 refine WC.meetH (fun (gx : (List (Fin 8 → Int)) × Option Addr × Nat × Option Ow × Bool × Mem) => match gx with | ⟨out1, out1p, out1c, out1tk, done1, Gm1⟩ => [(3, .pointer (some ⟨b1, 0, none⟩)), (5, .slice out1p out1.length out1c), (6, .bool done1)]) (fun (gx : (List (Fin 8 → Int)) × Option Addr × Nat × Option Ow × Bool × Mem) => match gx with | ⟨out1, out1p, out1c, out1tk, done1, Gm1⟩ => Mem.le Gv1 Gm1 ∧ SlR (Rp.vec .i64 8) Gm1 (.slice out1p out1.length out1c) out1 ∧ Tok 8 48 (.slice out1p out1.length out1c) out1.length out1tk ∧ (R04_insert_k1 m1 out1 done1).Ret r) (fun (gx : (List (Fin 8 → Int)) × Option Addr × Nat × Option Ow × Bool × Mem) => match gx with | ⟨out1, out1p, out1c, out1tk, done1, Gm1⟩ => St w0 G0 Gm1 [(3, some ⟨b1, .cells (vecG (Value.int .i64) 8 m1).toArray 48 (0, 0), 0⟩), (1005, out1tk)]) ?_ ?_
 ·refine WC.block ?_
  let Phi1 : (((List (Fin 8 → Int)) × Bool)) → Prop := fun oo => ((fun ov => match ov with | (out1, done1) => R04_insert_k1 m1 out1 done1 : (((List (Fin 8 → Int)) × Bool)) → Comp ((List (Fin 8 → Int)))) oo).wp (fun a => a = r)
  replace hr : (Comp.loop _ _).wp Phi1 := hr
  refine WC.loopR (Φ := Phi1) (fun (gx : (List (Fin 8 → Int)) × Option Addr × Nat × Option Ow × Bool × Int × Mem) => match gx with | ⟨out2, out2p, out2c, out2tk, done2, i1, Gm2⟩ => ((out2, done2, i1) : (List (Fin 8 → Int)) × Bool × Int)) (fun (gx : (List (Fin 8 → Int)) × Option Addr × Nat × Option Ow × Bool × Int × Mem) => match gx with | ⟨out2, out2p, out2c, out2tk, done2, i1, Gm2⟩ => [(0, .slice l1p l1.length l1c), (3, .pointer (some ⟨b1, 0, none⟩)), (5, .slice out2p out2.length out2c), (6, .bool done2), (7, .int .i64 i1)]) (fun (gx : (List (Fin 8 → Int)) × Option Addr × Nat × Option Ow × Bool × Int × Mem) => match gx with | ⟨out2, out2p, out2c, out2tk, done2, i1, Gm2⟩ => Mem.le Gv1 Gm2 ∧ SlR (Rp.vec .i64 8) Gm2 (.slice out2p out2.length out2c) out2 ∧ Tok 8 48 (.slice out2p out2.length out2c) out2.length out2tk) (fun (gx : (List (Fin 8 → Int)) × Option Addr × Nat × Option Ow × Bool × Int × Mem) => match gx with | ⟨out2, out2p, out2c, out2tk, done2, i1, Gm2⟩ => St w0 G0 Gm2 [(3, some ⟨b1, .cells (vecG (Value.int .i64) 8 m1).toArray 48 (0, 0), 0⟩), (1005, out2tk)]) ⟨[], p1, 0, none, false, 0, Gv1⟩ hr (Fr.sub_cons rfl (Fr.sub_cons rfl (Fr.sub_cons rfl (Fr.sub_cons rfl (Fr.sub_cons rfl (Fr.sub_nil _)))))) ⟨(Mem.le_refl _), p1h, Tok.full⟩ ?_ ?_
  ·intro w hs
   exact hs.weaken (Lo.sub_cons rfl (Lo.sub_no (Lo.sub_nil _)))
  ·intro Aq1 gx hx hr
   obtain ⟨out2, out2p, out2c, out2tk, done2, i1, Gm2⟩ := gx
   obtain ⟨Gm2le, out2h, out2ht⟩ := hx
   refine WC.seq <| sr <| mv rfl rfl <| mv rfl rfl <| yy (Y0.lenR Try.underlying28 (l1h.mono (Mem.le_trans Gv1le Gm2le)) rfl) rfl <| yy (Y0.lss rfl rfl) rfl ?_
   refine nx ?_
   refine WC.condD (p := i1 < (l1.length : Int)) rfl (fun hc2 => ?_) (fun hc2 => ?_)
   ·replace hr := hr.pos hc2
    refine WC.skip <| WE.then <| WC.seq <| WC.block <| WC.seq <| WC.seq ?_
    refine WC.drawn [false, false, false, false, false, false, false, false, false, false, false] mix (by kernel_rfl) (fun hb => ?_)
    refine Chain.caseY0 (p := done2 = true) guard_none (fun _ hle => Y0.eq (Y0.move rfl) (congrArg Value.bool (bdec _))) (fun hb1 => ?_) (fun hb1 => ?_)
    ·replace hr := hr.pos hb1
     refine Chain.y0 guard_none (fun _ hle => Y0.not rfl) ?_
     refine Chain.y0 guard_none (fun _ hle => Y0.move rfl) ?_
     refine Chain.skip (guard_noT rfl rfl) ?_
     refine Chain.skip (guard_noT rfl rfl) ?_
     refine Chain.skip (guard_noT rfl rfl) ?_
     refine Chain.skip (guard_noT rfl rfl) ?_
     refine Chain.skip (guard_noT rfl rfl) ?_
     refine Chain.skip (guard_noT rfl rfl) ?_
     refine Chain.skip (guard_noT rfl rfl) ?_
     refine Chain.y0 guard_none (fun _ hle => Y0.pickF rfl rfl) ?_
     refine Chain.tail0 hb ?_
     refine WL.nil ?_
     refine WE.nx ?_
     refine WE.then ?_
     refine WC.condF rfl ?_
     refine WC.skip <| WE.then <| WC.region <| mv rfl rfl <| mv rfl rfl <| mv rfl rfl ?_
     obtain ⟨x1, hx1, hr⟩ := hr
     refine yy (Y0.idxR Try.underlying28 sz48 (l1h.mono (Mem.le_trans Gv1le Gm2le)) rfl rfl hx1) rfl <| yy (Y0.loadGA _ ag48 rfl (vecG_size _ _ _) (AtK.vec (At.mono (SlR.at l1h hx1) (Mem.le_trans Gv1le Gm2le)))) rfl ?_
     refine WL.litR (e := 48) (r := (Rp.vec .i64 8)) (vs := #[(0, .agg (vecG (Value.int .i64) 8 x1).toArray)]) (cs := (vecG (Value.int .i64) 8 x1) ++ ([])) ([x1] : List (Fin 8 → Int)) guard_none rfl rfl rfl rfl (by decide) (fun _ => by kernel_rfl) ⟨vecG (Value.int .i64) 8 x1, [], rfl, rfl, rfl⟩ (key := 999) rfl (by rw [hL0]; rfl) (fun p4 Gv4 Gv4le p4h => ?_)
     obtain ⟨hsm2, hr⟩ := hr
     refine WL.appendR (r := (Rp.vec .i64 8)) 1005 guard_none rfl Try.underlying28 el48 rfl (by decide) rfl rfl (out2h.mono Gv4le) rfl (by rw [hL0]; rfl) out2ht p4h hsm2 (fun p5 p5c p5tk Gv5 Gv5le p5h p5ht => ?_)
     refine sg rfl rfl <| WL.nil ?_
     refine WE.inBlock ?_
     refine WE.then <| WC.region <| mv rfl rfl <| yy (Y0.add rfl rfl) rfl <| sg rfl rfl <| WL.nil ?_
     refine WE.backR ⟨(out2 ++ [x1]), p5, p5c, p5tk, done2, IntKind.i64.wrap (i1 + 1), Gv5⟩ hr ⟨(Mem.le_trans (Mem.le_trans Gm2le Gv4le) Gv5le), p5h, p5ht⟩ (Fr.sub_cons rfl (Fr.sub_cons rfl (Fr.sub_cons rfl (Fr.sub_cons rfl (Fr.sub_cons rfl (Fr.sub_nil _)))))) ?_
     ·intro w hs
      exact hs.weaken (Lo.sub_cons rfl (Lo.sub_cons rfl (Lo.sub_nil _)))
    ·replace hr := hr.neg hb1
     refine Chain.y0 guard_none (fun _ hle => Y0.not rfl) ?_
     refine Chain.y0 guard_none (fun _ hle => Y0.move rfl) ?_
     refine Chain.y0 (guard_yes rfl rfl) (fun _ hle => Y0.loadLA 3 ag48 rfl rfl (vecG_size _ _ _)) ?_
     refine Chain.y0 (guard_yes rfl rfl) (fun _ hle => Y0.move rfl) ?_
     refine Chain.y0 (guard_yes rfl rfl) (fun _ hle => Y0.move rfl) ?_
     obtain ⟨x2, hx2, hr⟩ := hr
     refine Chain.y0 (guard_yes rfl rfl) (fun _ hle => Y0.idxR Try.underlying28 sz48 ((l1h.mono (Mem.le_trans Gv1le Gm2le)).mono hle) rfl rfl hx2) ?_
     refine Chain.y0 (guard_yes rfl rfl) (fun _ hle => Y0.loadGA _ ag48 rfl (vecG_size _ _ _) (AtK.vec (At.mono (At.mono (SlR.at l1h hx2) (Mem.le_trans Gv1le Gm2le)) hle))) ?_
     obtain ⟨yv1, hyv1, hr⟩ := hr
     refine Chain.call0 (guard_yes rfl rfl) (fun _ => YC.of E35 rfl) (L_R04_Cmp _ _ _ hyv1) rfl (fun G' hle => trivial) ?_
     refine Chain.y0 (guard_yes rfl rfl) (fun _ hle => Y0.geq rfl rfl) ?_
     refine Chain.y0 guard_none (fun _ hle => Y0.pickT rfl rfl) ?_
     refine Chain.tail0 hb ?_
     refine WL.nil ?_
     refine WE.nx ?_
     refine WE.then ?_
     refine WC.condD (p := 0 ≤ yv1) rfl (fun hc3 => ?_) (fun hc3 => ?_)
     ·replace hr := hr.pos hc3
      refine sr <| sg rfl rfl <| nx <| WC.seq ?_
      refine WC.drawn [false, false, false, false, false, false] mix (by kernel_rfl) (fun hb => ?_)
      refine Chain.y0 guard_none (fun _ hle => Y0.move rfl) ?_
      refine Chain.y0 guard_none (fun _ hle => Y0.move rfl) ?_
      obtain ⟨x3, hx3, hr⟩ := hr
      refine Chain.y0 guard_none (fun _ hle => Y0.idxR Try.underlying28 sz48 ((l1h.mono (Mem.le_trans Gv1le Gm2le)).mono hle) rfl rfl hx3) ?_
      refine Chain.y0 guard_none (fun _ hle => Y0.loadGA _ ag48 rfl (vecG_size _ _ _) (AtK.vec (At.mono (At.mono (SlR.at l1h hx3) (Mem.le_trans Gv1le Gm2le)) hle))) ?_
      refine Chain.y0 guard_none (fun _ hle => Y0.loadLA 3 ag48 rfl rfl (vecG_size _ _ _)) ?_
      refine Chain.y0 guard_none (fun _ hle => Y0.neqV Try.underlying48 Try.underlying3 sc3 sz3 eg48 rfl rfl) ?_
      refine Chain.tail0 hb ?_
      refine WL.nil ?_
      refine WE.nx ?_
      refine WE.then ?_
      refine WC.condD (p := ¬ x3 = m1) rfl (fun hc4 => ?_) (fun hc4 => ?_)
      ·replace hr := hr.pos hc4
       refine WC.region <| mv rfl rfl <| yy (Y0.loadLA 3 ag48 rfl rfl (vecG_size _ _ _)) rfl ?_
       refine WL.litR (e := 48) (r := (Rp.vec .i64 8)) (vs := #[(0, .agg (vecG (Value.int .i64) 8 m1).toArray)]) (cs := (vecG (Value.int .i64) 8 m1) ++ ([])) ([m1] : List (Fin 8 → Int)) guard_none rfl rfl rfl rfl (by decide) (fun _ => by kernel_rfl) ⟨vecG (Value.int .i64) 8 m1, [], rfl, rfl, rfl⟩ (key := 999) rfl (by rw [hL0]; rfl) (fun p6 Gv6 Gv6le p6h => ?_)
       obtain ⟨hsm3, hr⟩ := hr
       refine WL.appendR (r := (Rp.vec .i64 8)) 1005 guard_none rfl Try.underlying28 el48 rfl (by decide) rfl rfl (out2h.mono Gv6le) rfl (by rw [hL0]; rfl) out2ht p6h hsm3 (fun p7 p7c p7tk Gv7 Gv7le p7h p7ht => ?_)
       refine sg rfl rfl <| nx <| WC.region <| mv rfl rfl <| mv rfl rfl <| mv rfl rfl ?_
       obtain ⟨x4, hx4, hr⟩ := hr
       refine yy (Y0.idxR Try.underlying28 sz48 (l1h.mono (Mem.le_trans (Mem.le_trans (Mem.le_trans Gv1le Gm2le) Gv6le) Gv7le)) rfl rfl hx4) rfl <| yy (Y0.loadGA _ ag48 rfl (vecG_size _ _ _) (AtK.vec (At.mono (SlR.at l1h hx4) (Mem.le_trans (Mem.le_trans (Mem.le_trans Gv1le Gm2le) Gv6le) Gv7le)))) rfl ?_
       refine WL.litR (e := 48) (r := (Rp.vec .i64 8)) (vs := #[(0, .agg (vecG (Value.int .i64) 8 x4).toArray)]) (cs := (vecG (Value.int .i64) 8 x4) ++ ([])) ([x4] : List (Fin 8 → Int)) guard_none rfl rfl rfl rfl (by decide) (fun _ => by kernel_rfl) ⟨vecG (Value.int .i64) 8 x4, [], rfl, rfl, rfl⟩ (key := 999) rfl (by rw [hL0]; rfl) (fun p8 Gv8 Gv8le p8h => ?_)
       obtain ⟨hsm4, hr⟩ := hr
       refine WL.appendR (r := (Rp.vec .i64 8)) 1005 guard_none rfl Try.underlying28 el48 rfl (by decide) rfl rfl (p7h.mono Gv8le) rfl (by rw [hL0]; rfl) p7ht p8h hsm4 (fun p9 p9c p9tk Gv9 Gv9le p9h p9ht => ?_)
       refine sg rfl rfl <| WL.nil ?_
       refine WE.inBlock ?_
       refine WE.then <| WC.region <| mv rfl rfl <| yy (Y0.add rfl rfl) rfl <| sg rfl rfl <| WL.nil ?_
       refine WE.backR ⟨((out2 ++ [m1]) ++ [x4]), p9, p9c, p9tk, true, IntKind.i64.wrap (i1 + 1), Gv9⟩ hr ⟨(Mem.le_trans (Mem.le_trans (Mem.le_trans (Mem.le_trans Gm2le Gv6le) Gv7le) Gv8le) Gv9le), p9h, p9ht⟩ (Fr.sub_cons rfl (Fr.sub_cons rfl (Fr.sub_cons rfl (Fr.sub_cons rfl (Fr.sub_cons rfl (Fr.sub_nil _)))))) ?_
       ·intro w hs
        exact hs.weaken (Lo.sub_cons rfl (Lo.sub_cons rfl (Lo.sub_nil _)))
      ·replace hr := hr.neg hc4
       refine WC.skip <| WE.then <| WC.region <| mv rfl rfl <| mv rfl rfl <| mv rfl rfl ?_
       obtain ⟨x5, hx5, hr⟩ := hr
       refine yy (Y0.idxR Try.underlying28 sz48 (l1h.mono (Mem.le_trans Gv1le Gm2le)) rfl rfl hx5) rfl <| yy (Y0.loadGA _ ag48 rfl (vecG_size _ _ _) (AtK.vec (At.mono (SlR.at l1h hx5) (Mem.le_trans Gv1le Gm2le)))) rfl ?_
       refine WL.litR (e := 48) (r := (Rp.vec .i64 8)) (vs := #[(0, .agg (vecG (Value.int .i64) 8 x5).toArray)]) (cs := (vecG (Value.int .i64) 8 x5) ++ ([])) ([x5] : List (Fin 8 → Int)) guard_none rfl rfl rfl rfl (by decide) (fun _ => by kernel_rfl) ⟨vecG (Value.int .i64) 8 x5, [], rfl, rfl, rfl⟩ (key := 999) rfl (by rw [hL0]; rfl) (fun p10 Gv10 Gv10le p10h => ?_)
       obtain ⟨hsm5, hr⟩ := hr
       refine WL.appendR (r := (Rp.vec .i64 8)) 1005 guard_none rfl Try.underlying28 el48 rfl (by decide) rfl rfl (out2h.mono Gv10le) rfl (by rw [hL0]; rfl) out2ht p10h hsm5 (fun p11 p11c p11tk Gv11 Gv11le p11h p11ht => ?_)
       refine sg rfl rfl <| WL.nil ?_
       refine WE.inBlock ?_
       refine WE.then <| WC.region <| mv rfl rfl <| yy (Y0.add rfl rfl) rfl <| sg rfl rfl <| WL.nil ?_
       refine WE.backR ⟨(out2 ++ [x5]), p11, p11c, p11tk, true, IntKind.i64.wrap (i1 + 1), Gv11⟩ hr ⟨(Mem.le_trans (Mem.le_trans Gm2le Gv10le) Gv11le), p11h, p11ht⟩ (Fr.sub_cons rfl (Fr.sub_cons rfl (Fr.sub_cons rfl (Fr.sub_cons rfl (Fr.sub_cons rfl (Fr.sub_nil _)))))) ?_
       ·intro w hs
        exact hs.weaken (Lo.sub_cons rfl (Lo.sub_cons rfl (Lo.sub_nil _)))
     ·replace hr := hr.neg hc3
      refine WC.skip <| WE.then <| WC.region <| mv rfl rfl <| mv rfl rfl <| mv rfl rfl ?_
      obtain ⟨x6, hx6, hr⟩ := hr
      refine yy (Y0.idxR Try.underlying28 sz48 (l1h.mono (Mem.le_trans Gv1le Gm2le)) rfl rfl hx6) rfl <| yy (Y0.loadGA _ ag48 rfl (vecG_size _ _ _) (AtK.vec (At.mono (SlR.at l1h hx6) (Mem.le_trans Gv1le Gm2le)))) rfl ?_
      refine WL.litR (e := 48) (r := (Rp.vec .i64 8)) (vs := #[(0, .agg (vecG (Value.int .i64) 8 x6).toArray)]) (cs := (vecG (Value.int .i64) 8 x6) ++ ([])) ([x6] : List (Fin 8 → Int)) guard_none rfl rfl rfl rfl (by decide) (fun _ => by kernel_rfl) ⟨vecG (Value.int .i64) 8 x6, [], rfl, rfl, rfl⟩ (key := 999) rfl (by rw [hL0]; rfl) (fun p12 Gv12 Gv12le p12h => ?_)
      obtain ⟨hsm6, hr⟩ := hr
      refine WL.appendR (r := (Rp.vec .i64 8)) 1005 guard_none rfl Try.underlying28 el48 rfl (by decide) rfl rfl (out2h.mono Gv12le) rfl (by rw [hL0]; rfl) out2ht p12h hsm6 (fun p13 p13c p13tk Gv13 Gv13le p13h p13ht => ?_)
      refine sg rfl rfl <| WL.nil ?_
      refine WE.inBlock ?_
      refine WE.then <| WC.region <| mv rfl rfl <| yy (Y0.add rfl rfl) rfl <| sg rfl rfl <| WL.nil ?_
      refine WE.backR ⟨(out2 ++ [x6]), p13, p13c, p13tk, done2, IntKind.i64.wrap (i1 + 1), Gv13⟩ hr ⟨(Mem.le_trans (Mem.le_trans Gm2le Gv12le) Gv13le), p13h, p13ht⟩ (Fr.sub_cons rfl (Fr.sub_cons rfl (Fr.sub_cons rfl (Fr.sub_cons rfl (Fr.sub_cons rfl (Fr.sub_nil _)))))) ?_
      ·intro w hs
       exact hs.weaken (Lo.sub_cons rfl (Lo.sub_cons rfl (Lo.sub_nil _)))
   ·replace hr := hr.neg hc2
    refine WC.exit ?_
    refine WE.thenExit ?_
    refine WE.thenExit ?_
    refine WE.exitHere ?_
    refine WE.endH ⟨out2, out2p, out2c, out2tk, done2, Gm2⟩ ⟨Gm2le, out2h, out2ht, hr⟩ (Fr.sub_cons rfl (Fr.sub_cons rfl (Fr.sub_cons rfl (Fr.sub_nil _)))) ?_
    ·intro w hs
     exact hs.weaken (Lo.sub_cons rfl (Lo.sub_cons rfl (Lo.sub_nil _)))
 ·rintro ⟨out1, out1p, out1c, out1tk, done1, Gm1⟩ ⟨Gm1le, out1h, out1ht, hr⟩
  refine WE.then <| WC.seq <| sr <| mv rfl rfl <| yy (Y0.not rfl) rfl <| nx ?_
  refine WC.cond (b := !done1) rfl (fun hc1 => ?_) (fun hc1 => ?_)
  ·replace hr := hr.pos hc1
   refine WC.region <| mv rfl rfl <| yy (Y0.loadLA 3 ag48 rfl rfl (vecG_size _ _ _)) rfl ?_
   refine WL.litR (e := 48) (r := (Rp.vec .i64 8)) (vs := #[(0, .agg (vecG (Value.int .i64) 8 m1).toArray)]) (cs := (vecG (Value.int .i64) 8 m1) ++ ([])) ([m1] : List (Fin 8 → Int)) guard_none rfl rfl rfl rfl (by decide) (fun _ => by kernel_rfl) ⟨vecG (Value.int .i64) 8 m1, [], rfl, rfl, rfl⟩ (key := 999) rfl (by rw [hL0]; rfl) (fun p2 Gv2 Gv2le p2h => ?_)
   obtain ⟨hsm1, hr⟩ := hr
   refine WL.appendR (r := (Rp.vec .i64 8)) 1005 guard_none rfl Try.underlying28 el48 rfl (by decide) rfl rfl (out1h.mono Gv2le) rfl (by rw [hL0]; rfl) out1ht p2h hsm1 (fun p3 p3c p3tk Gv3 Gv3le p3h p3ht => ?_)
   refine sg rfl rfl <| nr <| mv rfl rfl <| sg rfl rfl <| nx ?_
   refine WC.ret ?_
   replace hr : _ = r := hr
   subst hr
   exact WE.ret1 rfl rfl ⟨_, _, rfl, p3h⟩
  ·replace hr := hr.neg (Bool.eq_false_iff.1 hc1)
   refine WC.skip <| WE.then <| sr <| mv rfl rfl <| sg rfl rfl <| nx ?_
   refine WC.ret ?_
   replace hr : _ = r := hr
   subst hr
   exact WE.ret1 rfl rfl ⟨_, _, rfl, out1h⟩
theorem L_R04_Minimal (l1 : (List (Fin 8 → Int))) (l1p : Option Addr) (l1c : Nat) (r : (List (Fin 8 → Int))) (hr : (R04_Minimal l1).Ret r) : Ctr Try.prog 30 #[.slice l1p l1.length l1c] (fun G => SlR (Rp.vec .i64 8) G (.slice l1p l1.length l1c) l1) (fun G v => ∃ zp zc, v = .slice zp r.length zc ∧ SlR (Rp.vec .i64 8) G (.slice zp r.length zc) r) := by
 refine Ctr.enter (args := [_]) (N := 25) Try.func30 rfl rfl rfl (fun w0 G0 hL0 hpre => ?_)
 have l1h := hpre
 refine sr <| sg rfl rfl <| nr ?_
 refine WL.litR (e := 48) (r := (Rp.vec .i64 8)) (vs := #[]) (cs := []) ([] : List (Fin 8 → Int)) guard_none rfl rfl rfl rfl (by decide) (fun _ => by kernel_rfl) (rfl) (key := 999) rfl (by rw [hL0]; rfl) (fun p1 Gv1 Gv1le p1h => ?_)
 refine sg rfl rfl <| nx <| WC.seq <| sr <| sg rfl rfl <| nx ?_
 refine WC.meetH (fun (gx : (List (Fin 8 → Int)) × Option Addr × Nat × Mem) => match gx with | ⟨out1, out1p, out1c, Gm1⟩ => [(3, .slice out1p out1.length out1c)]) (fun (gx : (List (Fin 8 → Int)) × Option Addr × Nat × Mem) => match gx with | ⟨out1, out1p, out1c, Gm1⟩ => Mem.le Gv1 Gm1 ∧ SlR (Rp.vec .i64 8) Gm1 (.slice out1p out1.length out1c) out1 ∧ (R04_Minimal_k1 out1).Ret r) (fun (gx : (List (Fin 8 → Int)) × Option Addr × Nat × Mem) => match gx with | ⟨out1, out1p, out1c, Gm1⟩ => St w0 G0 Gm1 []) ?_ ?_
 ·refine WC.block ?_
  let Phi1 : (((List (Fin 8 → Int)))) → Prop := fun oo => ((fun ov => match ov with | out1 => R04_Minimal_k1 out1 : (((List (Fin 8 → Int)))) → Comp ((List (Fin 8 → Int)))) oo).wp (fun a => a = r)
  replace hr : (Comp.loop _ _).wp Phi1 := hr
  refine WC.loopR (Φ := Phi1) (fun (gx : (List (Fin 8 → Int)) × Option Addr × Nat × Int × Mem) => match gx with | ⟨out2, out2p, out2c, i1, Gm2⟩ => ((out2, i1) : (List (Fin 8 → Int)) × Int)) (fun (gx : (List (Fin 8 → Int)) × Option Addr × Nat × Int × Mem) => match gx with | ⟨out2, out2p, out2c, i1, Gm2⟩ => [(0, .slice l1p l1.length l1c), (3, .slice out2p out2.length out2c), (4, .int .i64 i1)]) (fun (gx : (List (Fin 8 → Int)) × Option Addr × Nat × Int × Mem) => match gx with | ⟨out2, out2p, out2c, i1, Gm2⟩ => Mem.le Gv1 Gm2 ∧ SlR (Rp.vec .i64 8) Gm2 (.slice out2p out2.length out2c) out2) (fun (gx : (List (Fin 8 → Int)) × Option Addr × Nat × Int × Mem) => match gx with | ⟨out2, out2p, out2c, i1, Gm2⟩ => St w0 G0 Gm2 []) ⟨[], p1, 0, 0, Gv1⟩ hr (Fr.sub_cons rfl (Fr.sub_cons rfl (Fr.sub_cons rfl (Fr.sub_nil _)))) ⟨(Mem.le_refl _), p1h⟩ ?_ ?_
  ·intro w hs
   exact hs.weaken (Lo.sub_nil _)
  ·intro Aq1 gx hx hr
   obtain ⟨out2, out2p, out2c, i1, Gm2⟩ := gx
   obtain ⟨Gm2le, out2h⟩ := hx
   refine WC.seq <| sr <| mv rfl rfl <| mv rfl rfl <| yy (Y0.lenR Try.underlying28 (l1h.mono (Mem.le_trans Gv1le Gm2le)) rfl) rfl <| yy (Y0.lss rfl rfl) rfl ?_
   refine nx ?_
   refine WC.condD (p := i1 < (l1.length : Int)) rfl (fun hc1 => ?_) (fun hc1 => ?_)
   ·replace hr := hr.pos hc1
    refine WC.skip <| WE.then <| WC.seq <| WC.block <| sr <| mv rfl rfl ?_
    refine mv rfl rfl ?_
    obtain ⟨x1, hx1, hr⟩ := hr
    refine yy (Y0.idxR Try.underlying28 sz48 (l1h.mono (Mem.le_trans Gv1le Gm2le)) rfl rfl hx1) rfl <| yy (Y0.loadGA _ ag48 rfl (vecG_size _ _ _) (AtK.vec (At.mono (SlR.at l1h hx1) (Mem.le_trans Gv1le Gm2le)))) rfl ?_
    refine mv rfl rfl ?_
    obtain ⟨yv1, hyv1, hr⟩ := hr
    refine WL.call0 guard_none rfl (YC.of E56 rfl) (L_R04_lowest _ _ _ _ _ hyv1) rfl ((l1h.mono (Mem.le_trans Gv1le Gm2le))) ?_
    refine nx ?_
    refine WC.cond (b := yv1) rfl (fun hc2 => ?_) (fun hc2 => ?_)
    ·replace hr := hr.pos hc2
     refine WC.region <| mv rfl rfl <| mv rfl rfl <| mv rfl rfl ?_
     obtain ⟨x2, hx2, hr⟩ := hr
     refine yy (Y0.idxR Try.underlying28 sz48 (l1h.mono (Mem.le_trans Gv1le Gm2le)) rfl rfl hx2) rfl <| yy (Y0.loadGA _ ag48 rfl (vecG_size _ _ _) (AtK.vec (At.mono (SlR.at l1h hx2) (Mem.le_trans Gv1le Gm2le)))) rfl ?_
     obtain ⟨yv2, hyv2, hr⟩ := hr
     refine WL.call guard_none rfl (YC.of E57 rfl) (L_R04_insert _ _ _ _ _ hyv2) rfl (out2h) (fun yv2v Gv3 Gv3le yv2post => ?_)
     obtain ⟨yv2p, yv2c, rfl, yv2h⟩ := yv2post
     refine sg rfl rfl <| WL.nil ?_
     refine WE.inBlock ?_
     refine WE.then <| WC.region <| mv rfl rfl <| yy (Y0.add rfl rfl) rfl <| sg rfl rfl <| WL.nil ?_
     refine WE.backR ⟨yv2, yv2p, yv2c, IntKind.i64.wrap (i1 + 1), Gv3⟩ hr ⟨(Mem.le_trans Gm2le Gv3le), yv2h⟩ (Fr.sub_cons rfl (Fr.sub_cons rfl (Fr.sub_cons rfl (Fr.sub_nil _)))) ?_
     ·intro w hs
      exact hs.weaken (Lo.sub_nil _)
    ·replace hr := hr.neg (Bool.eq_false_iff.1 hc2)
     refine WC.skip ?_
     refine WE.inBlock ?_
     refine WE.then <| WC.region <| mv rfl rfl <| yy (Y0.add rfl rfl) rfl <| sg rfl rfl <| WL.nil ?_
     refine WE.backR ⟨out2, out2p, out2c, IntKind.i64.wrap (i1 + 1), Gm2⟩ hr ⟨Gm2le, out2h⟩ (Fr.sub_cons rfl (Fr.sub_cons rfl (Fr.sub_cons rfl (Fr.sub_nil _)))) ?_
     ·intro w hs
      exact hs.weaken (Lo.sub_nil _)
   ·replace hr := hr.neg hc1
    refine WC.exit ?_
    refine WE.thenExit ?_
    refine WE.thenExit ?_
    refine WE.exitHere ?_
    refine WE.endH ⟨out2, out2p, out2c, Gm2⟩ ⟨Gm2le, out2h, hr⟩ (Fr.sub_cons rfl (Fr.sub_nil _)) ?_
    ·intro w hs
     exact hs.weaken (Lo.sub_nil _)
 ·rintro ⟨out1, out1p, out1c, Gm1⟩ ⟨Gm1le, out1h, hr⟩
  refine WE.then <| sr <| mv rfl rfl <| sg rfl rfl <| nx ?_
  refine WC.ret ?_
  replace hr : _ = r := hr
  subst hr
  exact WE.ret1 rfl rfl ⟨_, _, rfl, out1h⟩
theorem L_R21_split (a1 : (Fin 8 → Int)) (m1 : (Fin 8 → Int)) (r : (List (Fin 8 → Int))) (hr : (R21_split a1 m1).Ret r) : Ctr Try.prog 45 #[.agg (vecG (Value.int .i64) 8 a1).toArray, .agg (vecG (Value.int .i64) 8 m1).toArray] (fun G => True) (fun G v => ∃ zp zc, v = .slice zp r.length zc ∧ SlR (Rp.vec .i64 8) G (.slice zp r.length zc) r) := by
 refine Ctr.enter (args := [_, _]) (N := 41) Try.func45 rfl rfl rfl (fun w0 G0 hL0 hpre => ?_)
 refine sr ?_
 refine WL.box 2 guard_none rfl rfl (fun b1 => ?_)
 refine WL.box 3 guard_none rfl rfl (fun b2 => ?_)
 refine sg rfl rfl <| nr ?_
 refine WL.litR (e := 48) (r := (Rp.vec .i64 8)) (vs := #[]) (cs := []) ([] : List (Fin 8 → Int)) guard_none rfl rfl rfl rfl (by decide) (fun _ => by kernel_rfl) (rfl) (key := 999) rfl (by rw [hL0]; rfl) (fun p1 Gv1 Gv1le p1h => ?_)
 refine sg rfl rfl <| nx <| WC.seq <| sr <| sg rfl rfl <| nx ?_
 refine WC.meetH (fun (gx : (List (Fin 8 → Int)) × Option Addr × Nat × Option Ow × Mem) => match gx with | ⟨out1, out1p, out1c, out1tk, Gm1⟩ => [(5, .slice out1p out1.length out1c)]) (fun (gx : (List (Fin 8 → Int)) × Option Addr × Nat × Option Ow × Mem) => match gx with | ⟨out1, out1p, out1c, out1tk, Gm1⟩ => Mem.le Gv1 Gm1 ∧ SlR (Rp.vec .i64 8) Gm1 (.slice out1p out1.length out1c) out1 ∧ Tok 8 48 (.slice out1p out1.length out1c) out1.length out1tk ∧ (R21_split_k1 out1).Ret r) (fun (gx : (List (Fin 8 → Int)) × Option Addr × Nat × Option Ow × Mem) => match gx with | ⟨out1, out1p, out1c, out1tk, Gm1⟩ => St w0 G0 Gm1 [(1005, out1tk)]) ?_ ?_
 ·refine WC.block ?_
  let Phi1 : (((List (Fin 8 → Int)))) → Prop := fun oo => ((fun ov => match ov with | out1 => R21_split_k1 out1 : (((List (Fin 8 → Int)))) → Comp ((List (Fin 8 → Int)))) oo).wp (fun a => a = r)
  replace hr : (Comp.loop _ _).wp Phi1 := hr
  refine WC.loopR (Φ := Phi1) (fun (gx : (List (Fin 8 → Int)) × Option Addr × Nat × Option Ow × Int × Mem) => match gx with | ⟨out2, out2p, out2c, out2tk, i1, Gm2⟩ => ((out2, i1) : (List (Fin 8 → Int)) × Int)) (fun (gx : (List (Fin 8 → Int)) × Option Addr × Nat × Option Ow × Int × Mem) => match gx with | ⟨out2, out2p, out2c, out2tk, i1, Gm2⟩ => [(2, .pointer (some ⟨b1, 0, none⟩)), (3, .pointer (some ⟨b2, 0, none⟩)), (5, .slice out2p out2.length out2c), (6, .int .i64 i1)]) (fun (gx : (List (Fin 8 → Int)) × Option Addr × Nat × Option Ow × Int × Mem) => match gx with | ⟨out2, out2p, out2c, out2tk, i1, Gm2⟩ => Mem.le Gv1 Gm2 ∧ SlR (Rp.vec .i64 8) Gm2 (.slice out2p out2.length out2c) out2 ∧ Tok 8 48 (.slice out2p out2.length out2c) out2.length out2tk) (fun (gx : (List (Fin 8 → Int)) × Option Addr × Nat × Option Ow × Int × Mem) => match gx with | ⟨out2, out2p, out2c, out2tk, i1, Gm2⟩ => St w0 G0 Gm2 [(2, some ⟨b1, .cells (vecG (Value.int .i64) 8 a1).toArray 48 (0, 0), 0⟩), (3, some ⟨b2, .cells (vecG (Value.int .i64) 8 m1).toArray 48 (0, 0), 0⟩), (1005, out2tk)]) ⟨[], p1, 0, none, 0, Gv1⟩ hr (Fr.sub_cons rfl (Fr.sub_cons rfl (Fr.sub_cons rfl (Fr.sub_cons rfl (Fr.sub_nil _))))) ⟨(Mem.le_refl _), p1h, Tok.full⟩ ?_ ?_
  ·intro w hs
   exact hs.weaken (Lo.sub_cons rfl (Lo.sub_cons rfl (Lo.sub_no (Lo.sub_nil _))))
  ·intro Aq1 gx hx hr
   obtain ⟨out2, out2p, out2c, out2tk, i1, Gm2⟩ := gx
   obtain ⟨Gm2le, out2h, out2ht⟩ := hx
   refine WC.seq <| sr <| mv rfl rfl <| yy (Y0.lss rfl rfl) rfl <| nx ?_
   refine WC.condD (p := i1 < 8) rfl (fun hc1 => ?_) (fun hc1 => ?_)
   ·replace hr := hr.pos hc1
    refine WC.skip <| WE.then <| WC.seq <| WC.block <| sr <| mv rfl rfl ?_
    obtain ⟨hi1, hr⟩ := hr
    refine yy (Y0.idxA0 Try.underlying48 sz3 rfl rfl hi1) rfl <| yy (Y0.loadL 3 sc3 rfl rfl (vecG_at _ _ _ hi1)) rfl <| yy (Y0.gtr rfl rfl) rfl <| nx ?_
    refine WC.condD (p := 0 < (getF m1 i1)) rfl (fun hc2 => ?_) (fun hc2 => ?_)
    ·replace hr := hr.pos hc2
     refine sr <| yy (Y0.loadLA 2 ag48 rfl rfl (vecG_size _ _ _)) rfl ?_
     refine WL.alloc 7 guard_none z48 rfl (fun b3 => ?_)
     refine WL.storeLA 7 guard_none sz48 rfl rfl rfl (vecG_size _ _ _) (vecG_size _ _ _) (fun u hu => Rp.one (Rp.vec .i64 8) (G := Gm2) (x := a1) (cs := vecG (Value.int .i64) 8 a1) rfl u (by simpa using hu)) ?_
     refine nx <| WC.seq <| WC.seq ?_
     refine WC.drawn [false, false, false, false, false, false, false, false, false, false, false, false, false] mix (by kernel_rfl) (fun hb => ?_)
     refine Chain.y0 guard_none (fun _ hle => Y0.move rfl) ?_
     obtain ⟨hi2, hr⟩ := hr
     refine Chain.y0 guard_none (fun _ hle => Y0.idxA0 Try.underlying48 sz3 rfl rfl hi2) ?_
     refine Chain.y0 guard_none (fun _ hle => Y0.loadL 2 sc3 rfl rfl (vecG_at _ _ _ hi2)) ?_
     refine Chain.caseY0 (p := (getF a1 i1) = 0) guard_none (fun _ hle => Y0.eql rfl rfl) (fun hb1 => ?_) (fun hb1 => ?_)
     ·replace hr := hr.pos hb1
      refine Chain.y0 guard_none (fun _ hle => Y0.move rfl) ?_
      refine Chain.skip (guard_noF rfl rfl) ?_
      refine Chain.skip (guard_noF rfl rfl) ?_
      refine Chain.skip (guard_noF rfl rfl) ?_
      refine Chain.skip (guard_noF rfl rfl) ?_
      refine Chain.skip (guard_noF rfl rfl) ?_
      refine Chain.skip (guard_noF rfl rfl) ?_
      refine Chain.skip (guard_noF rfl rfl) ?_
      refine Chain.y0 guard_none (fun _ hle => Y0.pickT rfl rfl) ?_
      refine Chain.tail0 hb ?_
      refine WL.nil ?_
      refine WE.nx ?_
      refine WE.then ?_
      refine WC.condT rfl ?_
      refine WC.region <| mv rfl rfl <| mv rfl rfl ?_
      obtain ⟨hi3, hr⟩ := hr
      refine yy (Y0.idxA0 Try.underlying48 sz3 rfl rfl hi3) rfl <| yy (Y0.loadL 3 sc3 rfl rfl (vecG_at _ _ _ hi3)) rfl ?_
      obtain ⟨hi4, hr⟩ := hr
      refine yy (Y0.idxA0 Try.underlying48 sz3 rfl rfl hi4) rfl ?_
      refine WL.storeL 7 (vecG (Value.int .i64) 8 (setF a1 i1.toNat (getF m1 i1))).toArray guard_none sz3 rfl rfl rfl (by first | (rw [vecG_size]; omega) | (show _ < (vecG _ _ _).toArray.size; rw [vecG_size]; omega)) rfl (vecG_put _ _ _ _ _) ?_
      refine nx <| WC.region <| mv rfl rfl <| yy (Y0.loadLA 7 ag48 rfl rfl (vecG_size _ _ _)) rfl ?_
      refine WL.litR (e := 48) (r := (Rp.vec .i64 8)) (vs := #[(0, .agg (vecG (Value.int .i64) 8 (setF a1 i1.toNat (getF m1 i1))).toArray)]) (cs := (vecG (Value.int .i64) 8 (setF a1 i1.toNat (getF m1 i1))) ++ ([])) ([setF a1 i1.toNat (getF m1 i1)] : List (Fin 8 → Int)) guard_none rfl rfl rfl rfl (by decide) (fun _ => by kernel_rfl) ⟨vecG (Value.int .i64) 8 (setF a1 i1.toNat (getF m1 i1)), [], rfl, rfl, rfl⟩ (key := 999) rfl (by rw [hL0]; rfl) (fun p2 Gv2 Gv2le p2h => ?_)
      obtain ⟨hsm1, hr⟩ := hr
      refine WL.appendR (r := (Rp.vec .i64 8)) 1005 guard_none rfl Try.underlying28 el48 rfl (by decide) rfl rfl (out2h.mono Gv2le) rfl (by rw [hL0]; rfl) out2ht p2h hsm1 (fun p3 p3c p3tk Gv3 Gv3le p3h p3ht => ?_)
      refine sg rfl rfl <| WL.nil ?_
      refine WE.inBlock ?_
      refine WE.then <| WC.region <| mv rfl rfl <| yy (Y0.add rfl rfl) rfl <| sg rfl rfl <| WL.nil ?_
      refine WE.backR ⟨(out2 ++ [setF a1 i1.toNat (getF m1 i1)]), p3, p3c, p3tk, IntKind.i64.wrap (i1 + 1), Gv3⟩ hr ⟨(Mem.le_trans (Mem.le_trans Gm2le Gv2le) Gv3le), p3h, p3ht⟩ (Fr.sub_cons rfl (Fr.sub_cons rfl (Fr.sub_cons rfl (Fr.sub_cons rfl (Fr.sub_nil _))))) ?_
      ·intro w hs
       exact hs.weaken (Lo.sub_cons rfl (Lo.sub_cons rfl (Lo.sub_cons rfl (Lo.sub_nil _))))
     ·replace hr := hr.neg hb1
      refine Chain.y0 guard_none (fun _ hle => Y0.move rfl) ?_
      refine Chain.y0 (guard_yes rfl rfl) (fun _ hle => Y0.move rfl) ?_
      obtain ⟨hi5, hr⟩ := hr
      refine Chain.y0 (guard_yes rfl rfl) (fun _ hle => Y0.idxA0 Try.underlying48 sz3 rfl rfl hi5) ?_
      refine Chain.y0 (guard_yes rfl rfl) (fun _ hle => Y0.loadL 2 sc3 rfl rfl (vecG_at _ _ _ hi5)) ?_
      refine Chain.y0 (guard_yes rfl rfl) (fun _ hle => Y0.move rfl) ?_
      obtain ⟨hi6, hr⟩ := hr
      refine Chain.y0 (guard_yes rfl rfl) (fun _ hle => Y0.idxA0 Try.underlying48 sz3 rfl rfl hi6) ?_
      refine Chain.y0 (guard_yes rfl rfl) (fun _ hle => Y0.loadL 3 sc3 rfl rfl (vecG_at _ _ _ hi6)) ?_
      refine Chain.y0 (guard_yes rfl rfl) (fun _ hle => Y0.gtr rfl rfl) ?_
      refine Chain.y0 guard_none (fun _ hle => Y0.pickF rfl rfl) ?_
      refine Chain.tail0 hb ?_
      refine WL.nil ?_
      refine WE.nx ?_
      refine WE.then ?_
      refine WC.condD (p := (getF m1 i1) < (getF a1 i1)) rfl (fun hc3 => ?_) (fun hc3 => ?_)
      ·replace hr := hr.pos hc3
       refine WC.region <| mv rfl rfl <| mv rfl rfl ?_
       obtain ⟨hi7, hr⟩ := hr
       refine yy (Y0.idxA0 Try.underlying48 sz3 rfl rfl hi7) rfl <| yy (Y0.loadL 3 sc3 rfl rfl (vecG_at _ _ _ hi7)) rfl ?_
       obtain ⟨hi8, hr⟩ := hr
       refine yy (Y0.idxA0 Try.underlying48 sz3 rfl rfl hi8) rfl ?_
       refine WL.storeL 7 (vecG (Value.int .i64) 8 (setF a1 i1.toNat (getF m1 i1))).toArray guard_none sz3 rfl rfl rfl (by first | (rw [vecG_size]; omega) | (show _ < (vecG _ _ _).toArray.size; rw [vecG_size]; omega)) rfl (vecG_put _ _ _ _ _) ?_
       refine nx <| WC.region <| mv rfl rfl <| yy (Y0.loadLA 7 ag48 rfl rfl (vecG_size _ _ _)) rfl ?_
       refine WL.litR (e := 48) (r := (Rp.vec .i64 8)) (vs := #[(0, .agg (vecG (Value.int .i64) 8 (setF a1 i1.toNat (getF m1 i1))).toArray)]) (cs := (vecG (Value.int .i64) 8 (setF a1 i1.toNat (getF m1 i1))) ++ ([])) ([setF a1 i1.toNat (getF m1 i1)] : List (Fin 8 → Int)) guard_none rfl rfl rfl rfl (by decide) (fun _ => by kernel_rfl) ⟨vecG (Value.int .i64) 8 (setF a1 i1.toNat (getF m1 i1)), [], rfl, rfl, rfl⟩ (key := 999) rfl (by rw [hL0]; rfl) (fun p4 Gv4 Gv4le p4h => ?_)
       obtain ⟨hsm2, hr⟩ := hr
       refine WL.appendR (r := (Rp.vec .i64 8)) 1005 guard_none rfl Try.underlying28 el48 rfl (by decide) rfl rfl (out2h.mono Gv4le) rfl (by rw [hL0]; rfl) out2ht p4h hsm2 (fun p5 p5c p5tk Gv5 Gv5le p5h p5ht => ?_)
       refine sg rfl rfl <| WL.nil ?_
       refine WE.inBlock ?_
       refine WE.then <| WC.region <| mv rfl rfl <| yy (Y0.add rfl rfl) rfl <| sg rfl rfl <| WL.nil ?_
       refine WE.backR ⟨(out2 ++ [setF a1 i1.toNat (getF m1 i1)]), p5, p5c, p5tk, IntKind.i64.wrap (i1 + 1), Gv5⟩ hr ⟨(Mem.le_trans (Mem.le_trans Gm2le Gv4le) Gv5le), p5h, p5ht⟩ (Fr.sub_cons rfl (Fr.sub_cons rfl (Fr.sub_cons rfl (Fr.sub_cons rfl (Fr.sub_nil _))))) ?_
       ·intro w hs
        exact hs.weaken (Lo.sub_cons rfl (Lo.sub_cons rfl (Lo.sub_cons rfl (Lo.sub_nil _))))
      ·replace hr := hr.neg hc3
       refine WC.skip <| WE.then <| WC.region <| mv rfl rfl <| yy (Y0.loadLA 7 ag48 rfl rfl (vecG_size _ _ _)) rfl ?_
       refine WL.litR (e := 48) (r := (Rp.vec .i64 8)) (vs := #[(0, .agg (vecG (Value.int .i64) 8 a1).toArray)]) (cs := (vecG (Value.int .i64) 8 a1) ++ ([])) ([a1] : List (Fin 8 → Int)) guard_none rfl rfl rfl rfl (by decide) (fun _ => by kernel_rfl) ⟨vecG (Value.int .i64) 8 a1, [], rfl, rfl, rfl⟩ (key := 999) rfl (by rw [hL0]; rfl) (fun p6 Gv6 Gv6le p6h => ?_)
       obtain ⟨hsm3, hr⟩ := hr
       refine WL.appendR (r := (Rp.vec .i64 8)) 1005 guard_none rfl Try.underlying28 el48 rfl (by decide) rfl rfl (out2h.mono Gv6le) rfl (by rw [hL0]; rfl) out2ht p6h hsm3 (fun p7 p7c p7tk Gv7 Gv7le p7h p7ht => ?_)
       refine sg rfl rfl <| WL.nil ?_
       refine WE.inBlock ?_
       refine WE.then <| WC.region <| mv rfl rfl <| yy (Y0.add rfl rfl) rfl <| sg rfl rfl <| WL.nil ?_
       refine WE.backR ⟨(out2 ++ [a1]), p7, p7c, p7tk, IntKind.i64.wrap (i1 + 1), Gv7⟩ hr ⟨(Mem.le_trans (Mem.le_trans Gm2le Gv6le) Gv7le), p7h, p7ht⟩ (Fr.sub_cons rfl (Fr.sub_cons rfl (Fr.sub_cons rfl (Fr.sub_cons rfl (Fr.sub_nil _))))) ?_
       ·intro w hs
        exact hs.weaken (Lo.sub_cons rfl (Lo.sub_cons rfl (Lo.sub_cons rfl (Lo.sub_nil _))))
    ·replace hr := hr.neg hc2
     refine WC.skip ?_
     refine WE.inBlock ?_
     refine WE.then <| WC.region <| mv rfl rfl <| yy (Y0.add rfl rfl) rfl <| sg rfl rfl <| WL.nil ?_
     refine WE.backR ⟨out2, out2p, out2c, out2tk, IntKind.i64.wrap (i1 + 1), Gm2⟩ hr ⟨Gm2le, out2h, out2ht⟩ (Fr.sub_cons rfl (Fr.sub_cons rfl (Fr.sub_cons rfl (Fr.sub_cons rfl (Fr.sub_nil _))))) ?_
     ·intro w hs
      exact hs.weaken (Lo.sub_cons rfl (Lo.sub_cons rfl (Lo.sub_cons rfl (Lo.sub_nil _))))
   ·replace hr := hr.neg hc1
    refine WC.exit ?_
    refine WE.thenExit ?_
    refine WE.thenExit ?_
    refine WE.exitHere ?_
    refine WE.endH ⟨out2, out2p, out2c, out2tk, Gm2⟩ ⟨Gm2le, out2h, out2ht, hr⟩ (Fr.sub_cons rfl (Fr.sub_nil _)) ?_
    ·intro w hs
     exact hs.weaken (Lo.sub_cons rfl (Lo.sub_nil _))
 ·rintro ⟨out1, out1p, out1c, out1tk, Gm1⟩ ⟨Gm1le, out1h, out1ht, hr⟩
  refine WE.then <| sr <| mv rfl rfl <| sg rfl rfl <| nx ?_
  refine WC.ret ?_
  replace hr : _ = r := hr
  subst hr
  exact WE.ret1 rfl rfl ⟨_, _, rfl, out1h⟩
theorem L_R21_Inside (a1 : (Fin 8 → Int)) (b1 : (Fin 8 → Int)) (r : Bool) (hr : (R21_Inside a1 b1).Ret r) : Ctr Try.prog 73 #[.agg (vecG (Value.int .i64) 8 a1).toArray, .agg (vecG (Value.int .i64) 8 b1).toArray] (fun G => True) (fun G v => v = .bool r) := by
 refine Ctr.enter (args := [_, _]) (N := 29) Try.func73 rfl rfl rfl (fun w0 G0 hL0 hpre => ?_)
 refine sr ?_
 refine WL.box 2 guard_none rfl rfl (fun b2 => ?_)
 refine WL.box 3 guard_none rfl rfl (fun b3 => ?_)
 refine sg rfl rfl <| nx <| WC.seq <| sr <| sg rfl rfl <| nx ?_
 refine WC.meetH (fun (gx : Mem) => match gx with | Gm1 => []) (fun (gx : Mem) => match gx with | Gm1 => Mem.le G0 Gm1 ∧ (R21_Inside_k1).Ret r) (fun (gx : Mem) => match gx with | Gm1 => St w0 G0 Gm1 []) ?_ ?_
 ·refine WC.block ?_
  let Phi1 : (Bool ⊕ Unit) → Prop := fun oo => ((fun ov => match ov with | .inl rv1 => Comp.ret rv1 | .inr () => R21_Inside_k1 : (Bool ⊕ Unit) → Comp Bool) oo).wp (fun a => a = r)
  replace hr : (Comp.loop _ _).wp Phi1 := hr
  refine WC.loopR (Φ := Phi1) (fun (gx : Int × Mem) => match gx with | ⟨i1, Gm2⟩ => (i1 : Int)) (fun (gx : Int × Mem) => match gx with | ⟨i1, Gm2⟩ => [(2, .pointer (some ⟨b2, 0, none⟩)), (3, .pointer (some ⟨b3, 0, none⟩)), (5, .int .i64 i1)]) (fun (gx : Int × Mem) => match gx with | ⟨i1, Gm2⟩ => Mem.le G0 Gm2) (fun (gx : Int × Mem) => match gx with | ⟨i1, Gm2⟩ => St w0 G0 Gm2 [(2, some ⟨b2, .cells (vecG (Value.int .i64) 8 a1).toArray 48 (0, 0), 0⟩), (3, some ⟨b3, .cells (vecG (Value.int .i64) 8 b1).toArray 48 (0, 0), 0⟩)]) ⟨0, G0⟩ hr (Fr.sub_cons rfl (Fr.sub_cons rfl (Fr.sub_cons rfl (Fr.sub_nil _)))) (Mem.le_refl _) ?_ ?_
  ·intro w hs
   exact hs.weaken (Lo.sub_cons rfl (Lo.sub_cons rfl (Lo.sub_nil _)))
  ·intro Aq1 gx hx hr
   obtain ⟨i1, Gm2⟩ := gx
   have Gm2le := hx
   refine WC.seq <| sr <| mv rfl rfl <| yy (Y0.lss rfl rfl) rfl <| nx ?_
   refine WC.condD (p := i1 < 8) rfl (fun hc1 => ?_) (fun hc1 => ?_)
   ·replace hr := hr.pos hc1
    refine WC.skip <| WE.then <| WC.seq <| WC.block <| WC.seq ?_
    refine WC.drawn [false, false, false, false, false, false, false, false, false, false, false, false, false, false, false, false, false, false, false] mix (by kernel_rfl) (fun hb => ?_)
    refine Chain.y0 guard_none (fun _ hle => Y0.move rfl) ?_
    obtain ⟨hi1, hr⟩ := hr
    refine Chain.y0 guard_none (fun _ hle => Y0.idxA0 Try.underlying48 sz3 rfl rfl hi1) ?_
    refine Chain.y0 guard_none (fun _ hle => Y0.loadL 2 sc3 rfl rfl (vecG_at _ _ _ hi1)) ?_
    refine Chain.caseY0 (p := 0 < (getF a1 i1)) guard_none (fun _ hle => Y0.gtr rfl rfl) (fun hb1 => ?_) (fun hb1 => ?_)
    ·replace hr := hr.pos hb1
     refine Chain.y0 guard_none (fun _ hle => Y0.move rfl) ?_
     refine Chain.y0 (guard_yes rfl rfl) (fun _ hle => Y0.move rfl) ?_
     obtain ⟨hi2, hr⟩ := hr
     refine Chain.y0 (guard_yes rfl rfl) (fun _ hle => Y0.idxA0 Try.underlying48 sz3 rfl rfl hi2) ?_
     refine Chain.y0 (guard_yes rfl rfl) (fun _ hle => Y0.loadL 3 sc3 rfl rfl (vecG_at _ _ _ hi2)) ?_
     refine Chain.caseY0 (p := (getF b1 i1) = 0) (guard_yes rfl rfl) (fun _ hle => Y0.eql rfl rfl) (fun hb2 => ?_) (fun hb2 => ?_)
     ·replace hr := hr.pos hb2
      refine Chain.y0 (guard_yes rfl rfl) (fun _ hle => Y0.move rfl) ?_
      refine Chain.skip (guard_noF rfl rfl) ?_
      refine Chain.skip (guard_noF rfl rfl) ?_
      refine Chain.skip (guard_noF rfl rfl) ?_
      refine Chain.skip (guard_noF rfl rfl) ?_
      refine Chain.skip (guard_noF rfl rfl) ?_
      refine Chain.skip (guard_noF rfl rfl) ?_
      refine Chain.skip (guard_noF rfl rfl) ?_
      refine Chain.y0 (guard_yes rfl rfl) (fun _ hle => Y0.pickT rfl rfl) ?_
      refine Chain.y0 guard_none (fun _ hle => Y0.pickT rfl rfl) ?_
      refine Chain.tail0 hb ?_
      refine WL.nil ?_
      refine WE.nx ?_
      refine WE.then ?_
      refine WC.condT rfl ?_
      refine sr <| sg rfl rfl <| nx ?_
      refine WC.ret ?_
      replace hr : _ = r := hr
      refine WE.inBlockRet ?_
      refine WE.thenRet ?_
      refine WE.thenRet ?_
      refine WE.inBlockRet ?_
      refine WE.endRet ?_
      refine WE.thenRet ?_
      subst hr
      exact WE.ret1 rfl rfl rfl
     ·replace hr := hr.neg hb2
      refine Chain.y0 (guard_yes rfl rfl) (fun _ hle => Y0.move rfl) ?_
      refine Chain.y0 (guard_yes rfl rfl) (fun _ hle => Y0.move rfl) ?_
      obtain ⟨hi3, hr⟩ := hr
      refine Chain.y0 (guard_yes rfl rfl) (fun _ hle => Y0.idxA0 Try.underlying48 sz3 rfl rfl hi3) ?_
      refine Chain.y0 (guard_yes rfl rfl) (fun _ hle => Y0.loadL 3 sc3 rfl rfl (vecG_at _ _ _ hi3)) ?_
      refine Chain.y0 (guard_yes rfl rfl) (fun _ hle => Y0.move rfl) ?_
      obtain ⟨hi4, hr⟩ := hr
      refine Chain.y0 (guard_yes rfl rfl) (fun _ hle => Y0.idxA0 Try.underlying48 sz3 rfl rfl hi4) ?_
      refine Chain.y0 (guard_yes rfl rfl) (fun _ hle => Y0.loadL 2 sc3 rfl rfl (vecG_at _ _ _ hi4)) ?_
      refine Chain.y0 (guard_yes rfl rfl) (fun _ hle => Y0.gtr rfl rfl) ?_
      refine Chain.y0 (guard_yes rfl rfl) (fun _ hle => Y0.pickF rfl rfl) ?_
      refine Chain.y0 guard_none (fun _ hle => Y0.pickT rfl rfl) ?_
      refine Chain.tail0 hb ?_
      refine WL.nil ?_
      refine WE.nx ?_
      refine WE.then ?_
      refine WC.condD (p := (getF a1 i1) < (getF b1 i1)) rfl (fun hc2 => ?_) (fun hc2 => ?_)
      ·replace hr := hr.pos hc2
       refine sr <| sg rfl rfl <| nx ?_
       refine WC.ret ?_
       replace hr : _ = r := hr
       refine WE.inBlockRet ?_
       refine WE.thenRet ?_
       refine WE.thenRet ?_
       refine WE.inBlockRet ?_
       refine WE.endRet ?_
       refine WE.thenRet ?_
       subst hr
       exact WE.ret1 rfl rfl rfl
      ·replace hr := hr.neg hc2
       refine WC.skip ?_
       refine WE.inBlock ?_
       refine WE.then <| WC.region <| mv rfl rfl <| yy (Y0.add rfl rfl) rfl <| sg rfl rfl <| WL.nil ?_
       refine WE.backR ⟨IntKind.i64.wrap (i1 + 1), Gm2⟩ hr Gm2le (Fr.sub_cons rfl (Fr.sub_cons rfl (Fr.sub_cons rfl (Fr.sub_nil _)))) ?_
       ·intro w hs
        exact hs.weaken (Lo.sub_cons rfl (Lo.sub_cons rfl (Lo.sub_nil _)))
    ·replace hr := hr.neg hb1
     refine Chain.y0 guard_none (fun _ hle => Y0.move rfl) ?_
     refine Chain.skip (guard_noT rfl rfl) ?_
     refine Chain.skip (guard_noT rfl rfl) ?_
     refine Chain.skip (guard_noT rfl rfl) ?_
     refine Chain.skip (guard_noT rfl rfl) ?_
     refine Chain.skip (guard_noT rfl rfl) ?_
     refine Chain.skip (guard_undef rfl rfl) ?_
     refine Chain.skip (guard_undef rfl rfl) ?_
     refine Chain.skip (guard_undef rfl rfl) ?_
     refine Chain.skip (guard_undef rfl rfl) ?_
     refine Chain.skip (guard_undef rfl rfl) ?_
     refine Chain.skip (guard_undef rfl rfl) ?_
     refine Chain.skip (guard_undef rfl rfl) ?_
     refine Chain.skip (guard_noT rfl rfl) ?_
     refine Chain.y0 guard_none (fun _ hle => Y0.pickF rfl rfl) ?_
     refine Chain.tail0 hb ?_
     refine WL.nil ?_
     refine WE.nx ?_
     refine WE.then ?_
     refine WC.condF rfl ?_
     refine WC.skip ?_
     refine WE.inBlock ?_
     refine WE.then <| WC.region <| mv rfl rfl <| yy (Y0.add rfl rfl) rfl <| sg rfl rfl <| WL.nil ?_
     refine WE.backR ⟨IntKind.i64.wrap (i1 + 1), Gm2⟩ hr Gm2le (Fr.sub_cons rfl (Fr.sub_cons rfl (Fr.sub_cons rfl (Fr.sub_nil _)))) ?_
     ·intro w hs
      exact hs.weaken (Lo.sub_cons rfl (Lo.sub_cons rfl (Lo.sub_nil _)))
   ·replace hr := hr.neg hc1
    refine WC.exit ?_
    refine WE.thenExit ?_
    refine WE.thenExit ?_
    refine WE.exitHere ?_
    refine WE.endH Gm2 ⟨Gm2le, hr⟩ (Fr.sub_nil _) ?_
    ·intro w hs
     exact hs.weaken (Lo.sub_nil _)
 ·rintro Gm1 ⟨Gm1le, hr⟩
  refine WE.then <| sr <| sg rfl rfl <| nx ?_
  refine WC.ret ?_
  replace hr : _ = r := hr
  subst hr
  exact WE.ret1 rfl rfl rfl
theorem L_R21_least (l1 : (List (Fin 8 → Int))) (l1p : Option Addr) (l1c : Nat) (r : (List (Fin 8 → Int))) (hr : (R21_least l1).Ret r) : Ctr Try.prog 46 #[.slice l1p l1.length l1c] (fun G => SlR (Rp.vec .i64 8) G (.slice l1p l1.length l1c) l1) (fun G v => ∃ zp zc, v = .slice zp r.length zc ∧ SlR (Rp.vec .i64 8) G (.slice zp r.length zc) r) := by
 refine Ctr.enter (args := [_]) (N := 54) Try.func46 rfl rfl rfl (fun w0 G0 hL0 hpre => ?_)
 have l1h := hpre
 refine sr <| sg rfl rfl <| nr ?_
 refine WL.litR (e := 48) (r := (Rp.vec .i64 8)) (vs := #[]) (cs := []) ([] : List (Fin 8 → Int)) guard_none rfl rfl rfl rfl (by decide) (fun _ => by kernel_rfl) (rfl) (key := 999) rfl (by rw [hL0]; rfl) (fun p1 Gv1 Gv1le p1h => ?_)
 refine sg rfl rfl <| nx <| WC.seq <| sr <| sg rfl rfl <| nx ?_
 refine WC.meetH (fun (gx : (List (Fin 8 → Int)) × Option Addr × Nat × Option Ow × Mem) => match gx with | ⟨out1, out1p, out1c, out1tk, Gm1⟩ => [(3, .slice out1p out1.length out1c)]) (fun (gx : (List (Fin 8 → Int)) × Option Addr × Nat × Option Ow × Mem) => match gx with | ⟨out1, out1p, out1c, out1tk, Gm1⟩ => Mem.le Gv1 Gm1 ∧ SlR (Rp.vec .i64 8) Gm1 (.slice out1p out1.length out1c) out1 ∧ Tok 8 48 (.slice out1p out1.length out1c) out1.length out1tk ∧ (R21_least_k1 out1).Ret r) (fun (gx : (List (Fin 8 → Int)) × Option Addr × Nat × Option Ow × Mem) => match gx with | ⟨out1, out1p, out1c, out1tk, Gm1⟩ => St w0 G0 Gm1 [(1003, out1tk)]) ?_ ?_
 ·refine WC.block ?_
  let Phi1 : (((List (Fin 8 → Int)))) → Prop := fun oo => ((fun ov => match ov with | out1 => R21_least_k1 out1 : (((List (Fin 8 → Int)))) → Comp ((List (Fin 8 → Int)))) oo).wp (fun a => a = r)
  replace hr : (Comp.loop _ _).wp Phi1 := hr
  refine WC.loopR (Φ := Phi1) (fun (gx : (List (Fin 8 → Int)) × Option Addr × Nat × Option Ow × Int × Mem) => match gx with | ⟨out2, out2p, out2c, out2tk, i1, Gm2⟩ => ((out2, i1) : (List (Fin 8 → Int)) × Int)) (fun (gx : (List (Fin 8 → Int)) × Option Addr × Nat × Option Ow × Int × Mem) => match gx with | ⟨out2, out2p, out2c, out2tk, i1, Gm2⟩ => [(0, .slice l1p l1.length l1c), (3, .slice out2p out2.length out2c), (4, .int .i64 i1)]) (fun (gx : (List (Fin 8 → Int)) × Option Addr × Nat × Option Ow × Int × Mem) => match gx with | ⟨out2, out2p, out2c, out2tk, i1, Gm2⟩ => Mem.le Gv1 Gm2 ∧ SlR (Rp.vec .i64 8) Gm2 (.slice out2p out2.length out2c) out2 ∧ Tok 8 48 (.slice out2p out2.length out2c) out2.length out2tk) (fun (gx : (List (Fin 8 → Int)) × Option Addr × Nat × Option Ow × Int × Mem) => match gx with | ⟨out2, out2p, out2c, out2tk, i1, Gm2⟩ => St w0 G0 Gm2 [(1003, out2tk)]) ⟨[], p1, 0, none, 0, Gv1⟩ hr (Fr.sub_cons rfl (Fr.sub_cons rfl (Fr.sub_cons rfl (Fr.sub_nil _)))) ⟨(Mem.le_refl _), p1h, Tok.full⟩ ?_ ?_
  ·intro w hs
   exact hs.weaken (Lo.sub_no (Lo.sub_nil _))
  ·intro Aq1 gx hx hr
   obtain ⟨out2, out2p, out2c, out2tk, i1, Gm2⟩ := gx
   obtain ⟨Gm2le, out2h, out2ht⟩ := hx
   refine WC.seq <| sr <| mv rfl rfl <| mv rfl rfl <| yy (Y0.lenR Try.underlying28 (l1h.mono (Mem.le_trans Gv1le Gm2le)) rfl) rfl <| yy (Y0.lss rfl rfl) rfl ?_
   refine nx ?_
   refine WC.condD (p := i1 < (l1.length : Int)) rfl (fun hc1 => ?_) (fun hc1 => ?_)
   ·replace hr := hr.pos hc1
    refine WC.skip <| WE.then <| WC.seq <| WC.block <| sr <| sg rfl rfl ?_
    refine nx <| WC.seq <| sr <| sg rfl rfl <| nx ?_
    refine WC.meetH (fun (gx : Bool × Mem) => match gx with | ⟨keep1, Gm3⟩ => [(0, .slice l1p l1.length l1c), (3, .slice out2p out2.length out2c), (4, .int .i64 i1), (5, .bool keep1)]) (fun (gx : Bool × Mem) => match gx with | ⟨keep1, Gm3⟩ => Mem.le Gm2 Gm3 ∧ (R21_least_k3 l1 out2 i1 keep1).wp (Out Aq1 Phi1)) (fun (gx : Bool × Mem) => match gx with | ⟨keep1, Gm3⟩ => St w0 G0 Gm3 [(1003, out2tk)]) ?_ ?_
    ·refine WC.block ?_
     let Phi2 : Bool → Prop := fun oo => ((fun ov => match ov with | keep1 => R21_least_k3 l1 out2 i1 keep1 : Bool → Comp (((List (Fin 8 → Int)) × Int) ⊕ (((List (Fin 8 → Int)))))) oo).wp (Out Aq1 Phi1)
     replace hr : (Comp.loop _ _).wp Phi2 := hr
     refine WC.loopR (Φ := Phi2) (fun (gx : Bool × Int × Mem) => match gx with | ⟨keep2, k1, Gm4⟩ => ((keep2, k1) : Bool × Int)) (fun (gx : Bool × Int × Mem) => match gx with | ⟨keep2, k1, Gm4⟩ => [(0, .slice l1p l1.length l1c), (3, .slice out2p out2.length out2c), (4, .int .i64 i1), (5, .bool keep2), (6, .int .i64 k1)]) (fun (gx : Bool × Int × Mem) => match gx with | ⟨keep2, k1, Gm4⟩ => Mem.le Gm2 Gm4) (fun (gx : Bool × Int × Mem) => match gx with | ⟨keep2, k1, Gm4⟩ => St w0 G0 Gm4 [(1003, out2tk)]) ⟨true, 0, Gm2⟩ hr (Fr.sub_cons rfl (Fr.sub_cons rfl (Fr.sub_cons rfl (Fr.sub_cons rfl (Fr.sub_cons rfl (Fr.sub_nil _)))))) (Mem.le_refl _) ?_ ?_
     ·intro w hs
      exact hs.weaken (Lo.sub_cons rfl (Lo.sub_nil _))
     ·intro Aq2 gx hx hr
      obtain ⟨keep2, k1, Gm4⟩ := gx
      have Gm4le := hx
      refine WC.seq <| sr <| mv rfl rfl <| mv rfl rfl <| yy (Y0.lenR Try.underlying28 (l1h.mono (Mem.le_trans (Mem.le_trans Gv1le Gm2le) Gm4le)) rfl) rfl <| yy (Y0.lss rfl rfl) rfl ?_
      refine nx ?_
      refine WC.condD (p := k1 < (l1.length : Int)) rfl (fun hc3 => ?_) (fun hc3 => ?_)
      ·replace hr := hr.pos hc3
       refine WC.skip <| WE.then <| WC.seq <| WC.block <| WC.seq ?_
       refine WC.drawn [false, false, false, false, false, false, false, false, false, false, false, false, false, false, false, false, false, false, false, false, false, false, false, false, false] mix (by kernel_rfl) (fun hb => ?_)
       refine Chain.y0 guard_none (fun _ hle => Y0.move rfl) ?_
       refine Chain.y0 guard_none (fun _ hle => Y0.move rfl) ?_
       obtain ⟨x2, hx2, hr⟩ := hr
       refine Chain.y0 guard_none (fun _ hle => Y0.idxR Try.underlying28 sz48 ((l1h.mono (Mem.le_trans (Mem.le_trans Gv1le Gm2le) Gm4le)).mono hle) rfl rfl hx2) ?_
       refine Chain.y0 guard_none (fun _ hle => Y0.loadGA _ ag48 rfl (vecG_size _ _ _) (AtK.vec (At.mono (At.mono (SlR.at l1h hx2) (Mem.le_trans (Mem.le_trans Gv1le Gm2le) Gm4le)) hle))) ?_
       refine Chain.y0 guard_none (fun _ hle => Y0.move rfl) ?_
       refine Chain.y0 guard_none (fun _ hle => Y0.move rfl) ?_
       obtain ⟨x3, hx3, hr⟩ := hr
       refine Chain.y0 guard_none (fun _ hle => Y0.idxR Try.underlying28 sz48 ((l1h.mono (Mem.le_trans (Mem.le_trans Gv1le Gm2le) Gm4le)).mono hle) rfl rfl hx3) ?_
       refine Chain.y0 guard_none (fun _ hle => Y0.loadGA _ ag48 rfl (vecG_size _ _ _) (AtK.vec (At.mono (At.mono (SlR.at l1h hx3) (Mem.le_trans (Mem.le_trans Gv1le Gm2le) Gm4le)) hle))) ?_
       obtain ⟨yv1, hyv1, hr⟩ := hr
       refine Chain.call0 guard_none (fun _ => YC.of E73 rfl) (L_R21_Inside _ _ _ hyv1) rfl (fun G' hle => trivial) ?_
       cases yv1
       ·skip
        refine Chain.y0 guard_none (fun _ hle => Y0.move rfl) ?_
        refine Chain.skip (guard_noT rfl rfl) ?_
        refine Chain.skip (guard_noT rfl rfl) ?_
        refine Chain.skip (guard_noT rfl rfl) ?_
        refine Chain.skip (guard_noT rfl rfl) ?_
        refine Chain.skip (guard_noT rfl rfl) ?_
        refine Chain.skip (guard_noT rfl rfl) ?_
        refine Chain.skip (guard_noT rfl rfl) ?_
        refine Chain.skip (guard_noT rfl rfl) ?_
        refine Chain.skip (guard_noT rfl rfl) ?_
        refine Chain.skip (guard_noT rfl rfl) ?_
        refine Chain.skip (guard_undef rfl rfl) ?_
        refine Chain.skip (guard_undef rfl rfl) ?_
        refine Chain.skip (guard_undef rfl rfl) ?_
        refine Chain.skip (guard_noT rfl rfl) ?_
        refine Chain.y0 guard_none (fun _ hle => Y0.pickF rfl rfl) ?_
        refine Chain.tail0 hb ?_
        refine WL.nil ?_
        refine WE.nx ?_
        refine WE.then ?_
        refine WC.condF rfl ?_
        refine WC.skip ?_
        refine WE.inBlock ?_
        refine WE.then <| WC.region <| mv rfl rfl <| yy (Y0.add rfl rfl) rfl <| sg rfl rfl <| WL.nil ?_
        refine WE.backR ⟨keep2, IntKind.i64.wrap (k1 + 1), Gm4⟩ hr Gm4le (Fr.sub_cons rfl (Fr.sub_cons rfl (Fr.sub_cons rfl (Fr.sub_cons rfl (Fr.sub_cons rfl (Fr.sub_nil _)))))) ?_
        ·intro w hs
         exact hs.weaken (Lo.sub_cons rfl (Lo.sub_nil _))
       ·skip
        refine Chain.y0 guard_none (fun _ hle => Y0.move rfl) ?_
        refine Chain.y0 (guard_yes rfl rfl) (fun _ hle => Y0.move rfl) ?_
        refine Chain.y0 (guard_yes rfl rfl) (fun _ hle => Y0.move rfl) ?_
        obtain ⟨x4, hx4, hr⟩ := hr
        refine Chain.y0 (guard_yes rfl rfl) (fun _ hle => Y0.idxR Try.underlying28 sz48 ((l1h.mono (Mem.le_trans (Mem.le_trans Gv1le Gm2le) Gm4le)).mono hle) rfl rfl hx4) ?_
        refine Chain.y0 (guard_yes rfl rfl) (fun _ hle => Y0.loadGA _ ag48 rfl (vecG_size _ _ _) (AtK.vec (At.mono (At.mono (SlR.at l1h hx4) (Mem.le_trans (Mem.le_trans Gv1le Gm2le) Gm4le)) hle))) ?_
        refine Chain.y0 (guard_yes rfl rfl) (fun _ hle => Y0.move rfl) ?_
        refine Chain.y0 (guard_yes rfl rfl) (fun _ hle => Y0.move rfl) ?_
        obtain ⟨x5, hx5, hr⟩ := hr
        refine Chain.y0 (guard_yes rfl rfl) (fun _ hle => Y0.idxR Try.underlying28 sz48 ((l1h.mono (Mem.le_trans (Mem.le_trans Gv1le Gm2le) Gm4le)).mono hle) rfl rfl hx5) ?_
        refine Chain.y0 (guard_yes rfl rfl) (fun _ hle => Y0.loadGA _ ag48 rfl (vecG_size _ _ _) (AtK.vec (At.mono (At.mono (SlR.at l1h hx5) (Mem.le_trans (Mem.le_trans Gv1le Gm2le) Gm4le)) hle))) ?_
        refine Chain.caseY0 (p := ¬ x4 = x5) (guard_yes rfl rfl) (fun _ hle => Y0.neqV Try.underlying48 Try.underlying3 sc3 sz3 eg48 rfl rfl) (fun hb1 => ?_) (fun hb1 => ?_)
        ·replace hr := hr.pos hb1
         refine Chain.y0 (guard_yes rfl rfl) (fun _ hle => Y0.move rfl) ?_
         refine Chain.skip (guard_noF rfl rfl) ?_
         refine Chain.skip (guard_noF rfl rfl) ?_
         refine Chain.skip (guard_noF rfl rfl) ?_
         refine Chain.y0 (guard_yes rfl rfl) (fun _ hle => Y0.pickT rfl rfl) ?_
         refine Chain.y0 guard_none (fun _ hle => Y0.pickT rfl rfl) ?_
         refine Chain.tail0 hb ?_
         refine WL.nil ?_
         refine WE.nx ?_
         refine WE.then ?_
         refine WC.condT rfl ?_
         refine WC.region <| sg rfl rfl <| WL.nil ?_
         refine WE.inBlock ?_
         refine WE.then <| WC.region <| mv rfl rfl <| yy (Y0.add rfl rfl) rfl <| sg rfl rfl <| WL.nil ?_
         refine WE.backR ⟨false, IntKind.i64.wrap (k1 + 1), Gm4⟩ hr Gm4le (Fr.sub_cons rfl (Fr.sub_cons rfl (Fr.sub_cons rfl (Fr.sub_cons rfl (Fr.sub_cons rfl (Fr.sub_nil _)))))) ?_
         ·intro w hs
          exact hs.weaken (Lo.sub_cons rfl (Lo.sub_nil _))
        ·replace hr := hr.neg hb1
         refine Chain.y0 (guard_yes rfl rfl) (fun _ hle => Y0.move rfl) ?_
         refine Chain.y0 (guard_yes rfl rfl) (fun _ hle => Y0.move rfl) ?_
         refine Chain.y0 (guard_yes rfl rfl) (fun _ hle => Y0.move rfl) ?_
         refine Chain.y0 (guard_yes rfl rfl) (fun _ hle => Y0.lss rfl rfl) ?_
         refine Chain.y0 (guard_yes rfl rfl) (fun _ hle => Y0.pickF rfl rfl) ?_
         refine Chain.y0 guard_none (fun _ hle => Y0.pickT rfl rfl) ?_
         refine Chain.tail0 hb ?_
         refine WL.nil ?_
         refine WE.nx ?_
         refine WE.then ?_
         refine WC.condD (p := k1 < i1) rfl (fun hc4 => ?_) (fun hc4 => ?_)
         ·replace hr := hr.pos hc4
          refine WC.region <| sg rfl rfl <| WL.nil ?_
          refine WE.inBlock ?_
          refine WE.then <| WC.region <| mv rfl rfl <| yy (Y0.add rfl rfl) rfl <| sg rfl rfl <| WL.nil ?_
          refine WE.backR ⟨false, IntKind.i64.wrap (k1 + 1), Gm4⟩ hr Gm4le (Fr.sub_cons rfl (Fr.sub_cons rfl (Fr.sub_cons rfl (Fr.sub_cons rfl (Fr.sub_cons rfl (Fr.sub_nil _)))))) ?_
          ·intro w hs
           exact hs.weaken (Lo.sub_cons rfl (Lo.sub_nil _))
         ·replace hr := hr.neg hc4
          refine WC.skip ?_
          refine WE.inBlock ?_
          refine WE.then <| WC.region <| mv rfl rfl <| yy (Y0.add rfl rfl) rfl <| sg rfl rfl <| WL.nil ?_
          refine WE.backR ⟨keep2, IntKind.i64.wrap (k1 + 1), Gm4⟩ hr Gm4le (Fr.sub_cons rfl (Fr.sub_cons rfl (Fr.sub_cons rfl (Fr.sub_cons rfl (Fr.sub_cons rfl (Fr.sub_nil _)))))) ?_
          ·intro w hs
           exact hs.weaken (Lo.sub_cons rfl (Lo.sub_nil _))
      ·replace hr := hr.neg hc3
       refine WC.exit ?_
       refine WE.thenExit ?_
       refine WE.thenExit ?_
       refine WE.exitHere ?_
       refine WE.endH ⟨keep2, Gm4⟩ ⟨Gm4le, hr⟩ (Fr.sub_cons rfl (Fr.sub_cons rfl (Fr.sub_cons rfl (Fr.sub_cons rfl (Fr.sub_nil _))))) ?_
       ·intro w hs
        exact hs.weaken (Lo.sub_cons rfl (Lo.sub_nil _))
    ·rintro ⟨keep1, Gm3⟩ ⟨Gm3le, hr⟩
     refine WE.then <| sr <| mv rfl rfl <| nx ?_
     refine WC.cond (b := keep1) rfl (fun hc2 => ?_) (fun hc2 => ?_)
     ·replace hr := hr.pos hc2
      refine WC.region <| mv rfl rfl <| mv rfl rfl <| mv rfl rfl ?_
      obtain ⟨x1, hx1, hr⟩ := hr
      refine yy (Y0.idxR Try.underlying28 sz48 (l1h.mono (Mem.le_trans (Mem.le_trans Gv1le Gm2le) Gm3le)) rfl rfl hx1) rfl <| yy (Y0.loadGA _ ag48 rfl (vecG_size _ _ _) (AtK.vec (At.mono (SlR.at l1h hx1) (Mem.le_trans (Mem.le_trans Gv1le Gm2le) Gm3le)))) rfl ?_
      refine WL.litR (e := 48) (r := (Rp.vec .i64 8)) (vs := #[(0, .agg (vecG (Value.int .i64) 8 x1).toArray)]) (cs := (vecG (Value.int .i64) 8 x1) ++ ([])) ([x1] : List (Fin 8 → Int)) guard_none rfl rfl rfl rfl (by decide) (fun _ => by kernel_rfl) ⟨vecG (Value.int .i64) 8 x1, [], rfl, rfl, rfl⟩ (key := 999) rfl (by rw [hL0]; rfl) (fun p2 Gv2 Gv2le p2h => ?_)
      obtain ⟨hsm1, hr⟩ := hr
      refine WL.appendR (r := (Rp.vec .i64 8)) 1003 guard_none rfl Try.underlying28 el48 rfl (by decide) rfl rfl (out2h.mono (Mem.le_trans Gm3le Gv2le)) rfl (by rw [hL0]; rfl) out2ht p2h hsm1 (fun p3 p3c p3tk Gv3 Gv3le p3h p3ht => ?_)
      refine sg rfl rfl <| WL.nil ?_
      refine WE.inBlock ?_
      refine WE.then <| WC.region <| mv rfl rfl <| yy (Y0.add rfl rfl) rfl <| sg rfl rfl <| WL.nil ?_
      refine WE.backR ⟨(out2 ++ [x1]), p3, p3c, p3tk, IntKind.i64.wrap (i1 + 1), Gv3⟩ hr ⟨(Mem.le_trans (Mem.le_trans (Mem.le_trans Gm2le Gm3le) Gv2le) Gv3le), p3h, p3ht⟩ (Fr.sub_cons rfl (Fr.sub_cons rfl (Fr.sub_cons rfl (Fr.sub_nil _)))) ?_
      ·intro w hs
       exact hs.weaken (Lo.sub_cons rfl (Lo.sub_nil _))
     ·replace hr := hr.neg (Bool.eq_false_iff.1 hc2)
      refine WC.skip ?_
      refine WE.inBlock ?_
      refine WE.then <| WC.region <| mv rfl rfl <| yy (Y0.add rfl rfl) rfl <| sg rfl rfl <| WL.nil ?_
      refine WE.backR ⟨out2, out2p, out2c, out2tk, IntKind.i64.wrap (i1 + 1), Gm3⟩ hr ⟨(Mem.le_trans Gm2le Gm3le), (out2h.mono Gm3le), out2ht⟩ (Fr.sub_cons rfl (Fr.sub_cons rfl (Fr.sub_cons rfl (Fr.sub_nil _)))) ?_
      ·intro w hs
       exact hs.weaken (Lo.sub_cons rfl (Lo.sub_nil _))
   ·replace hr := hr.neg hc1
    refine WC.exit ?_
    refine WE.thenExit ?_
    refine WE.thenExit ?_
    refine WE.exitHere ?_
    refine WE.endH ⟨out2, out2p, out2c, out2tk, Gm2⟩ ⟨Gm2le, out2h, out2ht, hr⟩ (Fr.sub_cons rfl (Fr.sub_nil _)) ?_
    ·intro w hs
     exact hs.weaken (Lo.sub_cons rfl (Lo.sub_nil _))
 ·rintro ⟨out1, out1p, out1c, out1tk, Gm1⟩ ⟨Gm1le, out1h, out1ht, hr⟩
  refine WE.then <| sr <| mv rfl rfl <| sg rfl rfl <| nx ?_
  refine WC.ret ?_
  replace hr : _ = r := hr
  subst hr
  exact WE.ret1 rfl rfl ⟨_, _, rfl, out1h⟩
theorem L_R21_sorted (l1 : (List (Fin 8 → Int))) (l1p : Option Addr) (l1c : Nat) (r : (List (Fin 8 → Int))) (hr : (R21_sorted l1).Ret r) : Ctr Try.prog 47 #[.slice l1p l1.length l1c] (fun G => SlR (Rp.vec .i64 8) G (.slice l1p l1.length l1c) l1) (fun G v => ∃ zp zc, v = .slice zp r.length zc ∧ SlR (Rp.vec .i64 8) G (.slice zp r.length zc) r) := by
 refine Ctr.enter (args := [_]) (N := 50) Try.func47 rfl rfl rfl (fun w0 G0 hL0 hpre => ?_)
 have l1h := hpre
 refine sr <| sg rfl rfl <| nr ?_
 refine WL.litR (e := 48) (r := (Rp.vec .i64 8)) (vs := #[]) (cs := []) ([] : List (Fin 8 → Int)) guard_none rfl rfl rfl rfl (by decide) (fun _ => by kernel_rfl) (rfl) (key := 999) rfl (by rw [hL0]; rfl) (fun p1 Gv1 Gv1le p1h => ?_)
 refine sg rfl rfl <| nx <| WC.seq <| sr <| sg rfl rfl <| nx ?_
 refine WC.meetH (fun (gx : (List (Fin 8 → Int)) × Option Addr × Nat × Mem) => match gx with | ⟨out1, out1p, out1c, Gm1⟩ => [(3, .slice out1p out1.length out1c)]) (fun (gx : (List (Fin 8 → Int)) × Option Addr × Nat × Mem) => match gx with | ⟨out1, out1p, out1c, Gm1⟩ => Mem.le Gv1 Gm1 ∧ SlR (Rp.vec .i64 8) Gm1 (.slice out1p out1.length out1c) out1 ∧ (R21_sorted_k1 out1).Ret r) (fun (gx : (List (Fin 8 → Int)) × Option Addr × Nat × Mem) => match gx with | ⟨out1, out1p, out1c, Gm1⟩ => St w0 G0 Gm1 []) ?_ ?_
 ·refine WC.block ?_
  let Phi1 : (((List (Fin 8 → Int)))) → Prop := fun oo => ((fun ov => match ov with | out1 => R21_sorted_k1 out1 : (((List (Fin 8 → Int)))) → Comp ((List (Fin 8 → Int)))) oo).wp (fun a => a = r)
  replace hr : (Comp.loop _ _).wp Phi1 := hr
  refine WC.loopR (Φ := Phi1) (fun (gx : (List (Fin 8 → Int)) × Option Addr × Nat × Int × Mem) => match gx with | ⟨out2, out2p, out2c, i1, Gm2⟩ => ((out2, i1) : (List (Fin 8 → Int)) × Int)) (fun (gx : (List (Fin 8 → Int)) × Option Addr × Nat × Int × Mem) => match gx with | ⟨out2, out2p, out2c, i1, Gm2⟩ => [(0, .slice l1p l1.length l1c), (3, .slice out2p out2.length out2c), (4, .int .i64 i1)]) (fun (gx : (List (Fin 8 → Int)) × Option Addr × Nat × Int × Mem) => match gx with | ⟨out2, out2p, out2c, i1, Gm2⟩ => Mem.le Gv1 Gm2 ∧ SlR (Rp.vec .i64 8) Gm2 (.slice out2p out2.length out2c) out2) (fun (gx : (List (Fin 8 → Int)) × Option Addr × Nat × Int × Mem) => match gx with | ⟨out2, out2p, out2c, i1, Gm2⟩ => St w0 G0 Gm2 []) ⟨[], p1, 0, 0, Gv1⟩ hr (Fr.sub_cons rfl (Fr.sub_cons rfl (Fr.sub_cons rfl (Fr.sub_nil _)))) ⟨(Mem.le_refl _), p1h⟩ ?_ ?_
  ·intro w hs
   exact hs.weaken (Lo.sub_nil _)
  ·intro Aq1 gx hx hr
   obtain ⟨out2, out2p, out2c, i1, Gm2⟩ := gx
   obtain ⟨Gm2le, out2h⟩ := hx
   refine WC.seq <| sr <| mv rfl rfl <| mv rfl rfl <| yy (Y0.lenR Try.underlying28 (l1h.mono (Mem.le_trans Gv1le Gm2le)) rfl) rfl <| yy (Y0.lss rfl rfl) rfl ?_
   refine nx ?_
   refine WC.condD (p := i1 < (l1.length : Int)) rfl (fun hc1 => ?_) (fun hc1 => ?_)
   ·replace hr := hr.pos hc1
    refine WC.skip <| WE.then <| WC.seq <| WC.block <| sr <| sg rfl rfl ?_
    refine nx <| WC.seq ?_
    refine WC.meetH (fun (gx : Int × Mem) => match gx with | ⟨atv1, Gm3⟩ => [(0, .slice l1p l1.length l1c), (3, .slice out2p out2.length out2c), (4, .int .i64 i1), (5, .int .i64 atv1)]) (fun (gx : Int × Mem) => match gx with | ⟨atv1, Gm3⟩ => Mem.le Gm2 Gm3 ∧ (R21_sorted_k3 l1 out2 i1 atv1).wp (Out Aq1 Phi1)) (fun (gx : Int × Mem) => match gx with | ⟨atv1, Gm3⟩ => St w0 G0 Gm3 []) ?_ ?_
    ·refine WC.block ?_
     let Phi2 : Int → Prop := fun oo => ((fun ov => match ov with | atv1 => R21_sorted_k3 l1 out2 i1 atv1 : Int → Comp (((List (Fin 8 → Int)) × Int) ⊕ (((List (Fin 8 → Int)))))) oo).wp (Out Aq1 Phi1)
     replace hr : (Comp.loop _ _).wp Phi2 := hr
     refine WC.loopR (Φ := Phi2) (fun (gx : Int × Mem) => match gx with | ⟨atv2, Gm4⟩ => (atv2 : Int)) (fun (gx : Int × Mem) => match gx with | ⟨atv2, Gm4⟩ => [(0, .slice l1p l1.length l1c), (3, .slice out2p out2.length out2c), (4, .int .i64 i1), (5, .int .i64 atv2)]) (fun (gx : Int × Mem) => match gx with | ⟨atv2, Gm4⟩ => Mem.le Gm2 Gm4) (fun (gx : Int × Mem) => match gx with | ⟨atv2, Gm4⟩ => St w0 G0 Gm4 []) ⟨0, Gm2⟩ hr (Fr.sub_cons rfl (Fr.sub_cons rfl (Fr.sub_cons rfl (Fr.sub_cons rfl (Fr.sub_nil _))))) (Mem.le_refl _) ?_ ?_
     ·intro w hs
      exact hs.weaken (Lo.sub_nil _)
     ·intro Aq2 gx hx hr
      obtain ⟨atv2, Gm4⟩ := gx
      have Gm4le := hx
      refine WC.seq <| WC.seq ?_
      refine WC.drawn [false, false, false, false, false, false, false, false, false, false, false, false, false, false, false, false] mix (by kernel_rfl) (fun hb => ?_)
      refine Chain.y0 guard_none (fun _ hle => Y0.move rfl) ?_
      refine Chain.y0 guard_none (fun _ hle => Y0.move rfl) ?_
      refine Chain.y0 guard_none (fun _ hle => Y0.lenR Try.underlying28 ((out2h.mono Gm4le).mono hle) rfl) ?_
      refine Chain.caseY0 (p := atv2 < (out2.length : Int)) guard_none (fun _ hle => Y0.lss rfl rfl) (fun hb1 => ?_) (fun hb1 => ?_)
      ·replace hr := hr.pos hb1
       refine Chain.y0 guard_none (fun _ hle => Y0.move rfl) ?_
       refine Chain.y0 (guard_yes rfl rfl) (fun _ hle => Y0.move rfl) ?_
       refine Chain.y0 (guard_yes rfl rfl) (fun _ hle => Y0.move rfl) ?_
       obtain ⟨x2, hx2, hr⟩ := hr
       refine Chain.y0 (guard_yes rfl rfl) (fun _ hle => Y0.idxR Try.underlying28 sz48 ((out2h.mono Gm4le).mono hle) rfl rfl hx2) ?_
       refine Chain.y0 (guard_yes rfl rfl) (fun _ hle => Y0.loadGA _ ag48 rfl (vecG_size _ _ _) (AtK.vec (At.mono (At.mono (SlR.at out2h hx2) Gm4le) hle))) ?_
       refine Chain.y0 (guard_yes rfl rfl) (fun _ hle => Y0.move rfl) ?_
       refine Chain.y0 (guard_yes rfl rfl) (fun _ hle => Y0.move rfl) ?_
       obtain ⟨x3, hx3, hr⟩ := hr
       refine Chain.y0 (guard_yes rfl rfl) (fun _ hle => Y0.idxR Try.underlying28 sz48 ((l1h.mono (Mem.le_trans (Mem.le_trans Gv1le Gm2le) Gm4le)).mono hle) rfl rfl hx3) ?_
       refine Chain.y0 (guard_yes rfl rfl) (fun _ hle => Y0.loadGA _ ag48 rfl (vecG_size _ _ _) (AtK.vec (At.mono (At.mono (SlR.at l1h hx3) (Mem.le_trans (Mem.le_trans Gv1le Gm2le) Gm4le)) hle))) ?_
       obtain ⟨yv1, hyv1, hr⟩ := hr
       refine Chain.call0 (guard_yes rfl rfl) (fun _ => YC.of E35 rfl) (L_R04_Cmp _ _ _ hyv1) rfl (fun G' hle => trivial) ?_
       refine Chain.y0 (guard_yes rfl rfl) (fun _ hle => Y0.gtr rfl rfl) ?_
       refine Chain.y0 guard_none (fun _ hle => Y0.pickT rfl rfl) ?_
       refine Chain.tail0 hb ?_
       refine WL.nil ?_
       refine WE.nx ?_
       refine WE.then ?_
       refine WC.condD (p := 0 < yv1) rfl (fun hc2 => ?_) (fun hc2 => ?_)
       ·replace hr := hr.pos hc2
        refine WC.skip <| WE.then <| WC.block <| WC.region <| mv rfl rfl <| yy (Y0.add rfl rfl) rfl ?_
        refine sg rfl rfl <| WL.nil ?_
        refine WE.inBlock ?_
        refine WE.backR ⟨IntKind.i64.wrap (atv2 + 1), Gm4⟩ hr Gm4le (Fr.sub_cons rfl (Fr.sub_cons rfl (Fr.sub_cons rfl (Fr.sub_cons rfl (Fr.sub_nil _))))) ?_
        ·intro w hs
         exact hs.weaken (Lo.sub_nil _)
       ·replace hr := hr.neg hc2
        refine WC.exit ?_
        refine WE.thenExit ?_
        refine WE.thenExit ?_
        refine WE.exitHere ?_
        refine WE.endH ⟨atv2, Gm4⟩ ⟨Gm4le, hr⟩ (Fr.sub_cons rfl (Fr.sub_cons rfl (Fr.sub_cons rfl (Fr.sub_cons rfl (Fr.sub_nil _))))) ?_
        ·intro w hs
         exact hs.weaken (Lo.sub_nil _)
      ·replace hr := hr.neg hb1
       refine Chain.y0 guard_none (fun _ hle => Y0.move rfl) ?_
       refine Chain.skip (guard_noT rfl rfl) ?_
       refine Chain.skip (guard_noT rfl rfl) ?_
       refine Chain.skip (guard_noT rfl rfl) ?_
       refine Chain.skip (guard_noT rfl rfl) ?_
       refine Chain.skip (guard_noT rfl rfl) ?_
       refine Chain.skip (guard_noT rfl rfl) ?_
       refine Chain.skip (guard_noT rfl rfl) ?_
       refine Chain.skip (guard_noT rfl rfl) ?_
       refine Chain.skip (guard_noT rfl rfl) ?_
       refine Chain.skip (guard_noT rfl rfl) ?_
       refine Chain.y0 guard_none (fun _ hle => Y0.pickF rfl rfl) ?_
       refine Chain.tail0 hb ?_
       refine WL.nil ?_
       refine WE.nx ?_
       refine WE.then ?_
       refine WC.condF rfl ?_
       refine WC.exit ?_
       refine WE.thenExit ?_
       refine WE.thenExit ?_
       refine WE.exitHere ?_
       refine WE.endH ⟨atv2, Gm4⟩ ⟨Gm4le, hr⟩ (Fr.sub_cons rfl (Fr.sub_cons rfl (Fr.sub_cons rfl (Fr.sub_cons rfl (Fr.sub_nil _))))) ?_
       ·intro w hs
        exact hs.weaken (Lo.sub_nil _)
    ·rintro ⟨atv1, Gm3⟩ ⟨Gm3le, hr⟩
     refine WE.then <| sr ?_
     refine WL.litR (e := 48) (r := (Rp.vec .i64 8)) (vs := #[]) (cs := []) ([] : List (Fin 8 → Int)) guard_none rfl rfl rfl rfl (by decide) (fun _ => by kernel_rfl) (rfl) (key := 999) rfl (by rw [hL0]; rfl) (fun p2 Gv2 Gv2le p2h => ?_)
     refine mv rfl rfl <| mv rfl rfl ?_
     obtain ⟨hs1, hr⟩ := hr
     refine WL.sliceRH (r := (Rp.vec .i64 8)) guard_none rfl Try.underlying28 sz48 rfl (out2h.mono (Mem.le_trans Gm3le Gv2le)) rfl rfl hs1 (fun p3 p3c p3h => ?_)
     obtain ⟨hsm1, hr⟩ := hr
     refine WL.appendR (r := (Rp.vec .i64 8)) 2036 guard_none rfl Try.underlying28 el48 rfl (by decide) rfl rfl p2h rfl (by rw [hL0]; rfl) Tok.full p3h hsm1 (fun p4 p4c p4tk Gv3 Gv3le p4h p4ht => ?_)
     refine sg rfl rfl <| nr <| mv rfl rfl <| mv rfl rfl <| mv rfl rfl ?_
     obtain ⟨x1, hx1, hr⟩ := hr
     refine yy (Y0.idxR Try.underlying28 sz48 (l1h.mono (Mem.le_trans (Mem.le_trans (Mem.le_trans (Mem.le_trans Gv1le Gm2le) Gm3le) Gv2le) Gv3le)) rfl rfl hx1) rfl <| yy (Y0.loadGA _ ag48 rfl (vecG_size _ _ _) (AtK.vec (At.mono (SlR.at l1h hx1) (Mem.le_trans (Mem.le_trans (Mem.le_trans (Mem.le_trans Gv1le Gm2le) Gm3le) Gv2le) Gv3le)))) rfl ?_
     refine WL.litR (e := 48) (r := (Rp.vec .i64 8)) (vs := #[(0, .agg (vecG (Value.int .i64) 8 x1).toArray)]) (cs := (vecG (Value.int .i64) 8 x1) ++ ([])) ([x1] : List (Fin 8 → Int)) guard_none rfl rfl rfl rfl (by decide) (fun _ => by kernel_rfl) ⟨vecG (Value.int .i64) 8 x1, [], rfl, rfl, rfl⟩ (key := 999) rfl (by rw [hL0]; rfl) (fun p5 Gv4 Gv4le p5h => ?_)
     obtain ⟨hsm2, hr⟩ := hr
     refine WL.appendR (r := (Rp.vec .i64 8)) 2036 guard_none rfl Try.underlying28 el48 rfl (by decide) rfl rfl (p4h.mono Gv4le) rfl (by rw [hL0]; rfl) p4ht p5h hsm2 (fun p6 p6c p6tk Gv5 Gv5le p6h p6ht => ?_)
     refine sg rfl rfl <| nx <| WC.region <| mv rfl rfl <| mv rfl rfl <| mv rfl rfl ?_
     obtain ⟨hs2, hr⟩ := hr
     refine WL.sliceRL (r := (Rp.vec .i64 8)) guard_none rfl Try.underlying28 sz48 rfl (out2h.mono (Mem.le_trans (Mem.le_trans (Mem.le_trans (Mem.le_trans Gm3le Gv2le) Gv3le) Gv4le) Gv5le)) rfl rfl hs2 (fun p7 p7c p7h => ?_)
     obtain ⟨hsm3, hr⟩ := hr
     refine WL.appendR (r := (Rp.vec .i64 8)) 2036 guard_none rfl Try.underlying28 el48 rfl (by decide) rfl rfl p6h rfl (by rw [hL0]; rfl) p6ht p7h hsm3 (fun p8 p8c p8tk Gv6 Gv6le p8h p8ht => ?_)
     refine sg rfl rfl <| WL.nil ?_
     refine WE.inBlock ?_
     refine WE.then <| WC.region <| mv rfl rfl <| yy (Y0.add rfl rfl) rfl <| sg rfl rfl <| WL.nil ?_
     refine WE.backR ⟨((([] ++ ((out2.take atv1.toNat).drop (0 : Int).toNat)) ++ [x1]) ++ ((out2.take (out2.length : Int).toNat).drop atv1.toNat)), p8, p8c, IntKind.i64.wrap (i1 + 1), Gv6⟩ hr ⟨(Mem.le_trans (Mem.le_trans (Mem.le_trans (Mem.le_trans (Mem.le_trans (Mem.le_trans Gm2le Gm3le) Gv2le) Gv3le) Gv4le) Gv5le) Gv6le), p8h⟩ (Fr.sub_cons rfl (Fr.sub_cons rfl (Fr.sub_cons rfl (Fr.sub_nil _)))) ?_
     ·intro w hs
      exact hs.weaken (Lo.sub_nil _)
   ·replace hr := hr.neg hc1
    refine WC.exit ?_
    refine WE.thenExit ?_
    refine WE.thenExit ?_
    refine WE.exitHere ?_
    refine WE.endH ⟨out2, out2p, out2c, Gm2⟩ ⟨Gm2le, out2h, hr⟩ (Fr.sub_cons rfl (Fr.sub_nil _)) ?_
    ·intro w hs
     exact hs.weaken (Lo.sub_nil _)
 ·rintro ⟨out1, out1p, out1c, Gm1⟩ ⟨Gm1le, out1h, hr⟩
  refine WE.then <| sr <| mv rfl rfl <| sg rfl rfl <| nx ?_
  refine WC.ret ?_
  replace hr : _ = r := hr
  subst hr
  exact WE.ret1 rfl rfl ⟨_, _, rfl, out1h⟩
theorem L_R21_Irreducible (l1 : (List (Fin 8 → Int))) (n1 : Int) (l1p : Option Addr) (l1c : Nat) (r : (List (Fin 8 → Int)) × Int) (hr : (R21_Irreducible l1 n1).Ret r) : Ctr Try.prog 15 #[.slice l1p l1.length l1c, .int .i64 n1] (fun G => SlR (Rp.vec .i64 8) G (.slice l1p l1.length l1c) l1) (fun G v => ∃ zr0p zr0c, v = .tuple #[.slice zr0p r.1.length zr0c, .int .i64 r.2] ∧ SlR (Rp.vec .i64 8) G (.slice zr0p r.1.length zr0c) r.1) := by
 refine Ctr.enter (args := [_, _]) (N := 50) Try.func15 rfl rfl rfl (fun w0 G0 hL0 hpre => ?_)
 have l1h := hpre
 refine sr <| sg rfl rfl <| sg rfl rfl <| nr <| mv rfl rfl <| mv rfl rfl ?_
 obtain ⟨yv1, hyv1, hr⟩ := hr
 refine WL.call0 guard_none rfl (YC.of E44 rfl) (L_R21_check _ _ _ _ _ hyv1) rfl (l1h) ?_
 refine sg rfl rfl <| nx <| WC.seq <| sr <| mv rfl rfl <| yy (Y0.neq rfl rfl) rfl ?_
 refine nx ?_
 refine WC.condD (p := ¬ yv1 = 0) rfl (fun hc1 => ?_) (fun hc1 => ?_)
 ·replace hr := hr.pos hc1
  refine sr <| mv rfl rfl <| sg rfl rfl <| sg rfl rfl <| nx ?_
  refine WC.ret ?_
  replace hr : _ = r := hr
  refine WE.thenRet ?_
  subst hr
  exact WE.ret2 rfl rfl rfl ⟨_, _, rfl, (SlR.nil (Rp.vec .i64 8) _)⟩
 ·replace hr := hr.neg hc1
  refine WC.skip <| WE.then <| sr <| yy (Y0.build (vs := #[]) (v := .agg (vecG (Value.int .i64) 8 (fun _ => 0)).toArray) rfl rfl (fun _ => by kernel_rfl)) rfl ?_
  refine WL.litR (e := 48) (r := (Rp.vec .i64 8)) (vs := #[(0, .agg (vecG (Value.int .i64) 8 (fun _ => 0)).toArray)]) (cs := (vecG (Value.int .i64) 8 (fun _ => 0)) ++ ([])) ([(fun _ => 0)] : List (Fin 8 → Int)) guard_none rfl rfl rfl rfl (by decide) (fun _ => by kernel_rfl) ⟨vecG (Value.int .i64) 8 (fun _ => 0), [], rfl, rfl, rfl⟩ (key := 999) rfl (by rw [hL0]; rfl) (fun p1 Gv2 Gv2le p1h => ?_)
  refine sg rfl rfl <| nr <| mv rfl rfl ?_
  obtain ⟨yv2, hyv2, hr⟩ := hr
  refine WL.call guard_none rfl (YC.of E30 rfl) (L_R04_Minimal _ _ _ _ hyv2) rfl ((l1h.mono Gv2le)) (fun yv2v Gv3 Gv3le yv2post => ?_)
  obtain ⟨yv2p, yv2c, rfl, yv2h⟩ := yv2post
  refine sg rfl rfl <| nx <| WC.seq <| sr <| sg rfl rfl <| nx ?_
  refine WC.meetH (fun (gx : (List (Fin 8 → Int)) × Option Addr × Nat × Mem) => match gx with | ⟨out1, out1p, out1c, Gm1⟩ => [(7, .slice out1p out1.length out1c)]) (fun (gx : (List (Fin 8 → Int)) × Option Addr × Nat × Mem) => match gx with | ⟨out1, out1p, out1c, Gm1⟩ => Mem.le Gv3 Gm1 ∧ SlR (Rp.vec .i64 8) Gm1 (.slice out1p out1.length out1c) out1 ∧ (R21_Irreducible_k1 out1).Ret r) (fun (gx : (List (Fin 8 → Int)) × Option Addr × Nat × Mem) => match gx with | ⟨out1, out1p, out1c, Gm1⟩ => St w0 G0 Gm1 []) ?_ ?_
  ·refine WC.block ?_
   let Phi1 : (((List (Fin 8 → Int)))) → Prop := fun oo => ((fun ov => match ov with | out1 => R21_Irreducible_k1 out1 : (((List (Fin 8 → Int)))) → Comp ((List (Fin 8 → Int)) × Int)) oo).wp (fun a => a = r)
   replace hr : (Comp.loop _ _).wp Phi1 := hr
   refine WC.loopR (Φ := Phi1) (fun (gx : (List (Fin 8 → Int)) × Option Addr × Nat × Int × Mem) => match gx with | ⟨out2, out2p, out2c, i1, Gm2⟩ => ((out2, i1) : (List (Fin 8 → Int)) × Int)) (fun (gx : (List (Fin 8 → Int)) × Option Addr × Nat × Int × Mem) => match gx with | ⟨out2, out2p, out2c, i1, Gm2⟩ => [(7, .slice out2p out2.length out2c), (8, .slice yv2p yv2.length yv2c), (9, .int .i64 i1)]) (fun (gx : (List (Fin 8 → Int)) × Option Addr × Nat × Int × Mem) => match gx with | ⟨out2, out2p, out2c, i1, Gm2⟩ => Mem.le Gv3 Gm2 ∧ SlR (Rp.vec .i64 8) Gm2 (.slice out2p out2.length out2c) out2) (fun (gx : (List (Fin 8 → Int)) × Option Addr × Nat × Int × Mem) => match gx with | ⟨out2, out2p, out2c, i1, Gm2⟩ => St w0 G0 Gm2 []) ⟨[(fun _ => 0)], p1, 1, 0, Gv3⟩ hr (Fr.sub_cons rfl (Fr.sub_cons rfl (Fr.sub_cons rfl (Fr.sub_nil _)))) ⟨(Mem.le_refl _), (p1h.mono Gv3le)⟩ ?_ ?_
   ·intro w hs
    exact hs.weaken (Lo.sub_nil _)
   ·intro Aq1 gx hx hr
    obtain ⟨out2, out2p, out2c, i1, Gm2⟩ := gx
    obtain ⟨Gm2le, out2h⟩ := hx
    refine WC.seq <| sr <| mv rfl rfl <| mv rfl rfl <| yy (Y0.lenR Try.underlying28 (yv2h.mono Gm2le) rfl) rfl <| yy (Y0.lss rfl rfl) rfl ?_
    refine nx ?_
    refine WC.condD (p := i1 < (yv2.length : Int)) rfl (fun hc2 => ?_) (fun hc2 => ?_)
    ·replace hr := hr.pos hc2
     refine WC.skip <| WE.then <| WC.seq <| WC.block <| sr ?_
     refine WL.litR (e := 48) (r := (Rp.vec .i64 8)) (vs := #[]) (cs := []) ([] : List (Fin 8 → Int)) guard_none rfl rfl rfl rfl (by decide) (fun _ => by kernel_rfl) (rfl) (key := 999) rfl (by rw [hL0]; rfl) (fun p2 Gv5 Gv5le p2h => ?_)
     refine sg rfl rfl <| nx <| WC.seq <| sr <| sg rfl rfl <| nx ?_
     refine WC.meetH (fun (gx : (List (Fin 8 → Int)) × Option Addr × Nat × Option Ow × Mem) => match gx with | ⟨next1, next1p, next1c, next1tk, Gm3⟩ => [(8, .slice yv2p yv2.length yv2c), (9, .int .i64 i1), (10, .slice next1p next1.length next1c)]) (fun (gx : (List (Fin 8 → Int)) × Option Addr × Nat × Option Ow × Mem) => match gx with | ⟨next1, next1p, next1c, next1tk, Gm3⟩ => Mem.le Gv5 Gm3 ∧ SlR (Rp.vec .i64 8) Gm3 (.slice next1p next1.length next1c) next1 ∧ Tok 8 48 (.slice next1p next1.length next1c) next1.length next1tk ∧ (R21_Irreducible_k3 i1 next1).wp (Out Aq1 Phi1)) (fun (gx : (List (Fin 8 → Int)) × Option Addr × Nat × Option Ow × Mem) => match gx with | ⟨next1, next1p, next1c, next1tk, Gm3⟩ => St w0 G0 Gm3 [(1010, next1tk)]) ?_ ?_
     ·refine WC.block ?_
      let Phi2 : (((List (Fin 8 → Int)))) → Prop := fun oo => ((fun ov => match ov with | next1 => R21_Irreducible_k3 i1 next1 : (((List (Fin 8 → Int)))) → Comp (((List (Fin 8 → Int)) × Int) ⊕ (((List (Fin 8 → Int)))))) oo).wp (Out Aq1 Phi1)
      replace hr : (Comp.loop _ _).wp Phi2 := hr
      refine WC.loopR (Φ := Phi2) (fun (gx : (List (Fin 8 → Int)) × Option Addr × Nat × Option Ow × Int × Mem) => match gx with | ⟨next2, next2p, next2c, next2tk, k1, Gm4⟩ => ((next2, k1) : (List (Fin 8 → Int)) × Int)) (fun (gx : (List (Fin 8 → Int)) × Option Addr × Nat × Option Ow × Int × Mem) => match gx with | ⟨next2, next2p, next2c, next2tk, k1, Gm4⟩ => [(7, .slice out2p out2.length out2c), (8, .slice yv2p yv2.length yv2c), (9, .int .i64 i1), (10, .slice next2p next2.length next2c), (11, .int .i64 k1)]) (fun (gx : (List (Fin 8 → Int)) × Option Addr × Nat × Option Ow × Int × Mem) => match gx with | ⟨next2, next2p, next2c, next2tk, k1, Gm4⟩ => Mem.le Gv5 Gm4 ∧ SlR (Rp.vec .i64 8) Gm4 (.slice next2p next2.length next2c) next2 ∧ Tok 8 48 (.slice next2p next2.length next2c) next2.length next2tk) (fun (gx : (List (Fin 8 → Int)) × Option Addr × Nat × Option Ow × Int × Mem) => match gx with | ⟨next2, next2p, next2c, next2tk, k1, Gm4⟩ => St w0 G0 Gm4 [(1010, next2tk)]) ⟨[], p2, 0, none, 0, Gv5⟩ hr (Fr.sub_cons rfl (Fr.sub_cons rfl (Fr.sub_cons rfl (Fr.sub_cons rfl (Fr.sub_cons rfl (Fr.sub_nil _)))))) ⟨(Mem.le_refl _), p2h, Tok.full⟩ ?_ ?_
      ·intro w hs
       exact hs.weaken (Lo.sub_no (Lo.sub_nil _))
      ·intro Aq2 gx hx hr
       obtain ⟨next2, next2p, next2c, next2tk, k1, Gm4⟩ := gx
       obtain ⟨Gm4le, next2h, next2ht⟩ := hx
       refine WC.seq <| sr <| mv rfl rfl <| mv rfl rfl <| yy (Y0.lenR Try.underlying28 (out2h.mono (Mem.le_trans Gv5le Gm4le)) rfl) rfl <| yy (Y0.lss rfl rfl) rfl ?_
       refine nx ?_
       refine WC.condD (p := k1 < (out2.length : Int)) rfl (fun hc3 => ?_) (fun hc3 => ?_)
       ·replace hr := hr.pos hc3
        refine WC.skip <| WE.then <| WC.seq <| WC.block ?_
        refine WC.drawn [false, false, false, false, false, false, false, false, false, false] mix (by kernel_rfl) (fun hb => ?_)
        refine Chain.y0 guard_none (fun _ hle => Y0.move rfl) ?_
        refine Chain.y0 guard_none (fun _ hle => Y0.move rfl) ?_
        refine Chain.y0 guard_none (fun _ hle => Y0.move rfl) ?_
        obtain ⟨x1, hx1, hr⟩ := hr
        refine Chain.y0 guard_none (fun _ hle => Y0.idxR Try.underlying28 sz48 ((out2h.mono (Mem.le_trans Gv5le Gm4le)).mono hle) rfl rfl hx1) ?_
        refine Chain.y0 guard_none (fun _ hle => Y0.loadGA _ ag48 rfl (vecG_size _ _ _) (AtK.vec (At.mono (At.mono (SlR.at out2h hx1) (Mem.le_trans Gv5le Gm4le)) hle))) ?_
        refine Chain.y0 guard_none (fun _ hle => Y0.move rfl) ?_
        refine Chain.y0 guard_none (fun _ hle => Y0.move rfl) ?_
        obtain ⟨x2, hx2, hr⟩ := hr
        refine Chain.y0 guard_none (fun _ hle => Y0.idxR Try.underlying28 sz48 ((yv2h.mono (Mem.le_trans (Mem.le_trans Gm2le Gv5le) Gm4le)).mono hle) rfl rfl hx2) ?_
        refine Chain.y0 guard_none (fun _ hle => Y0.loadGA _ ag48 rfl (vecG_size _ _ _) (AtK.vec (At.mono (At.mono (SlR.at yv2h hx2) (Mem.le_trans (Mem.le_trans Gm2le Gv5le) Gm4le)) hle))) ?_
        obtain ⟨yv5, hyv5, hr⟩ := hr
        refine Chain.callU (post := fun G v => ∃ yv5p yv5c, v = .slice yv5p yv5.length yv5c ∧ SlR (Rp.vec .i64 8) G (.slice yv5p yv5.length yv5c) yv5) (fun _ => guard_none) (fun _ _ => YC.of E45 rfl) (L_R21_split _ _ _ hyv5) rfl (fun G' hle => trivial) (fun v G1 G2 hle h => ?_) ?_
        ·obtain ⟨yv5p, yv5c, rfl, yv5h⟩ := h
         exact ⟨_, _, rfl, yv5h.mono hle⟩
        refine Chain.tailU1 (d := 44) (post := fun G v => ∃ yv5p yv5c, v = .slice yv5p yv5.length yv5c ∧ SlR (Rp.vec .i64 8) G (.slice yv5p yv5.length yv5c) yv5) (fun yv5v Gv7 Gv7le yv5post => ?_)
        obtain ⟨yv5p, yv5c, rfl, yv5h⟩ := yv5post
        obtain ⟨hsm1, hr⟩ := hr
        refine WL.appendR (r := (Rp.vec .i64 8)) 1010 guard_none rfl Try.underlying28 el48 rfl (by decide) rfl rfl (next2h.mono Gv7le) rfl (by rw [hL0]; rfl) next2ht yv5h hsm1 (fun p3 p3c p3tk Gv8 Gv8le p3h p3ht => ?_)
        refine sg rfl rfl <| WL.nil ?_
        refine WE.nx ?_
        refine WE.inBlock ?_
        refine WE.then <| WC.region <| mv rfl rfl <| yy (Y0.add rfl rfl) rfl <| sg rfl rfl <| WL.nil ?_
        refine WE.backR ⟨(next2 ++ yv5), p3, p3c, p3tk, IntKind.i64.wrap (k1 + 1), Gv8⟩ hr ⟨(Mem.le_trans (Mem.le_trans Gm4le Gv7le) Gv8le), p3h, p3ht⟩ (Fr.sub_cons rfl (Fr.sub_cons rfl (Fr.sub_cons rfl (Fr.sub_cons rfl (Fr.sub_cons rfl (Fr.sub_nil _)))))) ?_
        ·intro w hs
         exact hs.weaken (Lo.sub_cons rfl (Lo.sub_nil _))
       ·replace hr := hr.neg hc3
        refine WC.exit ?_
        refine WE.thenExit ?_
        refine WE.thenExit ?_
        refine WE.exitHere ?_
        refine WE.endH ⟨next2, next2p, next2c, next2tk, Gm4⟩ ⟨Gm4le, next2h, next2ht, hr⟩ (Fr.sub_cons rfl (Fr.sub_cons rfl (Fr.sub_cons rfl (Fr.sub_nil _)))) ?_
        ·intro w hs
         exact hs.weaken (Lo.sub_cons rfl (Lo.sub_nil _))
     ·rintro ⟨next1, next1p, next1c, next1tk, Gm3⟩ ⟨Gm3le, next1h, next1ht, hr⟩
      refine WE.then <| WC.region <| mv rfl rfl ?_
      obtain ⟨yv4, hyv4, hr⟩ := hr
      refine WL.call guard_none rfl (YC.of E46 rfl) (L_R21_least _ _ _ _ hyv4) rfl (next1h) (fun yv4v Gv6 Gv6le yv4post => ?_)
      obtain ⟨yv4p, yv4c, rfl, yv4h⟩ := yv4post
      refine sg rfl rfl <| WL.nil ?_
      refine WE.inBlock ?_
      refine WE.then <| WC.region <| mv rfl rfl <| yy (Y0.add rfl rfl) rfl <| sg rfl rfl <| WL.nil ?_
      refine WE.backR ⟨yv4, yv4p, yv4c, IntKind.i64.wrap (i1 + 1), Gv6⟩ hr ⟨(Mem.le_trans (Mem.le_trans (Mem.le_trans Gm2le Gv5le) Gm3le) Gv6le), yv4h⟩ (Fr.sub_cons rfl (Fr.sub_cons rfl (Fr.sub_cons rfl (Fr.sub_nil _)))) ?_
      ·intro w hs
       exact hs.weaken (Lo.sub_nil _)
    ·replace hr := hr.neg hc2
     refine WC.exit ?_
     refine WE.thenExit ?_
     refine WE.thenExit ?_
     refine WE.exitHere ?_
     refine WE.endH ⟨out2, out2p, out2c, Gm2⟩ ⟨Gm2le, out2h, hr⟩ (Fr.sub_cons rfl (Fr.sub_nil _)) ?_
     ·intro w hs
      exact hs.weaken (Lo.sub_nil _)
  ·rintro ⟨out1, out1p, out1c, Gm1⟩ ⟨Gm1le, out1h, hr⟩
   refine WE.then <| sr <| mv rfl rfl ?_
   obtain ⟨yv3, hyv3, hr⟩ := hr
   refine WL.call guard_none rfl (YC.of E47 rfl) (L_R21_sorted _ _ _ _ hyv3) rfl (out1h) (fun yv3v Gv4 Gv4le yv3post => ?_)
   obtain ⟨yv3p, yv3c, rfl, yv3h⟩ := yv3post
   refine sg rfl rfl <| sg rfl rfl <| nx ?_
   refine WC.ret ?_
   replace hr : _ = r := hr
   subst hr
   exact WE.ret2 rfl rfl rfl ⟨_, _, rfl, yv3h⟩
theorem L_R21_Primes (l1 : (List (Fin 8 → Int))) (n1 : Int) (l1p : Option Addr) (l1c : Nat) (r : (List Int) × Int) (hr : (R21_Primes l1 n1).Ret r) : Ctr Try.prog 17 #[.slice l1p l1.length l1c, .int .i64 n1] (fun G => SlR (Rp.vec .i64 8) G (.slice l1p l1.length l1c) l1) (fun G v => ∃ zr0p zr0c, v = .tuple #[.slice zr0p r.1.length zr0c, .int .i64 r.2] ∧ SlR (Rp.int .u8) G (.slice zr0p r.1.length zr0c) r.1) := by
 refine Ctr.enter (args := [_, _]) (N := 43) Try.func17 rfl rfl rfl (fun w0 G0 hL0 hpre => ?_)
 have l1h := hpre
 refine sr <| sg rfl rfl <| sg rfl rfl <| nr <| mv rfl rfl <| mv rfl rfl ?_
 obtain ⟨yv1, hyv1, hr⟩ := hr
 refine WL.call guard_none rfl (YC.of E15 rfl) (L_R21_Irreducible _ _ _ _ _ hyv1) rfl (l1h) (fun yv1v Gv1 Gv1le yv1post => ?_)
 obtain ⟨yv1r0p, yv1r0c, rfl, yv1r0h⟩ := yv1post
 refine mv rfl rfl <| yy (Y0.extract rfl rfl) rfl <| yy (Y0.extract rfl rfl) rfl <| sg rfl rfl <| sg rfl rfl <| nr ?_
 refine WL.litR (e := 5) (r := (Rp.int .u8)) (vs := #[]) (cs := []) ([] : List Int) guard_none rfl rfl rfl rfl (by decide) (fun _ => by kernel_rfl) (rfl) (key := 999) rfl (by rw [hL0]; rfl) (fun p1 Gv2 Gv2le p1h => ?_)
 refine sg rfl rfl <| nx <| WC.seq <| sr <| sg rfl rfl <| nx ?_
 refine WC.meetH (fun (gx : (List Int) × Option Addr × Nat × Option Ow × Mem) => match gx with | ⟨out1, out1p, out1c, out1tk, Gm1⟩ => [(7, .int .i64 yv1.2), (8, .slice out1p out1.length out1c)]) (fun (gx : (List Int) × Option Addr × Nat × Option Ow × Mem) => match gx with | ⟨out1, out1p, out1c, out1tk, Gm1⟩ => Mem.le Gv2 Gm1 ∧ SlR (Rp.int .u8) Gm1 (.slice out1p out1.length out1c) out1 ∧ Tok 1 5 (.slice out1p out1.length out1c) out1.length out1tk ∧ (R21_Primes_k1 yv1 out1).Ret r) (fun (gx : (List Int) × Option Addr × Nat × Option Ow × Mem) => match gx with | ⟨out1, out1p, out1c, out1tk, Gm1⟩ => St w0 G0 Gm1 [(1008, out1tk)]) ?_ ?_
 ·refine WC.block ?_
  let Phi1 : (List Int) → Prop := fun oo => ((fun ov => match ov with | out1 => R21_Primes_k1 yv1 out1 : (List Int) → Comp ((List Int) × Int)) oo).wp (fun a => a = r)
  replace hr : (Comp.loop _ _).wp Phi1 := hr
  refine WC.loopR (Φ := Phi1) (fun (gx : (List Int) × Option Addr × Nat × Option Ow × Int × Mem) => match gx with | ⟨out2, out2p, out2c, out2tk, setv1, Gm2⟩ => ((out2, setv1) : (List Int) × Int)) (fun (gx : (List Int) × Option Addr × Nat × Option Ow × Int × Mem) => match gx with | ⟨out2, out2p, out2c, out2tk, setv1, Gm2⟩ => [(6, .slice yv1r0p yv1.1.length yv1r0c), (7, .int .i64 yv1.2), (8, .slice out2p out2.length out2c), (9, .int .i64 setv1)]) (fun (gx : (List Int) × Option Addr × Nat × Option Ow × Int × Mem) => match gx with | ⟨out2, out2p, out2c, out2tk, setv1, Gm2⟩ => Mem.le Gv2 Gm2 ∧ SlR (Rp.int .u8) Gm2 (.slice out2p out2.length out2c) out2 ∧ Tok 1 5 (.slice out2p out2.length out2c) out2.length out2tk) (fun (gx : (List Int) × Option Addr × Nat × Option Ow × Int × Mem) => match gx with | ⟨out2, out2p, out2c, out2tk, setv1, Gm2⟩ => St w0 G0 Gm2 [(1008, out2tk)]) ⟨[], p1, 0, none, 0, Gv2⟩ hr (Fr.sub_cons rfl (Fr.sub_cons rfl (Fr.sub_cons rfl (Fr.sub_cons rfl (Fr.sub_nil _))))) ⟨(Mem.le_refl _), p1h, Tok.full⟩ ?_ ?_
  ·intro w hs
   exact hs.weaken (Lo.sub_no (Lo.sub_nil _))
  ·intro Aq1 gx hx hr
   obtain ⟨out2, out2p, out2c, out2tk, setv1, Gm2⟩ := gx
   obtain ⟨Gm2le, out2h, out2ht⟩ := hx
   refine WC.seq <| sr <| mv rfl rfl <| yy (Y0.lss rfl rfl) rfl <| nx ?_
   refine WC.condD (p := setv1 < 256) rfl (fun hc1 => ?_) (fun hc1 => ?_)
   ·replace hr := hr.pos hc1
    refine WC.skip <| WE.then <| WC.seq <| WC.block <| sr <| sg rfl rfl ?_
    refine nx ?_
    refine WC.meetH (fun (gx : (List Int) × Option Addr × Nat × Option Ow × Mem) => match gx with | ⟨out3, out3p, out3c, out3tk, Gm3⟩ => [(6, .slice yv1r0p yv1.1.length yv1r0c), (7, .int .i64 yv1.2), (8, .slice out3p out3.length out3c), (9, .int .i64 setv1)]) (fun (gx : (List Int) × Option Addr × Nat × Option Ow × Mem) => match gx with | ⟨out3, out3p, out3c, out3tk, Gm3⟩ => Mem.le Gm2 Gm3 ∧ SlR (Rp.int .u8) Gm3 (.slice out3p out3.length out3c) out3 ∧ Tok 1 5 (.slice out3p out3.length out3c) out3.length out3tk ∧ (R21_Primes_k3 setv1 out3).wp (Out Aq1 Phi1)) (fun (gx : (List Int) × Option Addr × Nat × Option Ow × Mem) => match gx with | ⟨out3, out3p, out3c, out3tk, Gm3⟩ => St w0 G0 Gm3 [(1008, out3tk)]) ?_ ?_
    ·refine WC.block ?_
     let Phi2 : (List Int) → Prop := fun oo => ((fun ov => match ov with | out3 => R21_Primes_k3 setv1 out3 : (List Int) → Comp (((List Int) × Int) ⊕ (List Int))) oo).wp (Out Aq1 Phi1)
     replace hr : (Comp.loop _ _).wp Phi2 := hr
     refine WC.loopR (Φ := Phi2) (fun (gx : (List Int) × Option Addr × Nat × Option Ow × Int × Mem) => match gx with | ⟨out4, out4p, out4c, out4tk, i1, Gm4⟩ => ((out4, i1) : (List Int) × Int)) (fun (gx : (List Int) × Option Addr × Nat × Option Ow × Int × Mem) => match gx with | ⟨out4, out4p, out4c, out4tk, i1, Gm4⟩ => [(6, .slice yv1r0p yv1.1.length yv1r0c), (7, .int .i64 yv1.2), (8, .slice out4p out4.length out4c), (9, .int .i64 setv1), (10, .int .i64 i1)]) (fun (gx : (List Int) × Option Addr × Nat × Option Ow × Int × Mem) => match gx with | ⟨out4, out4p, out4c, out4tk, i1, Gm4⟩ => Mem.le Gm2 Gm4 ∧ SlR (Rp.int .u8) Gm4 (.slice out4p out4.length out4c) out4 ∧ Tok 1 5 (.slice out4p out4.length out4c) out4.length out4tk) (fun (gx : (List Int) × Option Addr × Nat × Option Ow × Int × Mem) => match gx with | ⟨out4, out4p, out4c, out4tk, i1, Gm4⟩ => St w0 G0 Gm4 [(1008, out4tk)]) ⟨out2, out2p, out2c, out2tk, 0, Gm2⟩ hr (Fr.sub_cons rfl (Fr.sub_cons rfl (Fr.sub_cons rfl (Fr.sub_cons rfl (Fr.sub_cons rfl (Fr.sub_nil _)))))) ⟨(Mem.le_refl _), out2h, out2ht⟩ ?_ ?_
     ·intro w hs
      exact hs.weaken (Lo.sub_cons rfl (Lo.sub_nil _))
     ·intro Aq2 gx hx hr
      obtain ⟨out4, out4p, out4c, out4tk, i1, Gm4⟩ := gx
      obtain ⟨Gm4le, out4h, out4ht⟩ := hx
      refine WC.seq <| sr <| mv rfl rfl <| mv rfl rfl <| yy (Y0.lenR Try.underlying28 (yv1r0h.mono (Mem.le_trans (Mem.le_trans Gv2le Gm2le) Gm4le)) rfl) rfl <| yy (Y0.lss rfl rfl) rfl ?_
      refine nx ?_
      refine WC.condD (p := i1 < (yv1.1.length : Int)) rfl (fun hc2 => ?_) (fun hc2 => ?_)
      ·replace hr := hr.pos hc2
       refine WC.skip <| WE.then <| WC.seq <| WC.block <| sr <| mv rfl rfl ?_
       refine mv rfl rfl ?_
       obtain ⟨x1, hx1, hr⟩ := hr
       refine yy (Y0.idxR Try.underlying28 sz48 (yv1r0h.mono (Mem.le_trans (Mem.le_trans Gv2le Gm2le) Gm4le)) rfl rfl hx1) rfl <| yy (Y0.loadGA _ ag48 rfl (vecG_size _ _ _) (AtK.vec (At.mono (SlR.at yv1r0h hx1) (Mem.le_trans (Mem.le_trans Gv2le Gm2le) Gm4le)))) rfl ?_
       obtain ⟨yv2, hyv2, hr⟩ := hr
       refine WL.call0 guard_none rfl (YC.of E39 rfl) (L_R04_Support _ _ hyv2) rfl (trivial) ?_
       refine yy (Y0.conv Try.underlying5 Try.underlying3 rfl) rfl <| mv rfl rfl <| yy (Y0.eql rfl rfl) rfl <| nx ?_
       refine WC.condD (p := (IntKind.i64.wrap yv2) = setv1) rfl (fun hc3 => ?_) (fun hc3 => ?_)
       ·replace hr := hr.pos hc3
        refine sr <| mv rfl rfl <| mv rfl rfl <| yy (Y0.conv Try.underlying3 Try.underlying5 rfl) rfl ?_
        refine WL.litR (e := 5) (r := (Rp.int .u8)) (vs := #[(0, .int .u8 (IntKind.u8.wrap setv1))]) (cs := [.int .u8 (IntKind.u8.wrap setv1)] ++ ([])) ([IntKind.u8.wrap setv1] : List Int) guard_none rfl rfl rfl rfl (by decide) (fun _ => by kernel_rfl) ⟨[.int .u8 (IntKind.u8.wrap setv1)], [], rfl, rfl, rfl⟩ (key := 999) rfl (by rw [hL0]; rfl) (fun p2 Gv4 Gv4le p2h => ?_)
        obtain ⟨hsm1, hr⟩ := hr
        refine WL.appendR (r := (Rp.int .u8)) 1008 guard_none rfl Try.underlying33 el5 rfl (by decide) rfl rfl (out4h.mono Gv4le) rfl (by rw [hL0]; rfl) out4ht p2h hsm1 (fun p3 p3c p3tk Gv5 Gv5le p3h p3ht => ?_)
        refine sg rfl rfl <| nx ?_
        refine WC.exit ?_
        refine WE.exitOut rfl ?_
        refine WE.thenExit ?_
        refine WE.thenExit ?_
        refine WE.exitHere ?_
        refine WE.endH ⟨(out4 ++ [IntKind.u8.wrap setv1]), p3, p3c, p3tk, Gv5⟩ ⟨(Mem.le_trans (Mem.le_trans Gm4le Gv4le) Gv5le), p3h, p3ht, hr⟩ (Fr.sub_cons rfl (Fr.sub_cons rfl (Fr.sub_cons rfl (Fr.sub_cons rfl (Fr.sub_nil _))))) ?_
        ·intro w hs
         exact hs.weaken (Lo.sub_cons rfl (Lo.sub_nil _))
       ·replace hr := hr.neg hc3
        refine WC.skip ?_
        refine WE.inBlock ?_
        refine WE.then <| WC.region <| mv rfl rfl <| yy (Y0.add rfl rfl) rfl <| sg rfl rfl <| WL.nil ?_
        refine WE.backR ⟨out4, out4p, out4c, out4tk, IntKind.i64.wrap (i1 + 1), Gm4⟩ hr ⟨Gm4le, out4h, out4ht⟩ (Fr.sub_cons rfl (Fr.sub_cons rfl (Fr.sub_cons rfl (Fr.sub_cons rfl (Fr.sub_cons rfl (Fr.sub_nil _)))))) ?_
        ·intro w hs
         exact hs.weaken (Lo.sub_cons rfl (Lo.sub_nil _))
      ·replace hr := hr.neg hc2
       refine WC.exit ?_
       refine WE.thenExit ?_
       refine WE.thenExit ?_
       refine WE.exitHere ?_
       refine WE.endH ⟨out4, out4p, out4c, out4tk, Gm4⟩ ⟨Gm4le, out4h, out4ht, hr⟩ (Fr.sub_cons rfl (Fr.sub_cons rfl (Fr.sub_cons rfl (Fr.sub_cons rfl (Fr.sub_nil _))))) ?_
       ·intro w hs
        exact hs.weaken (Lo.sub_cons rfl (Lo.sub_nil _))
    ·rintro ⟨out3, out3p, out3c, out3tk, Gm3⟩ ⟨Gm3le, out3h, out3ht, hr⟩
     refine WE.inBlock ?_
     refine WE.then <| WC.region <| mv rfl rfl <| yy (Y0.add rfl rfl) rfl <| sg rfl rfl <| WL.nil ?_
     refine WE.backR ⟨out3, out3p, out3c, out3tk, IntKind.i64.wrap (setv1 + 1), Gm3⟩ hr ⟨(Mem.le_trans Gm2le Gm3le), out3h, out3ht⟩ (Fr.sub_cons rfl (Fr.sub_cons rfl (Fr.sub_cons rfl (Fr.sub_cons rfl (Fr.sub_nil _))))) ?_
     ·intro w hs
      exact hs.weaken (Lo.sub_cons rfl (Lo.sub_nil _))
   ·replace hr := hr.neg hc1
    refine WC.exit ?_
    refine WE.thenExit ?_
    refine WE.thenExit ?_
    refine WE.exitHere ?_
    refine WE.endH ⟨out2, out2p, out2c, out2tk, Gm2⟩ ⟨Gm2le, out2h, out2ht, hr⟩ (Fr.sub_cons rfl (Fr.sub_cons rfl (Fr.sub_nil _))) ?_
    ·intro w hs
     exact hs.weaken (Lo.sub_cons rfl (Lo.sub_nil _))
 ·rintro ⟨out1, out1p, out1c, out1tk, Gm1⟩ ⟨Gm1le, out1h, out1ht, hr⟩
  refine WE.then <| sr <| mv rfl rfl <| mv rfl rfl <| sg rfl rfl <| sg rfl rfl ?_
  refine nx ?_
  refine WC.ret ?_
  replace hr : _ = r := hr
  subst hr
  exact WE.ret2 rfl rfl rfl ⟨_, _, rfl, out1h⟩
theorem L_R21_Embedded (l1 : (List (Fin 8 → Int))) (n1 : Int) (l1p : Option Addr) (l1c : Nat) (r : (List Int) × Int) (hr : (R21_Embedded l1 n1).Ret r) : Ctr Try.prog 19 #[.slice l1p l1.length l1c, .int .i64 n1] (fun G => SlR (Rp.vec .i64 8) G (.slice l1p l1.length l1c) l1) (fun G v => ∃ zr0p zr0c, v = .tuple #[.slice zr0p r.1.length zr0c, .int .i64 r.2] ∧ SlR (Rp.int .u8) G (.slice zr0p r.1.length zr0c) r.1) := by
 refine Ctr.enter (args := [_, _]) (N := 54) Try.func19 rfl rfl rfl (fun w0 G0 hL0 hpre => ?_)
 have l1h := hpre
 refine sr <| sg rfl rfl <| sg rfl rfl <| nr <| mv rfl rfl <| mv rfl rfl ?_
 obtain ⟨yv1, hyv1, hr⟩ := hr
 refine WL.call guard_none rfl (YC.of E17 rfl) (L_R21_Primes _ _ _ _ _ hyv1) rfl (l1h) (fun yv1v Gv1 Gv1le yv1post => ?_)
 obtain ⟨yv1r0p, yv1r0c, rfl, yv1r0h⟩ := yv1post
 refine mv rfl rfl <| yy (Y0.extract rfl rfl) rfl <| yy (Y0.extract rfl rfl) rfl <| sg rfl rfl <| sg rfl rfl <| nr ?_
 refine WL.litR (e := 5) (r := (Rp.int .u8)) (vs := #[]) (cs := []) ([] : List Int) guard_none rfl rfl rfl rfl (by decide) (fun _ => by kernel_rfl) (rfl) (key := 999) rfl (by rw [hL0]; rfl) (fun p1 Gv2 Gv2le p1h => ?_)
 refine sg rfl rfl <| nx <| WC.seq <| sr <| sg rfl rfl <| nx ?_
 refine WC.meetH (fun (gx : (List Int) × Option Addr × Nat × Option Ow × Mem) => match gx with | ⟨out1, out1p, out1c, out1tk, Gm1⟩ => [(7, .int .i64 yv1.2), (8, .slice out1p out1.length out1c)]) (fun (gx : (List Int) × Option Addr × Nat × Option Ow × Mem) => match gx with | ⟨out1, out1p, out1c, out1tk, Gm1⟩ => Mem.le Gv2 Gm1 ∧ SlR (Rp.int .u8) Gm1 (.slice out1p out1.length out1c) out1 ∧ Tok 1 5 (.slice out1p out1.length out1c) out1.length out1tk ∧ (R21_Embedded_k1 yv1 out1).Ret r) (fun (gx : (List Int) × Option Addr × Nat × Option Ow × Mem) => match gx with | ⟨out1, out1p, out1c, out1tk, Gm1⟩ => St w0 G0 Gm1 [(1008, out1tk)]) ?_ ?_
 ·refine WC.block ?_
  let Phi1 : (List Int) → Prop := fun oo => ((fun ov => match ov with | out1 => R21_Embedded_k1 yv1 out1 : (List Int) → Comp ((List Int) × Int)) oo).wp (fun a => a = r)
  replace hr : (Comp.loop _ _).wp Phi1 := hr
  refine WC.loopR (Φ := Phi1) (fun (gx : (List Int) × Option Addr × Nat × Option Ow × Int × Mem) => match gx with | ⟨out2, out2p, out2c, out2tk, i1, Gm2⟩ => ((out2, i1) : (List Int) × Int)) (fun (gx : (List Int) × Option Addr × Nat × Option Ow × Int × Mem) => match gx with | ⟨out2, out2p, out2c, out2tk, i1, Gm2⟩ => [(6, .slice yv1r0p yv1.1.length yv1r0c), (7, .int .i64 yv1.2), (8, .slice out2p out2.length out2c), (9, .int .i64 i1)]) (fun (gx : (List Int) × Option Addr × Nat × Option Ow × Int × Mem) => match gx with | ⟨out2, out2p, out2c, out2tk, i1, Gm2⟩ => Mem.le Gv2 Gm2 ∧ SlR (Rp.int .u8) Gm2 (.slice out2p out2.length out2c) out2 ∧ Tok 1 5 (.slice out2p out2.length out2c) out2.length out2tk) (fun (gx : (List Int) × Option Addr × Nat × Option Ow × Int × Mem) => match gx with | ⟨out2, out2p, out2c, out2tk, i1, Gm2⟩ => St w0 G0 Gm2 [(1008, out2tk)]) ⟨[], p1, 0, none, 0, Gv2⟩ hr (Fr.sub_cons rfl (Fr.sub_cons rfl (Fr.sub_cons rfl (Fr.sub_cons rfl (Fr.sub_nil _))))) ⟨(Mem.le_refl _), p1h, Tok.full⟩ ?_ ?_
  ·intro w hs
   exact hs.weaken (Lo.sub_no (Lo.sub_nil _))
  ·intro Aq1 gx hx hr
   obtain ⟨out2, out2p, out2c, out2tk, i1, Gm2⟩ := gx
   obtain ⟨Gm2le, out2h, out2ht⟩ := hx
   refine WC.seq <| sr <| mv rfl rfl <| mv rfl rfl <| yy (Y0.lenR Try.underlying33 (yv1r0h.mono (Mem.le_trans Gv2le Gm2le)) rfl) rfl <| yy (Y0.lss rfl rfl) rfl ?_
   refine nx ?_
   refine WC.condD (p := i1 < (yv1.1.length : Int)) rfl (fun hc1 => ?_) (fun hc1 => ?_)
   ·replace hr := hr.pos hc1
    refine WC.skip <| WE.then <| WC.seq <| WC.block <| sr <| sg rfl rfl ?_
    refine nx ?_
    refine WC.meetH (fun (gx : (List Int) × Option Addr × Nat × Option Ow × Mem) => match gx with | ⟨out3, out3p, out3c, out3tk, Gm3⟩ => [(6, .slice yv1r0p yv1.1.length yv1r0c), (7, .int .i64 yv1.2), (8, .slice out3p out3.length out3c), (9, .int .i64 i1)]) (fun (gx : (List Int) × Option Addr × Nat × Option Ow × Mem) => match gx with | ⟨out3, out3p, out3c, out3tk, Gm3⟩ => Mem.le Gm2 Gm3 ∧ SlR (Rp.int .u8) Gm3 (.slice out3p out3.length out3c) out3 ∧ Tok 1 5 (.slice out3p out3.length out3c) out3.length out3tk ∧ (R21_Embedded_k3 i1 out3).wp (Out Aq1 Phi1)) (fun (gx : (List Int) × Option Addr × Nat × Option Ow × Mem) => match gx with | ⟨out3, out3p, out3c, out3tk, Gm3⟩ => St w0 G0 Gm3 [(1008, out3tk)]) ?_ ?_
    ·refine WC.block ?_
     let Phi2 : (List Int) → Prop := fun oo => ((fun ov => match ov with | out3 => R21_Embedded_k3 i1 out3 : (List Int) → Comp (((List Int) × Int) ⊕ (List Int))) oo).wp (Out Aq1 Phi1)
     replace hr : (Comp.loop _ _).wp Phi2 := hr
     refine WC.loopR (Φ := Phi2) (fun (gx : (List Int) × Option Addr × Nat × Option Ow × Int × Mem) => match gx with | ⟨out4, out4p, out4c, out4tk, k1, Gm4⟩ => ((out4, k1) : (List Int) × Int)) (fun (gx : (List Int) × Option Addr × Nat × Option Ow × Int × Mem) => match gx with | ⟨out4, out4p, out4c, out4tk, k1, Gm4⟩ => [(6, .slice yv1r0p yv1.1.length yv1r0c), (7, .int .i64 yv1.2), (8, .slice out4p out4.length out4c), (9, .int .i64 i1), (10, .int .i64 k1)]) (fun (gx : (List Int) × Option Addr × Nat × Option Ow × Int × Mem) => match gx with | ⟨out4, out4p, out4c, out4tk, k1, Gm4⟩ => Mem.le Gm2 Gm4 ∧ SlR (Rp.int .u8) Gm4 (.slice out4p out4.length out4c) out4 ∧ Tok 1 5 (.slice out4p out4.length out4c) out4.length out4tk) (fun (gx : (List Int) × Option Addr × Nat × Option Ow × Int × Mem) => match gx with | ⟨out4, out4p, out4c, out4tk, k1, Gm4⟩ => St w0 G0 Gm4 [(1008, out4tk)]) ⟨out2, out2p, out2c, out2tk, 0, Gm2⟩ hr (Fr.sub_cons rfl (Fr.sub_cons rfl (Fr.sub_cons rfl (Fr.sub_cons rfl (Fr.sub_cons rfl (Fr.sub_nil _)))))) ⟨(Mem.le_refl _), out2h, out2ht⟩ ?_ ?_
     ·intro w hs
      exact hs.weaken (Lo.sub_cons rfl (Lo.sub_nil _))
     ·intro Aq2 gx hx hr
      obtain ⟨out4, out4p, out4c, out4tk, k1, Gm4⟩ := gx
      obtain ⟨Gm4le, out4h, out4ht⟩ := hx
      refine WC.seq <| sr <| mv rfl rfl <| mv rfl rfl <| yy (Y0.lenR Try.underlying33 (yv1r0h.mono (Mem.le_trans (Mem.le_trans Gv2le Gm2le) Gm4le)) rfl) rfl <| yy (Y0.lss rfl rfl) rfl ?_
      refine nx ?_
      refine WC.condD (p := k1 < (yv1.1.length : Int)) rfl (fun hc2 => ?_) (fun hc2 => ?_)
      ·replace hr := hr.pos hc2
       refine WC.skip <| WE.then <| WC.seq <| WC.block <| WC.seq ?_
       refine WC.drawn [false, false, false, false, false, false, false, false, false, false, false, false, false, false, false] mix (by kernel_rfl) (fun hb => ?_)
       refine Chain.y0 guard_none (fun _ hle => Y0.move rfl) ?_
       refine Chain.y0 guard_none (fun _ hle => Y0.move rfl) ?_
       refine Chain.caseY0 (p := ¬ k1 = i1) guard_none (fun _ hle => Y0.neq rfl rfl) (fun hb1 => ?_) (fun hb1 => ?_)
       ·replace hr := hr.pos hb1
        refine Chain.y0 guard_none (fun _ hle => Y0.move rfl) ?_
        refine Chain.y0 (guard_yes rfl rfl) (fun _ hle => Y0.move rfl) ?_
        refine Chain.y0 (guard_yes rfl rfl) (fun _ hle => Y0.move rfl) ?_
        obtain ⟨x1, hx1, hr⟩ := hr
        refine Chain.y0 (guard_yes rfl rfl) (fun _ hle => Y0.idxR Try.underlying33 sz5 ((yv1r0h.mono (Mem.le_trans (Mem.le_trans Gv2le Gm2le) Gm4le)).mono hle) rfl rfl hx1) ?_
        refine Chain.y0 (guard_yes rfl rfl) (fun _ hle => Y0.loadG sc5 rfl (AtK.int (At.mono (At.mono (SlR.at yv1r0h hx1) (Mem.le_trans (Mem.le_trans Gv2le Gm2le) Gm4le)) hle))) ?_
        refine Chain.y0 (guard_yes rfl rfl) (fun _ hle => Y0.move rfl) ?_
        refine Chain.y0 (guard_yes rfl rfl) (fun _ hle => Y0.move rfl) ?_
        obtain ⟨x2, hx2, hr⟩ := hr
        refine Chain.y0 (guard_yes rfl rfl) (fun _ hle => Y0.idxR Try.underlying33 sz5 ((yv1r0h.mono (Mem.le_trans (Mem.le_trans Gv2le Gm2le) Gm4le)).mono hle) rfl rfl hx2) ?_
        refine Chain.y0 (guard_yes rfl rfl) (fun _ hle => Y0.loadG sc5 rfl (AtK.int (At.mono (At.mono (SlR.at yv1r0h hx2) (Mem.le_trans (Mem.le_trans Gv2le Gm2le) Gm4le)) hle))) ?_
        refine Chain.y0 (guard_yes rfl rfl) (fun _ hle => Y0.andNot rfl rfl) ?_
        refine Chain.y0 (guard_yes rfl rfl) (fun _ hle => Y0.eql rfl rfl) ?_
        refine Chain.y0 guard_none (fun _ hle => Y0.pickT rfl rfl) ?_
        refine Chain.tail0 hb ?_
        refine WL.nil ?_
        refine WE.nx ?_
        refine WE.then ?_
        refine WC.condD (p := (IntKind.u8.wrap (BitVec.ofInt IntKind.u8.bits x1 &&& ~~~ BitVec.ofInt IntKind.u8.bits x2).toNat) = 0) rfl (fun hc3 => ?_) (fun hc3 => ?_)
        ·replace hr := hr.pos hc3
         refine sr <| mv rfl rfl <| mv rfl rfl <| mv rfl rfl ?_
         obtain ⟨x3, hx3, hr⟩ := hr
         refine yy (Y0.idxR Try.underlying33 sz5 (yv1r0h.mono (Mem.le_trans (Mem.le_trans Gv2le Gm2le) Gm4le)) rfl rfl hx3) rfl <| yy (Y0.loadG sc5 rfl (AtK.int (At.mono (SlR.at yv1r0h hx3) (Mem.le_trans (Mem.le_trans Gv2le Gm2le) Gm4le)))) rfl ?_
         refine WL.litR (e := 5) (r := (Rp.int .u8)) (vs := #[(0, .int .u8 x3)]) (cs := [.int .u8 x3] ++ ([])) ([x3] : List Int) guard_none rfl rfl rfl rfl (by decide) (fun _ => by kernel_rfl) ⟨[.int .u8 x3], [], rfl, rfl, rfl⟩ (key := 999) rfl (by rw [hL0]; rfl) (fun p2 Gv3 Gv3le p2h => ?_)
         obtain ⟨hsm1, hr⟩ := hr
         refine WL.appendR (r := (Rp.int .u8)) 1008 guard_none rfl Try.underlying33 el5 rfl (by decide) rfl rfl (out4h.mono Gv3le) rfl (by rw [hL0]; rfl) out4ht p2h hsm1 (fun p3 p3c p3tk Gv4 Gv4le p3h p3ht => ?_)
         refine sg rfl rfl <| nx ?_
         refine WC.exit ?_
         refine WE.exitOut rfl ?_
         refine WE.thenExit ?_
         refine WE.thenExit ?_
         refine WE.exitHere ?_
         refine WE.endH ⟨(out4 ++ [x3]), p3, p3c, p3tk, Gv4⟩ ⟨(Mem.le_trans (Mem.le_trans Gm4le Gv3le) Gv4le), p3h, p3ht, hr⟩ (Fr.sub_cons rfl (Fr.sub_cons rfl (Fr.sub_cons rfl (Fr.sub_cons rfl (Fr.sub_nil _))))) ?_
         ·intro w hs
          exact hs.weaken (Lo.sub_cons rfl (Lo.sub_nil _))
        ·replace hr := hr.neg hc3
         refine WC.skip ?_
         refine WE.inBlock ?_
         refine WE.then <| WC.region <| mv rfl rfl <| yy (Y0.add rfl rfl) rfl <| sg rfl rfl <| WL.nil ?_
         refine WE.backR ⟨out4, out4p, out4c, out4tk, IntKind.i64.wrap (k1 + 1), Gm4⟩ hr ⟨Gm4le, out4h, out4ht⟩ (Fr.sub_cons rfl (Fr.sub_cons rfl (Fr.sub_cons rfl (Fr.sub_cons rfl (Fr.sub_cons rfl (Fr.sub_nil _)))))) ?_
         ·intro w hs
          exact hs.weaken (Lo.sub_cons rfl (Lo.sub_nil _))
       ·replace hr := hr.neg hb1
        refine Chain.y0 guard_none (fun _ hle => Y0.move rfl) ?_
        refine Chain.skip (guard_noT rfl rfl) ?_
        refine Chain.skip (guard_noT rfl rfl) ?_
        refine Chain.skip (guard_noT rfl rfl) ?_
        refine Chain.skip (guard_noT rfl rfl) ?_
        refine Chain.skip (guard_noT rfl rfl) ?_
        refine Chain.skip (guard_noT rfl rfl) ?_
        refine Chain.skip (guard_noT rfl rfl) ?_
        refine Chain.skip (guard_noT rfl rfl) ?_
        refine Chain.skip (guard_noT rfl rfl) ?_
        refine Chain.skip (guard_noT rfl rfl) ?_
        refine Chain.y0 guard_none (fun _ hle => Y0.pickF rfl rfl) ?_
        refine Chain.tail0 hb ?_
        refine WL.nil ?_
        refine WE.nx ?_
        refine WE.then ?_
        refine WC.condF rfl ?_
        refine WC.skip ?_
        refine WE.inBlock ?_
        refine WE.then <| WC.region <| mv rfl rfl <| yy (Y0.add rfl rfl) rfl <| sg rfl rfl <| WL.nil ?_
        refine WE.backR ⟨out4, out4p, out4c, out4tk, IntKind.i64.wrap (k1 + 1), Gm4⟩ hr ⟨Gm4le, out4h, out4ht⟩ (Fr.sub_cons rfl (Fr.sub_cons rfl (Fr.sub_cons rfl (Fr.sub_cons rfl (Fr.sub_cons rfl (Fr.sub_nil _)))))) ?_
        ·intro w hs
         exact hs.weaken (Lo.sub_cons rfl (Lo.sub_nil _))
      ·replace hr := hr.neg hc2
       refine WC.exit ?_
       refine WE.thenExit ?_
       refine WE.thenExit ?_
       refine WE.exitHere ?_
       refine WE.endH ⟨out4, out4p, out4c, out4tk, Gm4⟩ ⟨Gm4le, out4h, out4ht, hr⟩ (Fr.sub_cons rfl (Fr.sub_cons rfl (Fr.sub_cons rfl (Fr.sub_cons rfl (Fr.sub_nil _))))) ?_
       ·intro w hs
        exact hs.weaken (Lo.sub_cons rfl (Lo.sub_nil _))
    ·rintro ⟨out3, out3p, out3c, out3tk, Gm3⟩ ⟨Gm3le, out3h, out3ht, hr⟩
     refine WE.inBlock ?_
     refine WE.then <| WC.region <| mv rfl rfl <| yy (Y0.add rfl rfl) rfl <| sg rfl rfl <| WL.nil ?_
     refine WE.backR ⟨out3, out3p, out3c, out3tk, IntKind.i64.wrap (i1 + 1), Gm3⟩ hr ⟨(Mem.le_trans Gm2le Gm3le), out3h, out3ht⟩ (Fr.sub_cons rfl (Fr.sub_cons rfl (Fr.sub_cons rfl (Fr.sub_cons rfl (Fr.sub_nil _))))) ?_
     ·intro w hs
      exact hs.weaken (Lo.sub_cons rfl (Lo.sub_nil _))
   ·replace hr := hr.neg hc1
    refine WC.exit ?_
    refine WE.thenExit ?_
    refine WE.thenExit ?_
    refine WE.exitHere ?_
    refine WE.endH ⟨out2, out2p, out2c, out2tk, Gm2⟩ ⟨Gm2le, out2h, out2ht, hr⟩ (Fr.sub_cons rfl (Fr.sub_cons rfl (Fr.sub_nil _))) ?_
    ·intro w hs
     exact hs.weaken (Lo.sub_cons rfl (Lo.sub_nil _))
 ·rintro ⟨out1, out1p, out1c, out1tk, Gm1⟩ ⟨Gm1le, out1h, out1ht, hr⟩
  refine WE.then <| sr <| mv rfl rfl <| mv rfl rfl <| sg rfl rfl <| sg rfl rfl ?_
  refine nx ?_
  refine WC.ret ?_
  replace hr : _ = r := hr
  subst hr
  exact WE.ret2 rfl rfl rfl ⟨_, _, rfl, out1h⟩
theorem L_R21_Gens (a1 : (Fin 8 → Int)) (r : (List (Fin 8 → Int))) (hr : (R21_Gens a1).Ret r) : Ctr Try.prog 53 #[.agg (vecG (Value.int .i64) 8 a1).toArray] (fun G => True) (fun G v => ∃ zp zc, v = .slice zp r.length zc ∧ SlR (Rp.vec .i64 8) G (.slice zp r.length zc) r) := by
 refine Ctr.enter (args := [_]) (N := 26) Try.func53 rfl rfl rfl (fun w0 G0 hL0 hpre => ?_)
 refine sr ?_
 refine WL.box 1 guard_none rfl rfl (fun b1 => ?_)
 refine sg rfl rfl <| nr ?_
 refine WL.litR (e := 48) (r := (Rp.vec .i64 8)) (vs := #[]) (cs := []) ([] : List (Fin 8 → Int)) guard_none rfl rfl rfl rfl (by decide) (fun _ => by kernel_rfl) (rfl) (key := 999) rfl (by rw [hL0]; rfl) (fun p1 Gv1 Gv1le p1h => ?_)
 refine sg rfl rfl <| nx <| WC.seq <| sr <| sg rfl rfl <| nx ?_
 refine WC.meetH (fun (gx : (List (Fin 8 → Int)) × Option Addr × Nat × Option Ow × Mem) => match gx with | ⟨out1, out1p, out1c, out1tk, Gm1⟩ => [(3, .slice out1p out1.length out1c)]) (fun (gx : (List (Fin 8 → Int)) × Option Addr × Nat × Option Ow × Mem) => match gx with | ⟨out1, out1p, out1c, out1tk, Gm1⟩ => Mem.le Gv1 Gm1 ∧ SlR (Rp.vec .i64 8) Gm1 (.slice out1p out1.length out1c) out1 ∧ Tok 8 48 (.slice out1p out1.length out1c) out1.length out1tk ∧ (R21_Gens_k1 out1).Ret r) (fun (gx : (List (Fin 8 → Int)) × Option Addr × Nat × Option Ow × Mem) => match gx with | ⟨out1, out1p, out1c, out1tk, Gm1⟩ => St w0 G0 Gm1 [(1003, out1tk)]) ?_ ?_
 ·refine WC.block ?_
  let Phi1 : (((List (Fin 8 → Int)))) → Prop := fun oo => ((fun ov => match ov with | out1 => R21_Gens_k1 out1 : (((List (Fin 8 → Int)))) → Comp ((List (Fin 8 → Int)))) oo).wp (fun a => a = r)
  replace hr : (Comp.loop _ _).wp Phi1 := hr
  refine WC.loopR (Φ := Phi1) (fun (gx : (List (Fin 8 → Int)) × Option Addr × Nat × Option Ow × Int × Mem) => match gx with | ⟨out2, out2p, out2c, out2tk, i1, Gm2⟩ => ((out2, i1) : (List (Fin 8 → Int)) × Int)) (fun (gx : (List (Fin 8 → Int)) × Option Addr × Nat × Option Ow × Int × Mem) => match gx with | ⟨out2, out2p, out2c, out2tk, i1, Gm2⟩ => [(1, .pointer (some ⟨b1, 0, none⟩)), (3, .slice out2p out2.length out2c), (4, .int .i64 i1)]) (fun (gx : (List (Fin 8 → Int)) × Option Addr × Nat × Option Ow × Int × Mem) => match gx with | ⟨out2, out2p, out2c, out2tk, i1, Gm2⟩ => Mem.le Gv1 Gm2 ∧ SlR (Rp.vec .i64 8) Gm2 (.slice out2p out2.length out2c) out2 ∧ Tok 8 48 (.slice out2p out2.length out2c) out2.length out2tk) (fun (gx : (List (Fin 8 → Int)) × Option Addr × Nat × Option Ow × Int × Mem) => match gx with | ⟨out2, out2p, out2c, out2tk, i1, Gm2⟩ => St w0 G0 Gm2 [(1, some ⟨b1, .cells (vecG (Value.int .i64) 8 a1).toArray 48 (0, 0), 0⟩), (1003, out2tk)]) ⟨[], p1, 0, none, 0, Gv1⟩ hr (Fr.sub_cons rfl (Fr.sub_cons rfl (Fr.sub_cons rfl (Fr.sub_nil _)))) ⟨(Mem.le_refl _), p1h, Tok.full⟩ ?_ ?_
  ·intro w hs
   exact hs.weaken (Lo.sub_cons rfl (Lo.sub_no (Lo.sub_nil _)))
  ·intro Aq1 gx hx hr
   obtain ⟨out2, out2p, out2c, out2tk, i1, Gm2⟩ := gx
   obtain ⟨Gm2le, out2h, out2ht⟩ := hx
   refine WC.seq <| sr <| mv rfl rfl <| yy (Y0.lss rfl rfl) rfl <| nx ?_
   refine WC.condD (p := i1 < 8) rfl (fun hc1 => ?_) (fun hc1 => ?_)
   ·replace hr := hr.pos hc1
    refine WC.skip <| WE.then <| WC.seq <| WC.block <| sr <| mv rfl rfl ?_
    obtain ⟨hi1, hr⟩ := hr
    refine yy (Y0.idxA0 Try.underlying48 sz3 rfl rfl hi1) rfl <| yy (Y0.loadL 1 sc3 rfl rfl (vecG_at _ _ _ hi1)) rfl <| yy (Y0.gtr rfl rfl) rfl <| nx ?_
    refine WC.condD (p := 0 < (getF a1 i1)) rfl (fun hc2 => ?_) (fun hc2 => ?_)
    ·replace hr := hr.pos hc2
     refine sr <| yy (Y0.build (vs := #[]) (v := .agg (vecG (Value.int .i64) 8 (fun _ => 0)).toArray) rfl rfl (fun _ => by kernel_rfl)) rfl ?_
     refine WL.alloc 5 guard_none z48 rfl (fun b2 => ?_)
     refine WL.storeLA 5 guard_none sz48 rfl rfl rfl (vecG_size _ _ _) (vecG_size _ _ _) (fun u hu => Rp.one (Rp.vec .i64 8) (G := Gm2) (x := (fun _ => 0)) (cs := vecG (Value.int .i64) 8 (fun _ => 0)) rfl u (by simpa using hu)) ?_
     refine nr <| mv rfl rfl <| mv rfl rfl ?_
     obtain ⟨hi2, hr⟩ := hr
     refine yy (Y0.idxA0 Try.underlying48 sz3 rfl rfl hi2) rfl <| yy (Y0.loadL 1 sc3 rfl rfl (vecG_at _ _ _ hi2)) rfl ?_
     obtain ⟨hi3, hr⟩ := hr
     refine yy (Y0.idxA0 Try.underlying48 sz3 rfl rfl hi3) rfl ?_
     refine WL.storeL 5 (vecG (Value.int .i64) 8 (setF (fun _ => 0) i1.toNat (getF a1 i1))).toArray guard_none sz3 rfl rfl rfl (by first | (rw [vecG_size]; omega) | (show _ < (vecG _ _ _).toArray.size; rw [vecG_size]; omega)) rfl (vecG_put _ _ _ _ _) ?_
     refine nx <| WC.region <| mv rfl rfl <| yy (Y0.loadLA 5 ag48 rfl rfl (vecG_size _ _ _)) rfl ?_
     refine WL.litR (e := 48) (r := (Rp.vec .i64 8)) (vs := #[(0, .agg (vecG (Value.int .i64) 8 (setF (fun _ => 0) i1.toNat (getF a1 i1))).toArray)]) (cs := (vecG (Value.int .i64) 8 (setF (fun _ => 0) i1.toNat (getF a1 i1))) ++ ([])) ([setF (fun _ => 0) i1.toNat (getF a1 i1)] : List (Fin 8 → Int)) guard_none rfl rfl rfl rfl (by decide) (fun _ => by kernel_rfl) ⟨vecG (Value.int .i64) 8 (setF (fun _ => 0) i1.toNat (getF a1 i1)), [], rfl, rfl, rfl⟩ (key := 999) rfl (by rw [hL0]; rfl) (fun p2 Gv2 Gv2le p2h => ?_)
     obtain ⟨hsm1, hr⟩ := hr
     refine WL.appendR (r := (Rp.vec .i64 8)) 1003 guard_none rfl Try.underlying28 el48 rfl (by decide) rfl rfl (out2h.mono Gv2le) rfl (by rw [hL0]; rfl) out2ht p2h hsm1 (fun p3 p3c p3tk Gv3 Gv3le p3h p3ht => ?_)
     refine sg rfl rfl <| WL.nil ?_
     refine WE.inBlock ?_
     refine WE.then <| WC.region <| mv rfl rfl <| yy (Y0.add rfl rfl) rfl <| sg rfl rfl <| WL.nil ?_
     refine WE.backR ⟨(out2 ++ [setF (fun _ => 0) i1.toNat (getF a1 i1)]), p3, p3c, p3tk, IntKind.i64.wrap (i1 + 1), Gv3⟩ hr ⟨(Mem.le_trans (Mem.le_trans Gm2le Gv2le) Gv3le), p3h, p3ht⟩ (Fr.sub_cons rfl (Fr.sub_cons rfl (Fr.sub_cons rfl (Fr.sub_nil _)))) ?_
     ·intro w hs
      exact hs.weaken (Lo.sub_cons rfl (Lo.sub_cons rfl (Lo.sub_nil _)))
    ·replace hr := hr.neg hc2
     refine WC.skip ?_
     refine WE.inBlock ?_
     refine WE.then <| WC.region <| mv rfl rfl <| yy (Y0.add rfl rfl) rfl <| sg rfl rfl <| WL.nil ?_
     refine WE.backR ⟨out2, out2p, out2c, out2tk, IntKind.i64.wrap (i1 + 1), Gm2⟩ hr ⟨Gm2le, out2h, out2ht⟩ (Fr.sub_cons rfl (Fr.sub_cons rfl (Fr.sub_cons rfl (Fr.sub_nil _)))) ?_
     ·intro w hs
      exact hs.weaken (Lo.sub_cons rfl (Lo.sub_cons rfl (Lo.sub_nil _)))
   ·replace hr := hr.neg hc1
    refine WC.exit ?_
    refine WE.thenExit ?_
    refine WE.thenExit ?_
    refine WE.exitHere ?_
    refine WE.endH ⟨out2, out2p, out2c, out2tk, Gm2⟩ ⟨Gm2le, out2h, out2ht, hr⟩ (Fr.sub_cons rfl (Fr.sub_nil _)) ?_
    ·intro w hs
     exact hs.weaken (Lo.sub_cons rfl (Lo.sub_nil _))
 ·rintro ⟨out1, out1p, out1c, out1tk, Gm1⟩ ⟨Gm1le, out1h, out1ht, hr⟩
  refine WE.then <| sr <| mv rfl rfl <| sg rfl rfl <| nx ?_
  refine WC.ret ?_
  replace hr : _ = r := hr
  subst hr
  exact WE.ret1 rfl rfl ⟨_, _, rfl, out1h⟩
theorem L_R04_Lcm (a1 : (Fin 8 → Int)) (b1 : (Fin 8 → Int)) (r : (Fin 8 → Int)) (hr : (R04_Lcm a1 b1).Ret r) : Ctr Try.prog 54 #[.agg (vecG (Value.int .i64) 8 a1).toArray, .agg (vecG (Value.int .i64) 8 b1).toArray] (fun G => True) (fun G v => v = .agg (vecG (Value.int .i64) 8 r).toArray) := by
 refine Ctr.enter (args := [_, _]) (N := 20) Try.func54 rfl rfl rfl (fun w0 G0 hL0 hpre => ?_)
 refine sr ?_
 refine WL.box 2 guard_none rfl rfl (fun b2 => ?_)
 refine WL.box 3 guard_none rfl rfl (fun b3 => ?_)
 refine WL.alloc 4 guard_none z48 rfl (fun b4 => ?_)
 refine nx <| WC.seq <| sr <| sg rfl rfl <| nx ?_
 refine WC.meetH (fun (gx : (Fin 8 → Int) × Mem) => match gx with | ⟨bx1, Gm1⟩ => [(2, .pointer (some ⟨b2, 0, none⟩)), (4, .pointer (some ⟨b4, 0, none⟩))]) (fun (gx : (Fin 8 → Int) × Mem) => match gx with | ⟨bx1, Gm1⟩ => Mem.le G0 Gm1 ∧ (R04_Lcm_k1 bx1).Ret r) (fun (gx : (Fin 8 → Int) × Mem) => match gx with | ⟨bx1, Gm1⟩ => St w0 G0 Gm1 [(2, some ⟨b2, .cells (vecG (Value.int .i64) 8 bx1).toArray 48 (0, 0), 0⟩), (4, some ⟨b4, .cells (vecG (Value.int .i64) 8 (fun _ => 0)).toArray 48 (0, 0), 0⟩)]) ?_ ?_
 ·refine WC.block ?_
  let Phi1 : (Fin 8 → Int) → Prop := fun oo => ((fun ov => match ov with | bx1 => R04_Lcm_k1 bx1 : (Fin 8 → Int) → Comp (Fin 8 → Int)) oo).wp (fun a => a = r)
  replace hr : (Comp.loop _ _).wp Phi1 := hr
  refine WC.loopR (Φ := Phi1) (fun (gx : Int × (Fin 8 → Int) × Mem) => match gx with | ⟨i1, bx2, Gm2⟩ => ((i1, bx2) : Int × (Fin 8 → Int))) (fun (gx : Int × (Fin 8 → Int) × Mem) => match gx with | ⟨i1, bx2, Gm2⟩ => [(2, .pointer (some ⟨b2, 0, none⟩)), (3, .pointer (some ⟨b3, 0, none⟩)), (4, .pointer (some ⟨b4, 0, none⟩)), (5, .int .i64 i1)]) (fun (gx : Int × (Fin 8 → Int) × Mem) => match gx with | ⟨i1, bx2, Gm2⟩ => Mem.le G0 Gm2) (fun (gx : Int × (Fin 8 → Int) × Mem) => match gx with | ⟨i1, bx2, Gm2⟩ => St w0 G0 Gm2 [(2, some ⟨b2, .cells (vecG (Value.int .i64) 8 bx2).toArray 48 (0, 0), 0⟩), (3, some ⟨b3, .cells (vecG (Value.int .i64) 8 b1).toArray 48 (0, 0), 0⟩), (4, some ⟨b4, .cells (vecG (Value.int .i64) 8 (fun _ => 0)).toArray 48 (0, 0), 0⟩)]) ⟨0, a1, G0⟩ hr (Fr.sub_cons rfl (Fr.sub_cons rfl (Fr.sub_cons rfl (Fr.sub_cons rfl (Fr.sub_nil _))))) (Mem.le_refl _) ?_ ?_
  ·intro w hs
   exact hs.weaken (Lo.sub_cons rfl (Lo.sub_cons rfl (Lo.sub_cons rfl (Lo.sub_nil _))))
  ·intro Aq1 gx hx hr
   obtain ⟨i1, bx2, Gm2⟩ := gx
   have Gm2le := hx
   refine WC.seq <| sr <| mv rfl rfl <| yy (Y0.lss rfl rfl) rfl <| nx ?_
   refine WC.condD (p := i1 < 8) rfl (fun hc1 => ?_) (fun hc1 => ?_)
   ·replace hr := hr.pos hc1
    refine WC.skip <| WE.then <| WC.seq <| WC.block ?_
    refine WC.drawn [false, false, false, false, false, false, false, false, false] mix (by kernel_rfl) (fun hb => ?_)
    refine Chain.y0 guard_none (fun _ hle => Y0.move rfl) ?_
    refine Chain.y0 guard_none (fun _ hle => Y0.move rfl) ?_
    obtain ⟨hi1, hr⟩ := hr
    refine Chain.y0 guard_none (fun _ hle => Y0.idxA0 Try.underlying48 sz3 rfl rfl hi1) ?_
    refine Chain.y0 guard_none (fun _ hle => Y0.loadL 2 sc3 rfl rfl (vecG_at _ _ _ hi1)) ?_
    refine Chain.y0 guard_none (fun _ hle => Y0.move rfl) ?_
    obtain ⟨hi2, hr⟩ := hr
    refine Chain.y0 guard_none (fun _ hle => Y0.idxA0 Try.underlying48 sz3 rfl rfl hi2) ?_
    refine Chain.y0 guard_none (fun _ hle => Y0.loadL 3 sc3 rfl rfl (vecG_at _ _ _ hi2)) ?_
    refine Chain.y0 guard_none (fun _ hle => Y0.max2 rfl rfl) ?_
    obtain ⟨hi3, hr⟩ := hr
    refine Chain.y0 guard_none (fun _ hle => Y0.idxA0 Try.underlying48 sz3 rfl rfl hi3) ?_
    refine Chain.tail0 hb ?_
    refine WL.storeL 2 (vecG (Value.int .i64) 8 (setF bx2 i1.toNat (if (getF bx2 i1) < (getF b1 i1) then (getF b1 i1) else (getF bx2 i1)))).toArray guard_none sz3 rfl rfl rfl (by first | (rw [vecG_size]; omega) | (show _ < (vecG _ _ _).toArray.size; rw [vecG_size]; omega)) rfl (vecG_put _ _ _ _ _) ?_
    refine WL.nil ?_
    refine WE.nx ?_
    refine WE.inBlock ?_
    refine WE.then <| WC.region <| mv rfl rfl <| yy (Y0.add rfl rfl) rfl <| sg rfl rfl <| WL.nil ?_
    refine WE.backR ⟨IntKind.i64.wrap (i1 + 1), setF bx2 i1.toNat (if (getF bx2 i1) < (getF b1 i1) then (getF b1 i1) else (getF bx2 i1)), Gm2⟩ hr Gm2le (Fr.sub_cons rfl (Fr.sub_cons rfl (Fr.sub_cons rfl (Fr.sub_cons rfl (Fr.sub_nil _))))) ?_
    ·intro w hs
     exact hs.weaken (Lo.sub_cons rfl (Lo.sub_cons rfl (Lo.sub_cons rfl (Lo.sub_nil _))))
   ·replace hr := hr.neg hc1
    refine WC.exit ?_
    refine WE.thenExit ?_
    refine WE.thenExit ?_
    refine WE.exitHere ?_
    refine WE.endH ⟨bx2, Gm2⟩ ⟨Gm2le, hr⟩ (Fr.sub_cons rfl (Fr.sub_cons rfl (Fr.sub_nil _))) ?_
    ·intro w hs
     exact hs.weaken (Lo.sub_cons rfl (Lo.sub_cons rfl (Lo.sub_nil _)))
 ·rintro ⟨bx1, Gm1⟩ ⟨Gm1le, hr⟩
  refine WE.then <| sr <| yy (Y0.loadLA 2 ag48 rfl rfl (vecG_size _ _ _)) rfl ?_
  refine WL.storeLA 4 guard_none sz48 rfl rfl rfl (vecG_size _ _ _) (vecG_size _ _ _) (fun u hu => Rp.one (Rp.vec .i64 8) (G := Gm1) (x := bx1) (cs := vecG (Value.int .i64) 8 bx1) rfl u (by simpa using hu)) ?_
  refine nx ?_
  refine WC.ret ?_
  replace hr : _ = r := hr
  subst hr
  exact WE.ret1 rfl (RV.cellA (i := 4) ag48 rfl rfl (vecG_size _ _ _)) rfl
theorem L_R21_Meet (l1 : (List (Fin 8 → Int))) (m1 : (List (Fin 8 → Int))) (l1p : Option Addr) (l1c : Nat) (m1p : Option Addr) (m1c : Nat) (r : (List (Fin 8 → Int))) (hr : (R21_Meet l1 m1).Ret r) : Ctr Try.prog 26 #[.slice l1p l1.length l1c, .slice m1p m1.length m1c] (fun G => SlR (Rp.vec .i64 8) G (.slice l1p l1.length l1c) l1 ∧ SlR (Rp.vec .i64 8) G (.slice m1p m1.length m1c) m1) (fun G v => ∃ zp zc, v = .slice zp r.length zc ∧ SlR (Rp.vec .i64 8) G (.slice zp r.length zc) r) := by
 refine Ctr.enter (args := [_, _]) (N := 35) Try.func26 rfl rfl rfl (fun w0 G0 hL0 hpre => ?_)
 obtain ⟨l1h, m1h⟩ := hpre
 refine sr <| sg rfl rfl <| nr ?_
 refine WL.litR (e := 48) (r := (Rp.vec .i64 8)) (vs := #[]) (cs := []) ([] : List (Fin 8 → Int)) guard_none rfl rfl rfl rfl (by decide) (fun _ => by kernel_rfl) (rfl) (key := 999) rfl (by rw [hL0]; rfl) (fun p1 Gv1 Gv1le p1h => ?_)
 refine sg rfl rfl <| nx <| WC.seq <| sr <| sg rfl rfl <| nx ?_
 refine WC.meetH (fun (gx : (List (Fin 8 → Int)) × Option Addr × Nat × Option Ow × Mem) => match gx with | ⟨out1, out1p, out1c, out1tk, Gm1⟩ => [(5, .slice out1p out1.length out1c)]) (fun (gx : (List (Fin 8 → Int)) × Option Addr × Nat × Option Ow × Mem) => match gx with | ⟨out1, out1p, out1c, out1tk, Gm1⟩ => Mem.le Gv1 Gm1 ∧ SlR (Rp.vec .i64 8) Gm1 (.slice out1p out1.length out1c) out1 ∧ Tok 8 48 (.slice out1p out1.length out1c) out1.length out1tk ∧ (R21_Meet_k1 out1).Ret r) (fun (gx : (List (Fin 8 → Int)) × Option Addr × Nat × Option Ow × Mem) => match gx with | ⟨out1, out1p, out1c, out1tk, Gm1⟩ => St w0 G0 Gm1 [(1005, out1tk)]) ?_ ?_
 ·refine WC.block ?_
  let Phi1 : (((List (Fin 8 → Int)))) → Prop := fun oo => ((fun ov => match ov with | out1 => R21_Meet_k1 out1 : (((List (Fin 8 → Int)))) → Comp ((List (Fin 8 → Int)))) oo).wp (fun a => a = r)
  replace hr : (Comp.loop _ _).wp Phi1 := hr
  refine WC.loopR (Φ := Phi1) (fun (gx : (List (Fin 8 → Int)) × Option Addr × Nat × Option Ow × Int × Mem) => match gx with | ⟨out2, out2p, out2c, out2tk, i1, Gm2⟩ => ((out2, i1) : (List (Fin 8 → Int)) × Int)) (fun (gx : (List (Fin 8 → Int)) × Option Addr × Nat × Option Ow × Int × Mem) => match gx with | ⟨out2, out2p, out2c, out2tk, i1, Gm2⟩ => [(0, .slice l1p l1.length l1c), (1, .slice m1p m1.length m1c), (5, .slice out2p out2.length out2c), (6, .int .i64 i1)]) (fun (gx : (List (Fin 8 → Int)) × Option Addr × Nat × Option Ow × Int × Mem) => match gx with | ⟨out2, out2p, out2c, out2tk, i1, Gm2⟩ => Mem.le Gv1 Gm2 ∧ SlR (Rp.vec .i64 8) Gm2 (.slice out2p out2.length out2c) out2 ∧ Tok 8 48 (.slice out2p out2.length out2c) out2.length out2tk) (fun (gx : (List (Fin 8 → Int)) × Option Addr × Nat × Option Ow × Int × Mem) => match gx with | ⟨out2, out2p, out2c, out2tk, i1, Gm2⟩ => St w0 G0 Gm2 [(1005, out2tk)]) ⟨[], p1, 0, none, 0, Gv1⟩ hr (Fr.sub_cons rfl (Fr.sub_cons rfl (Fr.sub_cons rfl (Fr.sub_cons rfl (Fr.sub_nil _))))) ⟨(Mem.le_refl _), p1h, Tok.full⟩ ?_ ?_
  ·intro w hs
   exact hs.weaken (Lo.sub_no (Lo.sub_nil _))
  ·intro Aq1 gx hx hr
   obtain ⟨out2, out2p, out2c, out2tk, i1, Gm2⟩ := gx
   obtain ⟨Gm2le, out2h, out2ht⟩ := hx
   refine WC.seq <| sr <| mv rfl rfl <| mv rfl rfl <| yy (Y0.lenR Try.underlying28 (l1h.mono (Mem.le_trans Gv1le Gm2le)) rfl) rfl <| yy (Y0.lss rfl rfl) rfl ?_
   refine nx ?_
   refine WC.condD (p := i1 < (l1.length : Int)) rfl (fun hc1 => ?_) (fun hc1 => ?_)
   ·replace hr := hr.pos hc1
    refine WC.skip <| WE.then <| WC.seq <| WC.block <| sr <| sg rfl rfl ?_
    refine nx ?_
    refine WC.meetH (fun (gx : (List (Fin 8 → Int)) × Option Addr × Nat × Option Ow × Mem) => match gx with | ⟨out3, out3p, out3c, out3tk, Gm3⟩ => [(0, .slice l1p l1.length l1c), (1, .slice m1p m1.length m1c), (5, .slice out3p out3.length out3c), (6, .int .i64 i1)]) (fun (gx : (List (Fin 8 → Int)) × Option Addr × Nat × Option Ow × Mem) => match gx with | ⟨out3, out3p, out3c, out3tk, Gm3⟩ => Mem.le Gm2 Gm3 ∧ SlR (Rp.vec .i64 8) Gm3 (.slice out3p out3.length out3c) out3 ∧ Tok 8 48 (.slice out3p out3.length out3c) out3.length out3tk ∧ (R21_Meet_k3 i1 out3).wp (Out Aq1 Phi1)) (fun (gx : (List (Fin 8 → Int)) × Option Addr × Nat × Option Ow × Mem) => match gx with | ⟨out3, out3p, out3c, out3tk, Gm3⟩ => St w0 G0 Gm3 [(1005, out3tk)]) ?_ ?_
    ·refine WC.block ?_
     let Phi2 : (((List (Fin 8 → Int)))) → Prop := fun oo => ((fun ov => match ov with | out3 => R21_Meet_k3 i1 out3 : (((List (Fin 8 → Int)))) → Comp (((List (Fin 8 → Int)) × Int) ⊕ (((List (Fin 8 → Int)))))) oo).wp (Out Aq1 Phi1)
     replace hr : (Comp.loop _ _).wp Phi2 := hr
     refine WC.loopR (Φ := Phi2) (fun (gx : (List (Fin 8 → Int)) × Option Addr × Nat × Option Ow × Int × Mem) => match gx with | ⟨out4, out4p, out4c, out4tk, k1, Gm4⟩ => ((out4, k1) : (List (Fin 8 → Int)) × Int)) (fun (gx : (List (Fin 8 → Int)) × Option Addr × Nat × Option Ow × Int × Mem) => match gx with | ⟨out4, out4p, out4c, out4tk, k1, Gm4⟩ => [(0, .slice l1p l1.length l1c), (1, .slice m1p m1.length m1c), (5, .slice out4p out4.length out4c), (6, .int .i64 i1), (7, .int .i64 k1)]) (fun (gx : (List (Fin 8 → Int)) × Option Addr × Nat × Option Ow × Int × Mem) => match gx with | ⟨out4, out4p, out4c, out4tk, k1, Gm4⟩ => Mem.le Gm2 Gm4 ∧ SlR (Rp.vec .i64 8) Gm4 (.slice out4p out4.length out4c) out4 ∧ Tok 8 48 (.slice out4p out4.length out4c) out4.length out4tk) (fun (gx : (List (Fin 8 → Int)) × Option Addr × Nat × Option Ow × Int × Mem) => match gx with | ⟨out4, out4p, out4c, out4tk, k1, Gm4⟩ => St w0 G0 Gm4 [(1005, out4tk)]) ⟨out2, out2p, out2c, out2tk, 0, Gm2⟩ hr (Fr.sub_cons rfl (Fr.sub_cons rfl (Fr.sub_cons rfl (Fr.sub_cons rfl (Fr.sub_cons rfl (Fr.sub_nil _)))))) ⟨(Mem.le_refl _), out2h, out2ht⟩ ?_ ?_
     ·intro w hs
      exact hs.weaken (Lo.sub_cons rfl (Lo.sub_nil _))
     ·intro Aq2 gx hx hr
      obtain ⟨out4, out4p, out4c, out4tk, k1, Gm4⟩ := gx
      obtain ⟨Gm4le, out4h, out4ht⟩ := hx
      refine WC.seq <| sr <| mv rfl rfl <| mv rfl rfl <| yy (Y0.lenR Try.underlying28 (m1h.mono (Mem.le_trans (Mem.le_trans Gv1le Gm2le) Gm4le)) rfl) rfl <| yy (Y0.lss rfl rfl) rfl ?_
      refine nx ?_
      refine WC.condD (p := k1 < (m1.length : Int)) rfl (fun hc2 => ?_) (fun hc2 => ?_)
      ·replace hr := hr.pos hc2
       refine WC.skip <| WE.then <| WC.seq <| WC.block ?_
       refine WC.drawn [true, false, false, false, false, false, false, false, false, false] mix (by kernel_rfl) (fun hb => ?_)
       refine Chain.float guard_none (Y0.move rfl) ?_
       refine Chain.y0 guard_none (fun _ hle => Y0.move rfl) ?_
       refine Chain.y0 guard_none (fun _ hle => Y0.move rfl) ?_
       obtain ⟨x1, hx1, hr⟩ := hr
       refine Chain.y0 guard_none (fun _ hle => Y0.idxR Try.underlying28 sz48 ((l1h.mono (Mem.le_trans (Mem.le_trans Gv1le Gm2le) Gm4le)).mono hle) rfl rfl hx1) ?_
       refine Chain.y0 guard_none (fun _ hle => Y0.loadGA _ ag48 rfl (vecG_size _ _ _) (AtK.vec (At.mono (At.mono (SlR.at l1h hx1) (Mem.le_trans (Mem.le_trans Gv1le Gm2le) Gm4le)) hle))) ?_
       refine Chain.y0 guard_none (fun _ hle => Y0.move rfl) ?_
       refine Chain.y0 guard_none (fun _ hle => Y0.move rfl) ?_
       obtain ⟨x2, hx2, hr⟩ := hr
       refine Chain.y0 guard_none (fun _ hle => Y0.idxR Try.underlying28 sz48 ((m1h.mono (Mem.le_trans (Mem.le_trans Gv1le Gm2le) Gm4le)).mono hle) rfl rfl hx2) ?_
       refine Chain.y0 guard_none (fun _ hle => Y0.loadGA _ ag48 rfl (vecG_size _ _ _) (AtK.vec (At.mono (At.mono (SlR.at m1h hx2) (Mem.le_trans (Mem.le_trans Gv1le Gm2le) Gm4le)) hle))) ?_
       obtain ⟨yv2, hyv2, hr⟩ := hr
       refine Chain.call0 guard_none (fun _ => YC.of E54 rfl) (L_R04_Lcm _ _ _ hyv2) rfl (fun G' hle => trivial) ?_
       refine Chain.tail0 hb ?_
       refine WL.litR (e := 48) (r := (Rp.vec .i64 8)) (vs := #[(0, .agg (vecG (Value.int .i64) 8 yv2).toArray)]) (cs := (vecG (Value.int .i64) 8 yv2) ++ ([])) ([yv2] : List (Fin 8 → Int)) guard_none rfl rfl rfl rfl (by decide) (fun _ => by kernel_rfl) ⟨vecG (Value.int .i64) 8 yv2, [], rfl, rfl, rfl⟩ (key := 999) rfl (by rw [hL0]; rfl) (fun p2 Gv3 Gv3le p2h => ?_)
       obtain ⟨hsm1, hr⟩ := hr
       refine WL.appendR (r := (Rp.vec .i64 8)) 1005 guard_none rfl Try.underlying28 el48 rfl (by decide) rfl rfl (out4h.mono Gv3le) rfl (by rw [hL0]; rfl) out4ht p2h hsm1 (fun p3 p3c p3tk Gv4 Gv4le p3h p3ht => ?_)
       refine sg rfl rfl <| WL.nil ?_
       refine WE.nx ?_
       refine WE.inBlock ?_
       refine WE.then <| WC.region <| mv rfl rfl <| yy (Y0.add rfl rfl) rfl <| sg rfl rfl <| WL.nil ?_
       refine WE.backR ⟨(out4 ++ [yv2]), p3, p3c, p3tk, IntKind.i64.wrap (k1 + 1), Gv4⟩ hr ⟨(Mem.le_trans (Mem.le_trans Gm4le Gv3le) Gv4le), p3h, p3ht⟩ (Fr.sub_cons rfl (Fr.sub_cons rfl (Fr.sub_cons rfl (Fr.sub_cons rfl (Fr.sub_cons rfl (Fr.sub_nil _)))))) ?_
       ·intro w hs
        exact hs.weaken (Lo.sub_cons rfl (Lo.sub_nil _))
      ·replace hr := hr.neg hc2
       refine WC.exit ?_
       refine WE.thenExit ?_
       refine WE.thenExit ?_
       refine WE.exitHere ?_
       refine WE.endH ⟨out4, out4p, out4c, out4tk, Gm4⟩ ⟨Gm4le, out4h, out4ht, hr⟩ (Fr.sub_cons rfl (Fr.sub_cons rfl (Fr.sub_cons rfl (Fr.sub_cons rfl (Fr.sub_nil _))))) ?_
       ·intro w hs
        exact hs.weaken (Lo.sub_cons rfl (Lo.sub_nil _))
    ·rintro ⟨out3, out3p, out3c, out3tk, Gm3⟩ ⟨Gm3le, out3h, out3ht, hr⟩
     refine WE.inBlock ?_
     refine WE.then <| WC.region <| mv rfl rfl <| yy (Y0.add rfl rfl) rfl <| sg rfl rfl <| WL.nil ?_
     refine WE.backR ⟨out3, out3p, out3c, out3tk, IntKind.i64.wrap (i1 + 1), Gm3⟩ hr ⟨(Mem.le_trans Gm2le Gm3le), out3h, out3ht⟩ (Fr.sub_cons rfl (Fr.sub_cons rfl (Fr.sub_cons rfl (Fr.sub_cons rfl (Fr.sub_nil _))))) ?_
     ·intro w hs
      exact hs.weaken (Lo.sub_cons rfl (Lo.sub_nil _))
   ·replace hr := hr.neg hc1
    refine WC.exit ?_
    refine WE.thenExit ?_
    refine WE.thenExit ?_
    refine WE.exitHere ?_
    refine WE.endH ⟨out2, out2p, out2c, out2tk, Gm2⟩ ⟨Gm2le, out2h, out2ht, hr⟩ (Fr.sub_cons rfl (Fr.sub_nil _)) ?_
    ·intro w hs
     exact hs.weaken (Lo.sub_cons rfl (Lo.sub_nil _))
 ·rintro ⟨out1, out1p, out1c, out1tk, Gm1⟩ ⟨Gm1le, out1h, out1ht, hr⟩
  refine WE.then <| sr <| mv rfl rfl ?_
  obtain ⟨yv1, hyv1, hr⟩ := hr
  refine WL.call guard_none rfl (YC.of E30 rfl) (L_R04_Minimal _ _ _ _ hyv1) rfl (out1h) (fun yv1v Gv2 Gv2le yv1post => ?_)
  obtain ⟨yv1p, yv1c, rfl, yv1h⟩ := yv1post
  refine sg rfl rfl <| nx ?_
  refine WC.ret ?_
  replace hr : _ = r := hr
  subst hr
  exact WE.ret1 rfl rfl ⟨_, _, rfl, yv1h⟩
theorem L_R21_Primary (a0_1 : (List (Fin 8 → Int))) (a1_1 : Int) (a0_1p : Option Addr) (a0_1c : Nat) (r : (List T_api_Part) × Int) (hr : (R21_Primary a0_1 a1_1).Ret r) : Ctr Try.prog 21 #[.slice a0_1p a0_1.length a0_1c, .int .i64 a1_1] (fun G => SlR (Rp.vec .i64 8) G (.slice a0_1p a0_1.length a0_1c) a0_1) (fun G v => ∃ zr0p zr0c, v = .tuple #[.slice zr0p r.1.length zr0c, .int .i64 r.2] ∧ SlR rp_api_Part G (.slice zr0p r.1.length zr0c) r.1) := by
 refine Ctr.enter (args := [_, _]) (N := 69) Try.func21 rfl rfl rfl (fun w0 G0 hL0 hpre => ?_)
 have a0_1h := hpre
 refine sr <| sg rfl rfl <| sg rfl rfl <| nr <| mv rfl rfl <| mv rfl rfl ?_
 obtain ⟨yv1, hyv1, hr⟩ := hr
 refine WL.call guard_none rfl (YC.of E15 rfl) (L_R21_Irreducible _ _ _ _ _ hyv1) rfl (a0_1h) (fun yv1v Gv1 Gv1le yv1post => ?_)
 obtain ⟨yv1r0p, yv1r0c, rfl, yv1r0h⟩ := yv1post
 refine mv rfl rfl <| yy (Y0.extract rfl rfl) rfl <| yy (Y0.extract rfl rfl) rfl <| sg rfl rfl <| sg rfl rfl <| nr ?_
 refine mv rfl rfl <| mv rfl rfl ?_
 obtain ⟨yv2, hyv2, hr⟩ := hr
 refine WL.call guard_none rfl (YC.of E17 rfl) (L_R21_Primes _ _ _ _ _ hyv2) rfl ((a0_1h.mono Gv1le)) (fun yv2v Gv2 Gv2le yv2post => ?_)
 obtain ⟨yv2r0p, yv2r0c, rfl, yv2r0h⟩ := yv2post
 refine mv rfl rfl <| yy (Y0.extract rfl rfl) rfl <| yy (Y0.extract rfl rfl) rfl <| sg rfl rfl <| sg rfl rfl <| nr ?_
 refine WL.litR (e := 60) (r := rp_api_Part) (vs := #[]) (cs := []) ([] : List T_api_Part) guard_none rfl rfl rfl rfl (by decide) (fun _ => by kernel_rfl) (rfl) (key := 999) rfl (by rw [hL0]; rfl) (fun p1 Gv3 Gv3le p1h => ?_)
 refine sg rfl rfl <| nx <| WC.seq <| sr <| sg rfl rfl <| nx ?_
 refine WC.meetH (fun (gx : (List T_api_Part) × Option Addr × Nat × Option Ow × Mem) => match gx with | ⟨v10_1, v10_1p, v10_1c, v10_1tk, Gm1⟩ => [(7, .int .i64 yv1.2), (10, .slice v10_1p v10_1.length v10_1c)]) (fun (gx : (List T_api_Part) × Option Addr × Nat × Option Ow × Mem) => match gx with | ⟨v10_1, v10_1p, v10_1c, v10_1tk, Gm1⟩ => Mem.le Gv3 Gm1 ∧ SlR rp_api_Part Gm1 (.slice v10_1p v10_1.length v10_1c) v10_1 ∧ Tok 2 60 (.slice v10_1p v10_1.length v10_1c) v10_1.length v10_1tk ∧ (R21_Primary_k1 yv1 v10_1).Ret r) (fun (gx : (List T_api_Part) × Option Addr × Nat × Option Ow × Mem) => match gx with | ⟨v10_1, v10_1p, v10_1c, v10_1tk, Gm1⟩ => St w0 G0 Gm1 [(1010, v10_1tk)]) ?_ ?_
 ·refine WC.block ?_
  let Phi1 : (List T_api_Part) → Prop := fun oo => ((fun ov => match ov with | v10_1 => R21_Primary_k1 yv1 v10_1 : (List T_api_Part) → Comp ((List T_api_Part) × Int)) oo).wp (fun a => a = r)
  replace hr : (Comp.loop _ _).wp Phi1 := hr
  refine WC.loopR (Φ := Phi1) (fun (gx : (List T_api_Part) × Option Addr × Nat × Option Ow × Int × Mem) => match gx with | ⟨v10_2, v10_2p, v10_2c, v10_2tk, v11_1, Gm2⟩ => ((v10_2, v11_1) : (List T_api_Part) × Int)) (fun (gx : (List T_api_Part) × Option Addr × Nat × Option Ow × Int × Mem) => match gx with | ⟨v10_2, v10_2p, v10_2c, v10_2tk, v11_1, Gm2⟩ => [(6, .slice yv1r0p yv1.1.length yv1r0c), (7, .int .i64 yv1.2), (8, .slice yv2r0p yv2.1.length yv2r0c), (10, .slice v10_2p v10_2.length v10_2c), (11, .int .i64 v11_1)]) (fun (gx : (List T_api_Part) × Option Addr × Nat × Option Ow × Int × Mem) => match gx with | ⟨v10_2, v10_2p, v10_2c, v10_2tk, v11_1, Gm2⟩ => Mem.le Gv3 Gm2 ∧ SlR rp_api_Part Gm2 (.slice v10_2p v10_2.length v10_2c) v10_2 ∧ Tok 2 60 (.slice v10_2p v10_2.length v10_2c) v10_2.length v10_2tk) (fun (gx : (List T_api_Part) × Option Addr × Nat × Option Ow × Int × Mem) => match gx with | ⟨v10_2, v10_2p, v10_2c, v10_2tk, v11_1, Gm2⟩ => St w0 G0 Gm2 [(1010, v10_2tk)]) ⟨[], p1, 0, none, 0, Gv3⟩ hr (Fr.sub_cons rfl (Fr.sub_cons rfl (Fr.sub_cons rfl (Fr.sub_cons rfl (Fr.sub_cons rfl (Fr.sub_nil _)))))) ⟨(Mem.le_refl _), p1h, Tok.full⟩ ?_ ?_
  ·intro w hs
   exact hs.weaken (Lo.sub_no (Lo.sub_nil _))
  ·intro Aq1 gx hx hr
   obtain ⟨v10_2, v10_2p, v10_2c, v10_2tk, v11_1, Gm2⟩ := gx
   obtain ⟨Gm2le, v10_2h, v10_2ht⟩ := hx
   refine WC.seq <| sr <| mv rfl rfl <| mv rfl rfl <| yy (Y0.lenR Try.underlying33 (yv2r0h.mono (Mem.le_trans Gv3le Gm2le)) rfl) rfl <| yy (Y0.lss rfl rfl) rfl ?_
   refine nx ?_
   refine WC.condD (p := v11_1 < (yv2.1.length : Int)) rfl (fun hc1 => ?_) (fun hc1 => ?_)
   ·replace hr := hr.pos hc1
    refine WC.skip <| WE.then <| WC.seq <| WC.block <| sr <| yy (Y0.build (vs := #[]) (v := .agg (vecG (Value.int .i64) 8 (fun _ => 0)).toArray) rfl rfl (fun _ => by kernel_rfl)) rfl ?_
    refine WL.litR (e := 48) (r := (Rp.vec .i64 8)) (vs := #[(0, .agg (vecG (Value.int .i64) 8 (fun _ => 0)).toArray)]) (cs := (vecG (Value.int .i64) 8 (fun _ => 0)) ++ ([])) ([(fun _ => 0)] : List (Fin 8 → Int)) guard_none rfl rfl rfl rfl (by decide) (fun _ => by kernel_rfl) ⟨vecG (Value.int .i64) 8 (fun _ => 0), [], rfl, rfl, rfl⟩ (key := 999) rfl (by rw [hL0]; rfl) (fun p2 Gv4 Gv4le p2h => ?_)
    refine sg rfl rfl <| nx <| WC.seq <| sr <| sg rfl rfl <| nx ?_
    refine WC.meetH (fun (gx : (List (Fin 8 → Int)) × Option Addr × Nat × Mem) => match gx with | ⟨v12_1, v12_1p, v12_1c, Gm3⟩ => [(6, .slice yv1r0p yv1.1.length yv1r0c), (7, .int .i64 yv1.2), (8, .slice yv2r0p yv2.1.length yv2r0c), (10, .slice v10_2p v10_2.length v10_2c), (11, .int .i64 v11_1), (12, .slice v12_1p v12_1.length v12_1c)]) (fun (gx : (List (Fin 8 → Int)) × Option Addr × Nat × Mem) => match gx with | ⟨v12_1, v12_1p, v12_1c, Gm3⟩ => Mem.le Gv4 Gm3 ∧ SlR (Rp.vec .i64 8) Gm3 (.slice v12_1p v12_1.length v12_1c) v12_1 ∧ (R21_Primary_k3 yv2 v10_2 v11_1 v12_1).wp (Out Aq1 Phi1)) (fun (gx : (List (Fin 8 → Int)) × Option Addr × Nat × Mem) => match gx with | ⟨v12_1, v12_1p, v12_1c, Gm3⟩ => St w0 G0 Gm3 [(1010, v10_2tk)]) ?_ ?_
    ·refine WC.block ?_
     let Phi2 : (((List (Fin 8 → Int)))) → Prop := fun oo => ((fun ov => match ov with | v12_1 => R21_Primary_k3 yv2 v10_2 v11_1 v12_1 : (((List (Fin 8 → Int)))) → Comp (((List T_api_Part) × Int) ⊕ (List T_api_Part))) oo).wp (Out Aq1 Phi1)
     replace hr : (Comp.loop _ _).wp Phi2 := hr
     refine WC.loopR (Φ := Phi2) (fun (gx : (List (Fin 8 → Int)) × Option Addr × Nat × Int × Mem) => match gx with | ⟨v12_2, v12_2p, v12_2c, v13_1, Gm4⟩ => ((v12_2, v13_1) : (List (Fin 8 → Int)) × Int)) (fun (gx : (List (Fin 8 → Int)) × Option Addr × Nat × Int × Mem) => match gx with | ⟨v12_2, v12_2p, v12_2c, v13_1, Gm4⟩ => [(6, .slice yv1r0p yv1.1.length yv1r0c), (7, .int .i64 yv1.2), (8, .slice yv2r0p yv2.1.length yv2r0c), (10, .slice v10_2p v10_2.length v10_2c), (11, .int .i64 v11_1), (12, .slice v12_2p v12_2.length v12_2c), (13, .int .i64 v13_1)]) (fun (gx : (List (Fin 8 → Int)) × Option Addr × Nat × Int × Mem) => match gx with | ⟨v12_2, v12_2p, v12_2c, v13_1, Gm4⟩ => Mem.le Gv4 Gm4 ∧ SlR (Rp.vec .i64 8) Gm4 (.slice v12_2p v12_2.length v12_2c) v12_2) (fun (gx : (List (Fin 8 → Int)) × Option Addr × Nat × Int × Mem) => match gx with | ⟨v12_2, v12_2p, v12_2c, v13_1, Gm4⟩ => St w0 G0 Gm4 [(1010, v10_2tk)]) ⟨[(fun _ => 0)], p2, 1, 0, Gv4⟩ hr (Fr.sub_cons rfl (Fr.sub_cons rfl (Fr.sub_cons rfl (Fr.sub_cons rfl (Fr.sub_cons rfl (Fr.sub_cons rfl (Fr.sub_cons rfl (Fr.sub_nil _)))))))) ⟨(Mem.le_refl _), p2h⟩ ?_ ?_
     ·intro w hs
      exact hs.weaken (Lo.sub_cons rfl (Lo.sub_nil _))
     ·intro Aq2 gx hx hr
      obtain ⟨v12_2, v12_2p, v12_2c, v13_1, Gm4⟩ := gx
      obtain ⟨Gm4le, v12_2h⟩ := hx
      refine WC.seq <| sr <| mv rfl rfl <| mv rfl rfl <| yy (Y0.lenR Try.underlying28 (yv1r0h.mono (Mem.le_trans (Mem.le_trans (Mem.le_trans (Mem.le_trans Gv2le Gv3le) Gm2le) Gv4le) Gm4le)) rfl) rfl <| yy (Y0.lss rfl rfl) rfl ?_
      refine nx ?_
      refine WC.condD (p := v13_1 < (yv1.1.length : Int)) rfl (fun hc2 => ?_) (fun hc2 => ?_)
      ·replace hr := hr.pos hc2
       refine WC.skip <| WE.then <| WC.seq <| WC.block <| WC.seq ?_
       refine WC.drawn [false, false, false, false, false, false, false, false, false, false] mix (by kernel_rfl) (fun hb => ?_)
       refine Chain.y0 guard_none (fun _ hle => Y0.move rfl) ?_
       refine Chain.y0 guard_none (fun _ hle => Y0.move rfl) ?_
       obtain ⟨x2, hx2, hr⟩ := hr
       refine Chain.y0 guard_none (fun _ hle => Y0.idxR Try.underlying28 sz48 ((yv1r0h.mono (Mem.le_trans (Mem.le_trans (Mem.le_trans (Mem.le_trans Gv2le Gv3le) Gm2le) Gv4le) Gm4le)).mono hle) rfl rfl hx2) ?_
       refine Chain.y0 guard_none (fun _ hle => Y0.loadGA _ ag48 rfl (vecG_size _ _ _) (AtK.vec (At.mono (At.mono (SlR.at yv1r0h hx2) (Mem.le_trans (Mem.le_trans (Mem.le_trans (Mem.le_trans Gv2le Gv3le) Gm2le) Gv4le) Gm4le)) hle))) ?_
       obtain ⟨yv3, hyv3, hr⟩ := hr
       refine Chain.call0 guard_none (fun _ => YC.of E39 rfl) (L_R04_Support _ _ hyv3) rfl (fun G' hle => trivial) ?_
       refine Chain.y0 guard_none (fun _ hle => Y0.move rfl) ?_
       refine Chain.y0 guard_none (fun _ hle => Y0.move rfl) ?_
       obtain ⟨x3, hx3, hr⟩ := hr
       refine Chain.y0 guard_none (fun _ hle => Y0.idxR Try.underlying33 sz5 ((yv2r0h.mono (Mem.le_trans (Mem.le_trans (Mem.le_trans Gv3le Gm2le) Gv4le) Gm4le)).mono hle) rfl rfl hx3) ?_
       refine Chain.y0 guard_none (fun _ hle => Y0.loadG sc5 rfl (AtK.int (At.mono (At.mono (SlR.at yv2r0h hx3) (Mem.le_trans (Mem.le_trans (Mem.le_trans Gv3le Gm2le) Gv4le) Gm4le)) hle))) ?_
       refine Chain.y0 guard_none (fun _ hle => Y0.eql rfl rfl) ?_
       refine Chain.tail0 hb ?_
       refine WL.nil ?_
       refine WE.nx ?_
       refine WE.then ?_
       refine WC.condD (p := yv3 = x3) rfl (fun hc3 => ?_) (fun hc3 => ?_)
       ·replace hr := hr.pos hc3
        refine WC.region <| mv rfl rfl <| mv rfl rfl <| mv rfl rfl ?_
        obtain ⟨x4, hx4, hr⟩ := hr
        refine yy (Y0.idxR Try.underlying28 sz48 (yv1r0h.mono (Mem.le_trans (Mem.le_trans (Mem.le_trans (Mem.le_trans Gv2le Gv3le) Gm2le) Gv4le) Gm4le)) rfl rfl hx4) rfl <| yy (Y0.loadGA _ ag48 rfl (vecG_size _ _ _) (AtK.vec (At.mono (SlR.at yv1r0h hx4) (Mem.le_trans (Mem.le_trans (Mem.le_trans (Mem.le_trans Gv2le Gv3le) Gm2le) Gv4le) Gm4le)))) rfl ?_
        obtain ⟨yv4, hyv4, hr⟩ := hr
        refine WL.call guard_none rfl (YC.of E53 rfl) (L_R21_Gens _ _ hyv4) rfl (trivial) (fun yv4v Gv7 Gv7le yv4post => ?_)
        obtain ⟨yv4p, yv4c, rfl, yv4h⟩ := yv4post
        obtain ⟨yv5, hyv5, hr⟩ := hr
        refine WL.call guard_none rfl (YC.of E26 rfl) (L_R21_Meet _ _ _ _ _ _ _ hyv5) rfl (⟨(v12_2h.mono Gv7le), yv4h⟩) (fun yv5v Gv8 Gv8le yv5post => ?_)
        obtain ⟨yv5p, yv5c, rfl, yv5h⟩ := yv5post
        refine sg rfl rfl <| WL.nil ?_
        refine WE.inBlock ?_
        refine WE.then <| WC.region <| mv rfl rfl <| yy (Y0.add rfl rfl) rfl <| sg rfl rfl <| WL.nil ?_
        refine WE.backR ⟨yv5, yv5p, yv5c, IntKind.i64.wrap (v13_1 + 1), Gv8⟩ hr ⟨(Mem.le_trans (Mem.le_trans Gm4le Gv7le) Gv8le), yv5h⟩ (Fr.sub_cons rfl (Fr.sub_cons rfl (Fr.sub_cons rfl (Fr.sub_cons rfl (Fr.sub_cons rfl (Fr.sub_cons rfl (Fr.sub_cons rfl (Fr.sub_nil _)))))))) ?_
        ·intro w hs
         exact hs.weaken (Lo.sub_cons rfl (Lo.sub_nil _))
       ·replace hr := hr.neg hc3
        refine WC.skip ?_
        refine WE.inBlock ?_
        refine WE.then <| WC.region <| mv rfl rfl <| yy (Y0.add rfl rfl) rfl <| sg rfl rfl <| WL.nil ?_
        refine WE.backR ⟨v12_2, v12_2p, v12_2c, IntKind.i64.wrap (v13_1 + 1), Gm4⟩ hr ⟨Gm4le, v12_2h⟩ (Fr.sub_cons rfl (Fr.sub_cons rfl (Fr.sub_cons rfl (Fr.sub_cons rfl (Fr.sub_cons rfl (Fr.sub_cons rfl (Fr.sub_cons rfl (Fr.sub_nil _)))))))) ?_
        ·intro w hs
         exact hs.weaken (Lo.sub_cons rfl (Lo.sub_nil _))
      ·replace hr := hr.neg hc2
       refine WC.exit ?_
       refine WE.thenExit ?_
       refine WE.thenExit ?_
       refine WE.exitHere ?_
       refine WE.endH ⟨v12_2, v12_2p, v12_2c, Gm4⟩ ⟨Gm4le, v12_2h, hr⟩ (Fr.sub_cons rfl (Fr.sub_cons rfl (Fr.sub_cons rfl (Fr.sub_cons rfl (Fr.sub_cons rfl (Fr.sub_cons rfl (Fr.sub_nil _))))))) ?_
       ·intro w hs
        exact hs.weaken (Lo.sub_cons rfl (Lo.sub_nil _))
    ·rintro ⟨v12_1, v12_1p, v12_1c, Gm3⟩ ⟨Gm3le, v12_1h, hr⟩
     refine WE.then <| WC.region <| mv rfl rfl <| mv rfl rfl <| mv rfl rfl ?_
     obtain ⟨x1, hx1, hr⟩ := hr
     refine yy (Y0.idxR Try.underlying33 sz5 (yv2r0h.mono (Mem.le_trans (Mem.le_trans (Mem.le_trans Gv3le Gm2le) Gv4le) Gm3le)) rfl rfl hx1) rfl <| yy (Y0.loadG sc5 rfl (AtK.int (At.mono (SlR.at yv2r0h hx1) (Mem.le_trans (Mem.le_trans (Mem.le_trans Gv3le Gm2le) Gv4le) Gm3le)))) rfl ?_
     refine mv rfl rfl <| yy (Y0.build (vs := #[(0, .int .u8 x1), (1, .slice v12_1p v12_1.length v12_1c)]) (v := .agg ([.int .u8 x1, .slice v12_1p v12_1.length v12_1c]).toArray) rfl rfl (fun _ => by kernel_rfl)) rfl ?_
     refine WL.litR (e := 60) (r := rp_api_Part) (vs := #[(0, .agg ([.int .u8 x1, .slice v12_1p v12_1.length v12_1c]).toArray)]) (cs := [.int .u8 x1, .slice v12_1p v12_1.length v12_1c] ++ ([])) ([(T_api_Part.mk x1 v12_1)] : List T_api_Part) guard_none rfl rfl rfl rfl (by decide) (fun _ => by kernel_rfl) ⟨[.int .u8 x1, .slice v12_1p v12_1.length v12_1c], [], rfl, ⟨[.int .u8 x1], [.slice v12_1p v12_1.length v12_1c], rfl, rfl, ⟨_, rfl, v12_1h⟩⟩, rfl⟩ (key := 999) rfl (by rw [hL0]; rfl) (fun p3 Gv5 Gv5le p3h => ?_)
     obtain ⟨hsm1, hr⟩ := hr
     refine WL.appendR (r := rp_api_Part) 1010 guard_none rfl Try.underlying36 el60 rfl (by decide) rfl rfl (v10_2h.mono (Mem.le_trans (Mem.le_trans Gv4le Gm3le) Gv5le)) rfl (by rw [hL0]; rfl) v10_2ht p3h hsm1 (fun p4 p4c p4tk Gv6 Gv6le p4h p4ht => ?_)
     refine sg rfl rfl <| WL.nil ?_
     refine WE.inBlock ?_
     refine WE.then <| WC.region <| mv rfl rfl <| yy (Y0.add rfl rfl) rfl <| sg rfl rfl <| WL.nil ?_
     refine WE.backR ⟨(v10_2 ++ [(T_api_Part.mk x1 v12_1)]), p4, p4c, p4tk, IntKind.i64.wrap (v11_1 + 1), Gv6⟩ hr ⟨(Mem.le_trans (Mem.le_trans (Mem.le_trans (Mem.le_trans Gm2le Gv4le) Gm3le) Gv5le) Gv6le), p4h, p4ht⟩ (Fr.sub_cons rfl (Fr.sub_cons rfl (Fr.sub_cons rfl (Fr.sub_cons rfl (Fr.sub_cons rfl (Fr.sub_nil _)))))) ?_
     ·intro w hs
      exact hs.weaken (Lo.sub_cons rfl (Lo.sub_nil _))
   ·replace hr := hr.neg hc1
    refine WC.exit ?_
    refine WE.thenExit ?_
    refine WE.thenExit ?_
    refine WE.exitHere ?_
    refine WE.endH ⟨v10_2, v10_2p, v10_2c, v10_2tk, Gm2⟩ ⟨Gm2le, v10_2h, v10_2ht, hr⟩ (Fr.sub_cons rfl (Fr.sub_cons rfl (Fr.sub_nil _))) ?_
    ·intro w hs
     exact hs.weaken (Lo.sub_cons rfl (Lo.sub_nil _))
 ·rintro ⟨v10_1, v10_1p, v10_1c, v10_1tk, Gm1⟩ ⟨Gm1le, v10_1h, v10_1ht, hr⟩
  refine WE.then <| sr <| mv rfl rfl <| mv rfl rfl <| sg rfl rfl <| sg rfl rfl ?_
  refine nx ?_
  refine WC.ret ?_
  replace hr : _ = r := hr
  subst hr
  exact WE.ret2 rfl rfl rfl ⟨_, _, rfl, v10_1h⟩
theorem L_R21_Radical (l1 : (List (Fin 8 → Int))) (l1p : Option Addr) (l1c : Nat) (r : (List (Fin 8 → Int))) (hr : (R21_Radical l1).Ret r) : Ctr Try.prog 28 #[.slice l1p l1.length l1c] (fun G => SlR (Rp.vec .i64 8) G (.slice l1p l1.length l1c) l1) (fun G v => ∃ zp zc, v = .slice zp r.length zc ∧ SlR (Rp.vec .i64 8) G (.slice zp r.length zc) r) := by
 refine Ctr.enter (args := [_]) (N := 34) Try.func28 rfl rfl rfl (fun w0 G0 hL0 hpre => ?_)
 have l1h := hpre
 refine sr <| sg rfl rfl <| nr ?_
 refine WL.litR (e := 48) (r := (Rp.vec .i64 8)) (vs := #[]) (cs := []) ([] : List (Fin 8 → Int)) guard_none rfl rfl rfl rfl (by decide) (fun _ => by kernel_rfl) (rfl) (key := 999) rfl (by rw [hL0]; rfl) (fun p1 Gv1 Gv1le p1h => ?_)
 refine sg rfl rfl <| nx <| WC.seq <| sr <| sg rfl rfl <| nx ?_
 refine WC.meetH (fun (gx : (List (Fin 8 → Int)) × Option Addr × Nat × Option Ow × Mem) => match gx with | ⟨out1, out1p, out1c, out1tk, Gm1⟩ => [(3, .slice out1p out1.length out1c)]) (fun (gx : (List (Fin 8 → Int)) × Option Addr × Nat × Option Ow × Mem) => match gx with | ⟨out1, out1p, out1c, out1tk, Gm1⟩ => Mem.le Gv1 Gm1 ∧ SlR (Rp.vec .i64 8) Gm1 (.slice out1p out1.length out1c) out1 ∧ Tok 8 48 (.slice out1p out1.length out1c) out1.length out1tk ∧ (R21_Radical_k1 out1).Ret r) (fun (gx : (List (Fin 8 → Int)) × Option Addr × Nat × Option Ow × Mem) => match gx with | ⟨out1, out1p, out1c, out1tk, Gm1⟩ => St w0 G0 Gm1 [(1003, out1tk)]) ?_ ?_
 ·refine WC.block ?_
  let Phi1 : (((List (Fin 8 → Int)))) → Prop := fun oo => ((fun ov => match ov with | out1 => R21_Radical_k1 out1 : (((List (Fin 8 → Int)))) → Comp ((List (Fin 8 → Int)))) oo).wp (fun a => a = r)
  replace hr : (Comp.loop _ _).wp Phi1 := hr
  refine WC.loopR (Φ := Phi1) (fun (gx : (List (Fin 8 → Int)) × Option Addr × Nat × Option Ow × Int × Mem) => match gx with | ⟨out2, out2p, out2c, out2tk, i1, Gm2⟩ => ((out2, i1) : (List (Fin 8 → Int)) × Int)) (fun (gx : (List (Fin 8 → Int)) × Option Addr × Nat × Option Ow × Int × Mem) => match gx with | ⟨out2, out2p, out2c, out2tk, i1, Gm2⟩ => [(0, .slice l1p l1.length l1c), (3, .slice out2p out2.length out2c), (4, .int .i64 i1)]) (fun (gx : (List (Fin 8 → Int)) × Option Addr × Nat × Option Ow × Int × Mem) => match gx with | ⟨out2, out2p, out2c, out2tk, i1, Gm2⟩ => Mem.le Gv1 Gm2 ∧ SlR (Rp.vec .i64 8) Gm2 (.slice out2p out2.length out2c) out2 ∧ Tok 8 48 (.slice out2p out2.length out2c) out2.length out2tk) (fun (gx : (List (Fin 8 → Int)) × Option Addr × Nat × Option Ow × Int × Mem) => match gx with | ⟨out2, out2p, out2c, out2tk, i1, Gm2⟩ => St w0 G0 Gm2 [(1003, out2tk)]) ⟨[], p1, 0, none, 0, Gv1⟩ hr (Fr.sub_cons rfl (Fr.sub_cons rfl (Fr.sub_cons rfl (Fr.sub_nil _)))) ⟨(Mem.le_refl _), p1h, Tok.full⟩ ?_ ?_
  ·intro w hs
   exact hs.weaken (Lo.sub_no (Lo.sub_nil _))
  ·intro Aq1 gx hx hr
   obtain ⟨out2, out2p, out2c, out2tk, i1, Gm2⟩ := gx
   obtain ⟨Gm2le, out2h, out2ht⟩ := hx
   refine WC.seq <| sr <| mv rfl rfl <| mv rfl rfl <| yy (Y0.lenR Try.underlying28 (l1h.mono (Mem.le_trans Gv1le Gm2le)) rfl) rfl <| yy (Y0.lss rfl rfl) rfl ?_
   refine nx ?_
   refine WC.condD (p := i1 < (l1.length : Int)) rfl (fun hc1 => ?_) (fun hc1 => ?_)
   ·replace hr := hr.pos hc1
    refine WC.skip <| WE.then <| WC.seq <| WC.block <| sr <| yy (Y0.build (vs := #[]) (v := .agg (vecG (Value.int .i64) 8 (fun _ => 0)).toArray) rfl rfl (fun _ => by kernel_rfl)) rfl ?_
    refine WL.alloc 5 guard_none z48 rfl (fun b1 => ?_)
    refine WL.storeLA 5 guard_none sz48 rfl rfl rfl (vecG_size _ _ _) (vecG_size _ _ _) (fun u hu => Rp.one (Rp.vec .i64 8) (G := Gm2) (x := (fun _ => 0)) (cs := vecG (Value.int .i64) 8 (fun _ => 0)) rfl u (by simpa using hu)) ?_
    refine nx <| WC.seq <| sr <| sg rfl rfl <| nx ?_
    refine WC.meetH (fun (gx : (Fin 8 → Int) × Mem) => match gx with | ⟨bx1, Gm3⟩ => [(0, .slice l1p l1.length l1c), (3, .slice out2p out2.length out2c), (4, .int .i64 i1), (5, .pointer (some ⟨b1, 0, none⟩))]) (fun (gx : (Fin 8 → Int) × Mem) => match gx with | ⟨bx1, Gm3⟩ => Mem.le Gm2 Gm3 ∧ (R21_Radical_k3 out2 i1 bx1).wp (Out Aq1 Phi1)) (fun (gx : (Fin 8 → Int) × Mem) => match gx with | ⟨bx1, Gm3⟩ => St w0 G0 Gm3 [(5, some ⟨b1, .cells (vecG (Value.int .i64) 8 bx1).toArray 48 (0, 0), 0⟩), (1003, out2tk)]) ?_ ?_
    ·refine WC.block ?_
     let Phi2 : (Fin 8 → Int) → Prop := fun oo => ((fun ov => match ov with | bx1 => R21_Radical_k3 out2 i1 bx1 : (Fin 8 → Int) → Comp (((List (Fin 8 → Int)) × Int) ⊕ (((List (Fin 8 → Int)))))) oo).wp (Out Aq1 Phi1)
     replace hr : (Comp.loop _ _).wp Phi2 := hr
     refine WC.loopR (Φ := Phi2) (fun (gx : Int × (Fin 8 → Int) × Mem) => match gx with | ⟨k1, bx2, Gm4⟩ => ((k1, bx2) : Int × (Fin 8 → Int))) (fun (gx : Int × (Fin 8 → Int) × Mem) => match gx with | ⟨k1, bx2, Gm4⟩ => [(0, .slice l1p l1.length l1c), (3, .slice out2p out2.length out2c), (4, .int .i64 i1), (5, .pointer (some ⟨b1, 0, none⟩)), (6, .int .i64 k1)]) (fun (gx : Int × (Fin 8 → Int) × Mem) => match gx with | ⟨k1, bx2, Gm4⟩ => Mem.le Gm2 Gm4) (fun (gx : Int × (Fin 8 → Int) × Mem) => match gx with | ⟨k1, bx2, Gm4⟩ => St w0 G0 Gm4 [(5, some ⟨b1, .cells (vecG (Value.int .i64) 8 bx2).toArray 48 (0, 0), 0⟩), (1003, out2tk)]) ⟨0, (fun _ => 0), Gm2⟩ hr (Fr.sub_cons rfl (Fr.sub_cons rfl (Fr.sub_cons rfl (Fr.sub_cons rfl (Fr.sub_cons rfl (Fr.sub_nil _)))))) (Mem.le_refl _) ?_ ?_
     ·intro w hs
      exact hs.weaken (Lo.sub_cons rfl (Lo.sub_cons rfl (Lo.sub_nil _)))
     ·intro Aq2 gx hx hr
      obtain ⟨k1, bx2, Gm4⟩ := gx
      have Gm4le := hx
      refine WC.seq <| sr <| mv rfl rfl <| yy (Y0.lss rfl rfl) rfl <| nx ?_
      refine WC.condD (p := k1 < 8) rfl (fun hc2 => ?_) (fun hc2 => ?_)
      ·replace hr := hr.pos hc2
       refine WC.skip <| WE.then <| WC.seq <| WC.block <| WC.region <| mv rfl rfl ?_
       refine mv rfl rfl <| mv rfl rfl <| mv rfl rfl ?_
       obtain ⟨x1, hx1, hr⟩ := hr
       refine yy (Y0.idxR Try.underlying28 sz48 (l1h.mono (Mem.le_trans (Mem.le_trans Gv1le Gm2le) Gm4le)) rfl rfl hx1) rfl ?_
       obtain ⟨hi1, hr⟩ := hr
       refine yy (Y0.idxA Try.underlying48 sz3 rfl rfl hi1) rfl <| yy (Y0.loadG sc3 rfl (AtK.vecAt (At.mono (SlR.at l1h hx1) (Mem.le_trans (Mem.le_trans Gv1le Gm2le) Gm4le)) hi1)) rfl <| yy (Y0.min2 rfl rfl) rfl ?_
       obtain ⟨hi2, hr⟩ := hr
       refine yy (Y0.idxA0 Try.underlying48 sz3 rfl rfl hi2) rfl ?_
       refine WL.storeL 5 (vecG (Value.int .i64) 8 (setF bx2 k1.toNat (if 1 < (getF x1 k1) then 1 else (getF x1 k1)))).toArray guard_none sz3 rfl rfl rfl (by first | (rw [vecG_size]; omega) | (show _ < (vecG _ _ _).toArray.size; rw [vecG_size]; omega)) rfl (vecG_put _ _ _ _ _) ?_
       refine WL.nil ?_
       refine WE.inBlock ?_
       refine WE.then <| WC.region <| mv rfl rfl <| yy (Y0.add rfl rfl) rfl <| sg rfl rfl <| WL.nil ?_
       refine WE.backR ⟨IntKind.i64.wrap (k1 + 1), setF bx2 k1.toNat (if 1 < (getF x1 k1) then 1 else (getF x1 k1)), Gm4⟩ hr Gm4le (Fr.sub_cons rfl (Fr.sub_cons rfl (Fr.sub_cons rfl (Fr.sub_cons rfl (Fr.sub_cons rfl (Fr.sub_nil _)))))) ?_
       ·intro w hs
        exact hs.weaken (Lo.sub_cons rfl (Lo.sub_cons rfl (Lo.sub_nil _)))
      ·replace hr := hr.neg hc2
       refine WC.exit ?_
       refine WE.thenExit ?_
       refine WE.thenExit ?_
       refine WE.exitHere ?_
       refine WE.endH ⟨bx2, Gm4⟩ ⟨Gm4le, hr⟩ (Fr.sub_cons rfl (Fr.sub_cons rfl (Fr.sub_cons rfl (Fr.sub_cons rfl (Fr.sub_nil _))))) ?_
       ·intro w hs
        exact hs.weaken (Lo.sub_cons rfl (Lo.sub_cons rfl (Lo.sub_nil _)))
    ·rintro ⟨bx1, Gm3⟩ ⟨Gm3le, hr⟩
     refine WE.then <| WC.region <| mv rfl rfl <| yy (Y0.loadLA 5 ag48 rfl rfl (vecG_size _ _ _)) rfl ?_
     refine WL.litR (e := 48) (r := (Rp.vec .i64 8)) (vs := #[(0, .agg (vecG (Value.int .i64) 8 bx1).toArray)]) (cs := (vecG (Value.int .i64) 8 bx1) ++ ([])) ([bx1] : List (Fin 8 → Int)) guard_none rfl rfl rfl rfl (by decide) (fun _ => by kernel_rfl) ⟨vecG (Value.int .i64) 8 bx1, [], rfl, rfl, rfl⟩ (key := 999) rfl (by rw [hL0]; rfl) (fun p2 Gv3 Gv3le p2h => ?_)
     obtain ⟨hsm1, hr⟩ := hr
     refine WL.appendR (r := (Rp.vec .i64 8)) 1003 guard_none rfl Try.underlying28 el48 rfl (by decide) rfl rfl (out2h.mono (Mem.le_trans Gm3le Gv3le)) rfl (by rw [hL0]; rfl) out2ht p2h hsm1 (fun p3 p3c p3tk Gv4 Gv4le p3h p3ht => ?_)
     refine sg rfl rfl <| WL.nil ?_
     refine WE.inBlock ?_
     refine WE.then <| WC.region <| mv rfl rfl <| yy (Y0.add rfl rfl) rfl <| sg rfl rfl <| WL.nil ?_
     refine WE.backR ⟨(out2 ++ [bx1]), p3, p3c, p3tk, IntKind.i64.wrap (i1 + 1), Gv4⟩ hr ⟨(Mem.le_trans (Mem.le_trans (Mem.le_trans Gm2le Gm3le) Gv3le) Gv4le), p3h, p3ht⟩ (Fr.sub_cons rfl (Fr.sub_cons rfl (Fr.sub_cons rfl (Fr.sub_nil _)))) ?_
     ·intro w hs
      exact hs.weaken (Lo.sub_cons rfl (Lo.sub_nil _))
   ·replace hr := hr.neg hc1
    refine WC.exit ?_
    refine WE.thenExit ?_
    refine WE.thenExit ?_
    refine WE.exitHere ?_
    refine WE.endH ⟨out2, out2p, out2c, out2tk, Gm2⟩ ⟨Gm2le, out2h, out2ht, hr⟩ (Fr.sub_cons rfl (Fr.sub_nil _)) ?_
    ·intro w hs
     exact hs.weaken (Lo.sub_cons rfl (Lo.sub_nil _))
 ·rintro ⟨out1, out1p, out1c, out1tk, Gm1⟩ ⟨Gm1le, out1h, out1ht, hr⟩
  refine WE.then <| sr <| mv rfl rfl ?_
  obtain ⟨yv1, hyv1, hr⟩ := hr
  refine WL.call guard_none rfl (YC.of E30 rfl) (L_R04_Minimal _ _ _ _ hyv1) rfl (out1h) (fun yv1v Gv2 Gv2le yv1post => ?_)
  obtain ⟨yv1p, yv1c, rfl, yv1h⟩ := yv1post
  refine sg rfl rfl <| nx ?_
  refine WC.ret ?_
  replace hr : _ = r := hr
  subst hr
  exact WE.ret1 rfl rfl ⟨_, _, rfl, yv1h⟩
theorem L_law21_ComponentsMatchReference (a0_1 : T_law21_Input) (a1_1 : (List (Fin 4 → Int))) (a0_1lp : Option Addr) (a0_1lc : Nat) (a1_1p : Option Addr) (a1_1c : Nat) (r : Bool) (hr : (law21_ComponentsMatchReference a0_1 a1_1).Ret r) : Ctr Try.prog 3 #[.agg ([.slice a0_1lp a0_1.l.length a0_1lc, .int .u8 a0_1.n]).toArray, .slice a1_1p a1_1.length a1_1c] (fun G => SlR (Rp.vec .u8 4) G (.slice a0_1lp a0_1.l.length a0_1lc) a0_1.l ∧ SlR (Rp.vec .u8 4) G (.slice a1_1p a1_1.length a1_1c) a1_1) (fun G v => v = .bool r) := by
 refine Ctr.enter (args := [_, _]) (N := 144) Try.func3 rfl rfl rfl (fun w0 G0 hL0 hpre => ?_)
 obtain ⟨a0_1lh, a1_1h⟩ := hpre
 refine sr ?_
 refine WL.box 2 guard_none rfl rfl (fun b1 => ?_)
 refine sg rfl rfl <| nr ?_
 obtain ⟨yv1, hyv1, hr⟩ := hr
 refine WL.call0 guard_none rfl (YC.of E11 rfl) (L_law21_sanity _ hyv1) rfl (trivial) ?_
 refine sg rfl rfl <| nx <| WC.seq <| sr <| mv rfl rfl <| yy (Y0.not rfl) rfl ?_
 refine nx ?_
 refine WC.cond (b := !yv1) rfl (fun hc1 => ?_) (fun hc1 => ?_)
 ·replace hr := hr.pos hc1
  refine sr <| sg rfl rfl <| nx ?_
  refine WC.ret ?_
  replace hr : _ = r := hr
  refine WE.thenRet ?_
  subst hr
  exact WE.ret1 rfl rfl rfl
 ·replace hr := hr.neg (Bool.eq_false_iff.1 hc1)
  refine WC.skip <| WE.then <| sr <| yy (Y0.loadLA 2 ag25 rfl rfl rfl) rfl ?_
  obtain ⟨yv2, hyv2, hr⟩ := hr
  refine WL.call0 guard_none rfl (YC.of E12 rfl) (L_law21_vars _ _ _ _ hyv2) rfl (a0_1lh) ?_
  refine sg rfl rfl <| nr <| yy (Y0.fieldAddr Try.underlying25 rfl (fun _ => by kernel_rfl) rfl) rfl <| yy (Y0.loadL 2 sc23 rfl rfl rfl) rfl <| mv rfl rfl ?_
  obtain ⟨yv3, hyv3, hr⟩ := hr
  refine WL.call guard_none rfl (YC.of E13 rfl) (L_R18_Made _ _ _ _ _ _ _ hyv3) rfl (a0_1lh) (fun yv3v Gv3 Gv3le yv3post => ?_)
  obtain ⟨yv3p, yv3c, rfl, yv3h⟩ := yv3post
  refine mv rfl rfl <| mv rfl rfl ?_
  obtain ⟨yv4, hyv4, hr⟩ := hr
  refine WL.call guard_none rfl (YC.of E13 rfl) (L_R18_Made _ _ _ _ _ _ _ hyv4) rfl ((a1_1h.mono Gv3le)) (fun yv4v Gv4 Gv4le yv4post => ?_)
  obtain ⟨yv4p, yv4c, rfl, yv4h⟩ := yv4post
  refine sg rfl rfl <| sg rfl rfl <| nr <| mv rfl rfl <| mv rfl rfl ?_
  obtain ⟨yv5, hyv5, hr⟩ := hr
  refine WL.call guard_none rfl (YC.of E14 rfl) (L_components_Irreducible _ _ _ _ _ hyv5) rfl ((yv3h.mono Gv4le)) (fun yv5v Gv5 Gv5le yv5post => ?_)
  obtain ⟨yv5r0p, yv5r0c, rfl, yv5r0h⟩ := yv5post
  refine mv rfl rfl <| yy (Y0.extract rfl rfl) rfl <| yy (Y0.extract rfl rfl) rfl <| sg rfl rfl <| sg rfl rfl <| nr ?_
  refine mv rfl rfl <| mv rfl rfl ?_
  obtain ⟨yv6, hyv6, hr⟩ := hr
  refine WL.call guard_none rfl (YC.of E15 rfl) (L_R21_Irreducible _ _ _ _ _ hyv6) rfl ((yv3h.mono (Mem.le_trans Gv4le Gv5le))) (fun yv6v Gv6 Gv6le yv6post => ?_)
  obtain ⟨yv6r0p, yv6r0c, rfl, yv6r0h⟩ := yv6post
  refine mv rfl rfl <| yy (Y0.extract rfl rfl) rfl <| yy (Y0.extract rfl rfl) rfl <| sg rfl rfl <| sg rfl rfl <| nr ?_
  refine mv rfl rfl <| mv rfl rfl ?_
  obtain ⟨yv7, hyv7, hr⟩ := hr
  refine WL.call guard_none rfl (YC.of E16 rfl) (L_components_Primes _ _ _ _ _ hyv7) rfl ((yv3h.mono (Mem.le_trans (Mem.le_trans Gv4le Gv5le) Gv6le))) (fun yv7v Gv7 Gv7le yv7post => ?_)
  obtain ⟨yv7r0p, yv7r0c, rfl, yv7r0h⟩ := yv7post
  refine mv rfl rfl <| yy (Y0.extract rfl rfl) rfl <| yy (Y0.extract rfl rfl) rfl <| sg rfl rfl <| sg rfl rfl <| nr ?_
  refine mv rfl rfl <| mv rfl rfl ?_
  obtain ⟨yv8, hyv8, hr⟩ := hr
  refine WL.call guard_none rfl (YC.of E17 rfl) (L_R21_Primes _ _ _ _ _ hyv8) rfl ((yv3h.mono (Mem.le_trans (Mem.le_trans (Mem.le_trans Gv4le Gv5le) Gv6le) Gv7le))) (fun yv8v Gv8 Gv8le yv8post => ?_)
  obtain ⟨yv8r0p, yv8r0c, rfl, yv8r0h⟩ := yv8post
  refine mv rfl rfl <| yy (Y0.extract rfl rfl) rfl <| yy (Y0.extract rfl rfl) rfl <| sg rfl rfl <| sg rfl rfl <| nr ?_
  refine mv rfl rfl <| mv rfl rfl ?_
  obtain ⟨yv9, hyv9, hr⟩ := hr
  refine WL.call guard_none rfl (YC.of E18 rfl) (L_components_Embedded _ _ _ _ _ hyv9) rfl ((yv3h.mono (Mem.le_trans (Mem.le_trans (Mem.le_trans (Mem.le_trans Gv4le Gv5le) Gv6le) Gv7le) Gv8le))) (fun yv9v Gv9 Gv9le yv9post => ?_)
  obtain ⟨yv9r0p, yv9r0c, rfl, yv9r0h⟩ := yv9post
  refine mv rfl rfl <| yy (Y0.extract rfl rfl) rfl <| yy (Y0.extract rfl rfl) rfl <| sg rfl rfl <| sg rfl rfl <| nr ?_
  refine mv rfl rfl <| mv rfl rfl ?_
  obtain ⟨yv10, hyv10, hr⟩ := hr
  refine WL.call guard_none rfl (YC.of E19 rfl) (L_R21_Embedded _ _ _ _ _ hyv10) rfl ((yv3h.mono (Mem.le_trans (Mem.le_trans (Mem.le_trans (Mem.le_trans (Mem.le_trans Gv4le Gv5le) Gv6le) Gv7le) Gv8le) Gv9le))) (fun yv10v Gv10 Gv10le yv10post => ?_)
  obtain ⟨yv10r0p, yv10r0c, rfl, yv10r0h⟩ := yv10post
  refine mv rfl rfl <| yy (Y0.extract rfl rfl) rfl <| yy (Y0.extract rfl rfl) rfl <| sg rfl rfl <| sg rfl rfl <| nr ?_
  refine mv rfl rfl <| mv rfl rfl ?_
  obtain ⟨yv11, hyv11, hr⟩ := hr
  refine WL.call guard_none rfl (YC.of E20 rfl) (L_components_Primary _ _ _ _ _ hyv11) rfl ((yv3h.mono (Mem.le_trans (Mem.le_trans (Mem.le_trans (Mem.le_trans (Mem.le_trans (Mem.le_trans Gv4le Gv5le) Gv6le) Gv7le) Gv8le) Gv9le) Gv10le))) (fun yv11v Gv11 Gv11le yv11post => ?_)
  obtain ⟨yv11r0p, yv11r0c, rfl, yv11r0h⟩ := yv11post
  refine mv rfl rfl <| yy (Y0.extract rfl rfl) rfl <| yy (Y0.extract rfl rfl) rfl <| sg rfl rfl <| sg rfl rfl <| nr ?_
  refine mv rfl rfl <| mv rfl rfl ?_
  obtain ⟨yv12, hyv12, hr⟩ := hr
  refine WL.call guard_none rfl (YC.of E21 rfl) (L_R21_Primary _ _ _ _ _ hyv12) rfl ((yv3h.mono (Mem.le_trans (Mem.le_trans (Mem.le_trans (Mem.le_trans (Mem.le_trans (Mem.le_trans (Mem.le_trans Gv4le Gv5le) Gv6le) Gv7le) Gv8le) Gv9le) Gv10le) Gv11le))) (fun yv12v Gv12 Gv12le yv12post => ?_)
  obtain ⟨yv12r0p, yv12r0c, rfl, yv12r0h⟩ := yv12post
  refine mv rfl rfl <| yy (Y0.extract rfl rfl) rfl <| yy (Y0.extract rfl rfl) rfl <| sg rfl rfl <| sg rfl rfl <| nx ?_
  refine WC.seqH (fun (gx : Bool × Mem) => match gx with | ⟨v25_1, Gm1⟩ => [(5, .bool yv1), (7, .slice yv3p yv3.length yv3c), (8, .slice yv4p yv4.length yv4c), (9, .slice yv5r0p yv5.1.length yv5r0c), (11, .slice yv6r0p yv6.1.length yv6r0c), (13, .slice yv7r0p yv7.1.length yv7r0c), (15, .slice yv8r0p yv8.1.length yv8r0c), (17, .slice yv9r0p yv9.1.length yv9r0c), (19, .slice yv10r0p yv10.1.length yv10r0c), (21, .slice yv11r0p yv11.1.length yv11r0c), (23, .slice yv12r0p yv12.1.length yv12r0c), (25, .bool v25_1)]) (fun (gx : Bool × Mem) => match gx with | ⟨v25_1, Gm1⟩ => Mem.le Gv12 Gm1 ∧ (law21_ComponentsMatchReference_k1 yv1 yv3 yv4 yv5 yv6 yv7 yv8 yv9 yv10 yv11 yv12 v25_1).Ret r) (fun (gx : Bool × Mem) => match gx with | ⟨v25_1, Gm1⟩ => St w0 G0 Gm1 []) ?_ ?_
  ·skip
   refine WC.region <| mv rfl rfl <| mv rfl rfl ?_
   refine WL.caseY0 (p := yv5.2 = yv6.2) guard_none (Y0.eql rfl rfl) rfl (fun hb2 => ?_) (fun hb2 => ?_)
   ·replace hr := hr.pos hb2
    refine mv rfl rfl ?_
    refine WL.y0' (guard_yes rfl rfl) (Y0.move rfl) rfl ?_
    refine WL.y0' (guard_yes rfl rfl) (Y0.move rfl) rfl ?_
    refine WL.caseY0 (p := yv7.2 = yv8.2) (guard_yes rfl rfl) (Y0.eql rfl rfl) rfl (fun hb3 => ?_) (fun hb3 => ?_)
    ·replace hr := hr.pos hb3
     refine yy (Y0.pickT rfl rfl) rfl <| mv rfl rfl ?_
     refine WL.y0' (guard_yes rfl rfl) (Y0.move rfl) rfl ?_
     refine WL.y0' (guard_yes rfl rfl) (Y0.move rfl) rfl ?_
     refine WL.caseY0 (p := yv9.2 = yv10.2) (guard_yes rfl rfl) (Y0.eql rfl rfl) rfl (fun hb4 => ?_) (fun hb4 => ?_)
     ·replace hr := hr.pos hb4
      refine yy (Y0.pickT rfl rfl) rfl <| mv rfl rfl ?_
      refine WL.y0' (guard_yes rfl rfl) (Y0.move rfl) rfl ?_
      refine WL.y0' (guard_yes rfl rfl) (Y0.move rfl) rfl ?_
      refine WL.y0' (guard_yes rfl rfl) (Y0.eql rfl rfl) rfl ?_
      refine yy (Y0.pickT rfl rfl) rfl <| sg rfl rfl <| WL.nil ?_
      refine WE.midH ⟨decide (yv11.2 = yv12.2), Gv12⟩ ⟨(Mem.le_refl _), hr⟩ (Fr.sub_cons rfl (Fr.sub_cons rfl (Fr.sub_cons rfl (Fr.sub_cons rfl (Fr.sub_cons rfl (Fr.sub_cons rfl (Fr.sub_cons rfl (Fr.sub_cons rfl (Fr.sub_cons rfl (Fr.sub_cons rfl (Fr.sub_cons rfl (Fr.sub_cons rfl (Fr.sub_nil _))))))))))))) ?_
      ·intro w hs
       exact hs.weaken (Lo.sub_nil _)
     ·replace hr := hr.neg hb4
      refine yy (Y0.pickT rfl rfl) rfl <| mv rfl rfl <| sk rfl rfl rfl <| sk rfl rfl rfl <| sk rfl rfl rfl <| yy (Y0.pickF rfl rfl) rfl ?_
      refine sg rfl rfl <| WL.nil ?_
      refine WE.midH ⟨false, Gv12⟩ ⟨(Mem.le_refl _), hr⟩ (Fr.sub_cons rfl (Fr.sub_cons rfl (Fr.sub_cons rfl (Fr.sub_cons rfl (Fr.sub_cons rfl (Fr.sub_cons rfl (Fr.sub_cons rfl (Fr.sub_cons rfl (Fr.sub_cons rfl (Fr.sub_cons rfl (Fr.sub_cons rfl (Fr.sub_cons rfl (Fr.sub_nil _))))))))))))) ?_
      ·intro w hs
       exact hs.weaken (Lo.sub_nil _)
    ·replace hr := hr.neg hb3
     refine yy (Y0.pickT rfl rfl) rfl <| mv rfl rfl <| sk rfl rfl rfl <| sk rfl rfl rfl <| sk rfl rfl rfl <| yy (Y0.pickF rfl rfl) rfl ?_
     refine mv rfl rfl <| sk rfl rfl rfl <| sk rfl rfl rfl <| sk rfl rfl rfl <| yy (Y0.pickF rfl rfl) rfl <| sg rfl rfl ?_
     refine WL.nil ?_
     refine WE.midH ⟨false, Gv12⟩ ⟨(Mem.le_refl _), hr⟩ (Fr.sub_cons rfl (Fr.sub_cons rfl (Fr.sub_cons rfl (Fr.sub_cons rfl (Fr.sub_cons rfl (Fr.sub_cons rfl (Fr.sub_cons rfl (Fr.sub_cons rfl (Fr.sub_cons rfl (Fr.sub_cons rfl (Fr.sub_cons rfl (Fr.sub_cons rfl (Fr.sub_nil _))))))))))))) ?_
     ·intro w hs
      exact hs.weaken (Lo.sub_nil _)
   ·replace hr := hr.neg hb2
    refine mv rfl rfl <| sk rfl rfl rfl <| sk rfl rfl rfl <| sk rfl rfl rfl <| yy (Y0.pickF rfl rfl) rfl <| mv rfl rfl ?_
    refine sk rfl rfl rfl <| sk rfl rfl rfl <| sk rfl rfl rfl <| yy (Y0.pickF rfl rfl) rfl <| mv rfl rfl <| sk rfl rfl rfl ?_
    refine sk rfl rfl rfl <| sk rfl rfl rfl <| yy (Y0.pickF rfl rfl) rfl <| sg rfl rfl <| WL.nil ?_
    refine WE.midH ⟨false, Gv12⟩ ⟨(Mem.le_refl _), hr⟩ (Fr.sub_cons rfl (Fr.sub_cons rfl (Fr.sub_cons rfl (Fr.sub_cons rfl (Fr.sub_cons rfl (Fr.sub_cons rfl (Fr.sub_cons rfl (Fr.sub_cons rfl (Fr.sub_cons rfl (Fr.sub_cons rfl (Fr.sub_cons rfl (Fr.sub_cons rfl (Fr.sub_nil _))))))))))))) ?_
    ·intro w hs
     exact hs.weaken (Lo.sub_nil _)
  ·rintro ⟨v25_1, Gm1⟩ ⟨Gm1le, hr⟩
   refine sr ?_
   refine WL.caseY0 (p := v25_1 = true) guard_none (Y0.eq (Y0.move rfl) (congrArg Value.bool (bdec _))) rfl (fun hb1 => ?_) (fun hb1 => ?_)
   ·replace hr := hr.pos hb1
    refine mv rfl rfl ?_
    refine WL.y0' (guard_yes rfl rfl) (Y0.move rfl) rfl ?_
    refine WL.y0' (guard_yes rfl rfl) (Y0.move rfl) rfl ?_
    obtain ⟨yv13, hyv13, hr⟩ := hr
    refine WL.call0 (guard_yes rfl rfl) rfl (YC.of E22 rfl) (L_R04_Same _ _ _ _ _ _ _ hyv13) rfl (⟨(yv5r0h.mono (Mem.le_trans (Mem.le_trans (Mem.le_trans (Mem.le_trans (Mem.le_trans (Mem.le_trans (Mem.le_trans Gv6le Gv7le) Gv8le) Gv9le) Gv10le) Gv11le) Gv12le) Gm1le)), (yv6r0h.mono (Mem.le_trans (Mem.le_trans (Mem.le_trans (Mem.le_trans (Mem.le_trans (Mem.le_trans Gv7le Gv8le) Gv9le) Gv10le) Gv11le) Gv12le) Gm1le))⟩) ?_
    cases yv13
    ·skip
     refine yy (Y0.pickT rfl rfl) rfl <| mv rfl rfl <| sk rfl rfl rfl <| sk rfl rfl rfl <| sk rfl rfl rfl <| yy (Y0.pickF rfl rfl) rfl ?_
     refine mv rfl rfl <| sk rfl rfl rfl <| sk rfl rfl rfl <| sk rfl rfl rfl <| yy (Y0.pickF rfl rfl) rfl <| mv rfl rfl ?_
     refine sk rfl rfl rfl <| sk rfl rfl rfl <| sk rfl rfl rfl <| yy (Y0.pickF rfl rfl) rfl <| mv rfl rfl <| sk rfl rfl rfl ?_
     refine sk rfl rfl rfl <| sk rfl rfl rfl <| sk rfl rfl rfl <| sk rfl rfl rfl <| sk rfl rfl rfl <| sk rfl rfl rfl ?_
     refine yy (Y0.pickF rfl rfl) rfl <| mv rfl rfl <| sk rfl rfl rfl <| sk rfl rfl rfl <| sk rfl rfl rfl <| sk rfl rfl rfl ?_
     refine sk rfl rfl rfl <| yy (Y0.pickF rfl rfl) rfl <| mv rfl rfl <| sk rfl rfl rfl <| yy (Y0.pickF rfl rfl) rfl <| sg rfl rfl ?_
     refine nx ?_
     refine WC.ret ?_
     replace hr : _ = r := hr
     subst hr
     exact WE.ret1 rfl rfl rfl
    ·skip
     refine yy (Y0.pickT rfl rfl) rfl <| mv rfl rfl ?_
     refine WL.y0' (guard_yes rfl rfl) (Y0.move rfl) rfl ?_
     refine WL.y0' (guard_yes rfl rfl) (Y0.move rfl) rfl ?_
     obtain ⟨yv14, hyv14, hr⟩ := hr
     refine WL.call0 (guard_yes rfl rfl) rfl (YC.of E23 rfl) (L_R18_SameSets _ _ _ _ _ _ _ hyv14) rfl (⟨(yv7r0h.mono (Mem.le_trans (Mem.le_trans (Mem.le_trans (Mem.le_trans (Mem.le_trans Gv8le Gv9le) Gv10le) Gv11le) Gv12le) Gm1le)), (yv8r0h.mono (Mem.le_trans (Mem.le_trans (Mem.le_trans (Mem.le_trans Gv9le Gv10le) Gv11le) Gv12le) Gm1le))⟩) ?_
     cases yv14
     ·skip
      refine yy (Y0.pickT rfl rfl) rfl <| mv rfl rfl <| sk rfl rfl rfl <| sk rfl rfl rfl <| sk rfl rfl rfl <| yy (Y0.pickF rfl rfl) rfl ?_
      refine mv rfl rfl <| sk rfl rfl rfl <| sk rfl rfl rfl <| sk rfl rfl rfl <| yy (Y0.pickF rfl rfl) rfl <| mv rfl rfl ?_
      refine sk rfl rfl rfl <| sk rfl rfl rfl <| sk rfl rfl rfl <| sk rfl rfl rfl <| sk rfl rfl rfl <| sk rfl rfl rfl ?_
      refine sk rfl rfl rfl <| yy (Y0.pickF rfl rfl) rfl <| mv rfl rfl <| sk rfl rfl rfl <| sk rfl rfl rfl <| sk rfl rfl rfl ?_
      refine sk rfl rfl rfl <| sk rfl rfl rfl <| yy (Y0.pickF rfl rfl) rfl <| mv rfl rfl <| sk rfl rfl rfl <| yy (Y0.pickF rfl rfl) rfl ?_
      refine sg rfl rfl <| nx ?_
      refine WC.ret ?_
      replace hr : _ = r := hr
      subst hr
      exact WE.ret1 rfl rfl rfl
     ·skip
      refine yy (Y0.pickT rfl rfl) rfl <| mv rfl rfl ?_
      refine WL.y0' (guard_yes rfl rfl) (Y0.move rfl) rfl ?_
      refine WL.y0' (guard_yes rfl rfl) (Y0.move rfl) rfl ?_
      obtain ⟨yv15, hyv15, hr⟩ := hr
      refine WL.call0 (guard_yes rfl rfl) rfl (YC.of E23 rfl) (L_R18_SameSets _ _ _ _ _ _ _ hyv15) rfl (⟨(yv9r0h.mono (Mem.le_trans (Mem.le_trans (Mem.le_trans Gv10le Gv11le) Gv12le) Gm1le)), (yv10r0h.mono (Mem.le_trans (Mem.le_trans Gv11le Gv12le) Gm1le))⟩) ?_
      cases yv15
      ·skip
       refine yy (Y0.pickT rfl rfl) rfl <| mv rfl rfl <| sk rfl rfl rfl <| sk rfl rfl rfl <| sk rfl rfl rfl <| yy (Y0.pickF rfl rfl) rfl ?_
       refine mv rfl rfl <| sk rfl rfl rfl <| sk rfl rfl rfl <| sk rfl rfl rfl <| sk rfl rfl rfl <| sk rfl rfl rfl ?_
       refine sk rfl rfl rfl <| sk rfl rfl rfl <| yy (Y0.pickF rfl rfl) rfl <| mv rfl rfl <| sk rfl rfl rfl <| sk rfl rfl rfl ?_
       refine sk rfl rfl rfl <| sk rfl rfl rfl <| sk rfl rfl rfl <| yy (Y0.pickF rfl rfl) rfl <| mv rfl rfl <| sk rfl rfl rfl ?_
       refine yy (Y0.pickF rfl rfl) rfl <| sg rfl rfl <| nx ?_
       refine WC.ret ?_
       replace hr : _ = r := hr
       subst hr
       exact WE.ret1 rfl rfl rfl
      ·skip
       refine yy (Y0.pickT rfl rfl) rfl <| mv rfl rfl ?_
       refine WL.y0' (guard_yes rfl rfl) (Y0.move rfl) rfl ?_
       refine WL.y0' (guard_yes rfl rfl) (Y0.move rfl) rfl ?_
       obtain ⟨yv16, hyv16, hr⟩ := hr
       refine WL.call0 (guard_yes rfl rfl) rfl (YC.of E24 rfl) (L_R21_SameParts _ _ _ _ _ _ _ hyv16) rfl (⟨(yv11r0h.mono (Mem.le_trans Gv12le Gm1le)), (yv12r0h.mono Gm1le)⟩) ?_
       cases yv16
       ·skip
        refine yy (Y0.pickT rfl rfl) rfl <| mv rfl rfl <| sk rfl rfl rfl <| sk rfl rfl rfl <| sk rfl rfl rfl <| sk rfl rfl rfl ?_
        refine sk rfl rfl rfl <| sk rfl rfl rfl <| sk rfl rfl rfl <| yy (Y0.pickF rfl rfl) rfl <| mv rfl rfl <| sk rfl rfl rfl ?_
        refine sk rfl rfl rfl <| sk rfl rfl rfl <| sk rfl rfl rfl <| sk rfl rfl rfl <| yy (Y0.pickF rfl rfl) rfl <| mv rfl rfl ?_
        refine sk rfl rfl rfl <| yy (Y0.pickF rfl rfl) rfl <| sg rfl rfl <| nx ?_
        refine WC.ret ?_
        replace hr : _ = r := hr
        subst hr
        exact WE.ret1 rfl rfl rfl
       ·skip
        refine yy (Y0.pickT rfl rfl) rfl <| mv rfl rfl ?_
        refine WL.y0' (guard_yes rfl rfl) (Y0.move rfl) rfl ?_
        refine WL.y0' (guard_yes rfl rfl) (Y0.move rfl) rfl ?_
        obtain ⟨yv17, hyv17, hr⟩ := hr
        refine WL.call (guard_yes rfl rfl) rfl (YC.of E25 rfl) (L_components_Meet _ _ _ _ _ _ _ hyv17) rfl (⟨(yv3h.mono (Mem.le_trans (Mem.le_trans (Mem.le_trans (Mem.le_trans (Mem.le_trans (Mem.le_trans (Mem.le_trans (Mem.le_trans (Mem.le_trans Gv4le Gv5le) Gv6le) Gv7le) Gv8le) Gv9le) Gv10le) Gv11le) Gv12le) Gm1le)), (yv4h.mono (Mem.le_trans (Mem.le_trans (Mem.le_trans (Mem.le_trans (Mem.le_trans (Mem.le_trans (Mem.le_trans (Mem.le_trans Gv5le Gv6le) Gv7le) Gv8le) Gv9le) Gv10le) Gv11le) Gv12le) Gm1le))⟩) (fun yv17v Gv17 Gv17le yv17post => ?_)
        obtain ⟨yv17p, yv17c, rfl, yv17h⟩ := yv17post
        refine WL.y0' (guard_yes rfl rfl) (Y0.move rfl) rfl ?_
        refine WL.y0' (guard_yes rfl rfl) (Y0.move rfl) rfl ?_
        obtain ⟨yv18, hyv18, hr⟩ := hr
        refine WL.call (guard_yes rfl rfl) rfl (YC.of E26 rfl) (L_R21_Meet _ _ _ _ _ _ _ hyv18) rfl (⟨(yv3h.mono (Mem.le_trans (Mem.le_trans (Mem.le_trans (Mem.le_trans (Mem.le_trans (Mem.le_trans (Mem.le_trans (Mem.le_trans (Mem.le_trans (Mem.le_trans Gv4le Gv5le) Gv6le) Gv7le) Gv8le) Gv9le) Gv10le) Gv11le) Gv12le) Gm1le) Gv17le)), (yv4h.mono (Mem.le_trans (Mem.le_trans (Mem.le_trans (Mem.le_trans (Mem.le_trans (Mem.le_trans (Mem.le_trans (Mem.le_trans (Mem.le_trans Gv5le Gv6le) Gv7le) Gv8le) Gv9le) Gv10le) Gv11le) Gv12le) Gm1le) Gv17le))⟩) (fun yv18v Gv18 Gv18le yv18post => ?_)
        obtain ⟨yv18p, yv18c, rfl, yv18h⟩ := yv18post
        obtain ⟨yv19, hyv19, hr⟩ := hr
        refine WL.call0 (guard_yes rfl rfl) rfl (YC.of E22 rfl) (L_R04_Same _ _ _ _ _ _ _ hyv19) rfl (⟨(yv17h.mono Gv18le), yv18h⟩) ?_
        cases yv19
        ·skip
         refine yy (Y0.pickT rfl rfl) rfl <| mv rfl rfl <| sk rfl rfl rfl <| sk rfl rfl rfl <| sk rfl rfl rfl <| sk rfl rfl rfl ?_
         refine sk rfl rfl rfl <| yy (Y0.pickF rfl rfl) rfl <| mv rfl rfl <| sk rfl rfl rfl <| yy (Y0.pickF rfl rfl) rfl <| sg rfl rfl ?_
         refine nx ?_
         refine WC.ret ?_
         replace hr : _ = r := hr
         subst hr
         exact WE.ret1 rfl rfl rfl
        ·skip
         refine yy (Y0.pickT rfl rfl) rfl <| mv rfl rfl ?_
         refine WL.y0' (guard_yes rfl rfl) (Y0.move rfl) rfl ?_
         obtain ⟨yv20, hyv20, hr⟩ := hr
         refine WL.call (guard_yes rfl rfl) rfl (YC.of E27 rfl) (L_components_Radical _ _ _ _ hyv20) rfl ((yv3h.mono (Mem.le_trans (Mem.le_trans (Mem.le_trans (Mem.le_trans (Mem.le_trans (Mem.le_trans (Mem.le_trans (Mem.le_trans (Mem.le_trans (Mem.le_trans (Mem.le_trans Gv4le Gv5le) Gv6le) Gv7le) Gv8le) Gv9le) Gv10le) Gv11le) Gv12le) Gm1le) Gv17le) Gv18le))) (fun yv20v Gv20 Gv20le yv20post => ?_)
         obtain ⟨yv20p, yv20c, rfl, yv20h⟩ := yv20post
         refine WL.y0' (guard_yes rfl rfl) (Y0.move rfl) rfl ?_
         obtain ⟨yv21, hyv21, hr⟩ := hr
         refine WL.call (guard_yes rfl rfl) rfl (YC.of E28 rfl) (L_R21_Radical _ _ _ _ hyv21) rfl ((yv3h.mono (Mem.le_trans (Mem.le_trans (Mem.le_trans (Mem.le_trans (Mem.le_trans (Mem.le_trans (Mem.le_trans (Mem.le_trans (Mem.le_trans (Mem.le_trans (Mem.le_trans (Mem.le_trans Gv4le Gv5le) Gv6le) Gv7le) Gv8le) Gv9le) Gv10le) Gv11le) Gv12le) Gm1le) Gv17le) Gv18le) Gv20le))) (fun yv21v Gv21 Gv21le yv21post => ?_)
         obtain ⟨yv21p, yv21c, rfl, yv21h⟩ := yv21post
         obtain ⟨yv22, hyv22, hr⟩ := hr
         refine WL.call0 (guard_yes rfl rfl) rfl (YC.of E22 rfl) (L_R04_Same _ _ _ _ _ _ _ hyv22) rfl (⟨(yv20h.mono Gv21le), yv21h⟩) ?_
         cases yv22
         ·skip
          refine yy (Y0.pickT rfl rfl) rfl <| mv rfl rfl <| sk rfl rfl rfl <| yy (Y0.pickF rfl rfl) rfl <| sg rfl rfl <| nx ?_
          refine WC.ret ?_
          replace hr : _ = r := hr
          subst hr
          exact WE.ret1 rfl rfl rfl
         ·skip
          refine yy (Y0.pickT rfl rfl) rfl <| mv rfl rfl ?_
          refine WL.y0' (guard_yes rfl rfl) (Y0.move rfl) rfl ?_
          refine yy (Y0.pickT rfl rfl) rfl <| sg rfl rfl <| nx ?_
          refine WC.ret ?_
          replace hr : _ = r := hr
          subst hr
          exact WE.ret1 rfl rfl rfl
   ·replace hr := hr.neg hb1
    refine mv rfl rfl <| sk rfl rfl rfl <| sk rfl rfl rfl <| sk rfl rfl rfl <| yy (Y0.pickF rfl rfl) rfl <| mv rfl rfl ?_
    refine sk rfl rfl rfl <| sk rfl rfl rfl <| sk rfl rfl rfl <| yy (Y0.pickF rfl rfl) rfl <| mv rfl rfl <| sk rfl rfl rfl ?_
    refine sk rfl rfl rfl <| sk rfl rfl rfl <| yy (Y0.pickF rfl rfl) rfl <| mv rfl rfl <| sk rfl rfl rfl <| sk rfl rfl rfl ?_
    refine sk rfl rfl rfl <| yy (Y0.pickF rfl rfl) rfl <| mv rfl rfl <| sk rfl rfl rfl <| sk rfl rfl rfl <| sk rfl rfl rfl ?_
    refine sk rfl rfl rfl <| sk rfl rfl rfl <| sk rfl rfl rfl <| sk rfl rfl rfl <| yy (Y0.pickF rfl rfl) rfl <| mv rfl rfl ?_
    refine sk rfl rfl rfl <| sk rfl rfl rfl <| sk rfl rfl rfl <| sk rfl rfl rfl <| sk rfl rfl rfl <| yy (Y0.pickF rfl rfl) rfl ?_
    refine mv rfl rfl <| sk rfl rfl rfl <| yy (Y0.pickF rfl rfl) rfl <| sg rfl rfl <| nx ?_
    refine WC.ret ?_
    replace hr : _ = r := hr
    subst hr
    exact WE.ret1 rfl rfl rfl
end Go.Proofs.Ytbdknlblnfnkkaa
