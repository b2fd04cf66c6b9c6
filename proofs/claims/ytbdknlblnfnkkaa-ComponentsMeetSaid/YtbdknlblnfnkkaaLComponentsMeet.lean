/- The code does what the models say. The conditions stand in each statement. -/
import Derived.Test.YtbdknlblnfnkkaaLd
namespace Go.Proofs.Ytbdknlblnfnkkaa
open Go Go.EL Go.RowKit Go.Proofs
theorem L_law21_ComponentsMeet (a0_1 : T_law21_Input) (a1_1 : (List (Fin 4 → Int))) (a0_1lp : Option Addr) (a0_1lc : Nat) (a1_1p : Option Addr) (a1_1c : Nat) (r : Bool) (hr : (law21_ComponentsMeet a0_1 a1_1).Ret r) : Ctr Try.prog 4 #[.agg ([.slice a0_1lp a0_1.l.length a0_1lc, .int .u8 a0_1.n]).toArray, .slice a1_1p a1_1.length a1_1c] (fun G => SlR (Rp.vec .u8 4) G (.slice a0_1lp a0_1.l.length a0_1lc) a0_1.l ∧ SlR (Rp.vec .u8 4) G (.slice a1_1p a1_1.length a1_1c) a1_1) (fun G v => v = .bool r) := by
  refine Ctr.enter (args := [_, _]) (N := 85) Try.func4 rfl rfl rfl (fun w0 G0 hL0 hpre => ?_)
  obtain ⟨a0_1lh, a1_1h⟩ := hpre
  refine WC.seq ?_
  refine WC.region ?_
  refine WL.box 2 guard_none rfl rfl (fun b1 => ?_)
  refine WL.y0' guard_none (Y0.assign rfl) rfl ?_
  refine WL.nil ?_
  refine WE.then ?_
  refine WC.seq ?_
  refine WC.region ?_
  obtain ⟨yv1, hyv1, hr⟩ := hr
  refine WL.call0 guard_none rfl (YC.of E11 rfl) (L_law21_sanity _ hyv1) rfl (trivial) ?_
  refine WL.y0' guard_none (Y0.assign rfl) rfl ?_
  refine WL.nil ?_
  refine WE.then ?_
  refine WC.seq ?_
  refine WC.seq ?_
  refine WC.region ?_
  refine WL.y0' guard_none (Y0.move rfl) rfl ?_
  refine WL.y0' guard_none (Y0.not rfl) rfl ?_
  refine WL.nil ?_
  refine WE.then ?_
  refine WC.cond (b := !yv1) rfl (fun hc1 => ?_) (fun hc1 => ?_)
  · replace hr := hr.pos hc1
    refine WC.seq ?_
    refine WC.region ?_
    refine WL.y0' guard_none (Y0.assign rfl) rfl ?_
    refine WL.nil ?_
    refine WE.then ?_
    refine WC.ret ?_
    replace hr : _ = r := hr
    refine WE.thenRet ?_
    subst hr
    exact WE.ret1 rfl rfl rfl
  · replace hr := hr.neg (Bool.eq_false_iff.1 hc1)
    refine WC.skip ?_
    refine WE.then ?_
    refine WC.seq ?_
    refine WC.drawn [false, false, false, false, false, false] mix (by kernel_rfl) (fun hb => ?_)
    refine Chain.y0 guard_none (fun _ hle => Y0.loadLA 2 ag25 rfl rfl rfl) ?_
    obtain ⟨yv2, hyv2, hr⟩ := hr
    refine Chain.callU (post := fun G v => ∃ yv2p yv2c, v = .slice yv2p yv2.length yv2c ∧ SlR (Rp.vec .i64 8) G (.slice yv2p yv2.length yv2c) yv2) (fun _ => guard_none) (fun _ _ => YC.of E29 rfl) (L_law21_made _ _ _ _ hyv2) rfl (fun G' hle => (a0_1lh.mono hle)) (fun v G1 G2 hle h => ?_) ?_
    · obtain ⟨yv2p, yv2c, rfl, yv2h⟩ := h
      exact ⟨_, _, rfl, yv2h.mono hle⟩
    refine Chain.y0U (fun _ => guard_none) (fun _ _ hle => Y0.move rfl) ?_
    refine Chain.y0U (fun _ => guard_none) (fun _ _ hle => Y0.loadLA 2 ag25 rfl rfl rfl) ?_
    obtain ⟨yv3, hyv3, hr⟩ := hr
    refine Chain.callD (f := 12) (c := .int .i64 yv3) (fun _ => guard_none) (fun u G' hle hu => ?_) ?_
    · obtain ⟨_, _⟩ := (show True ∧ True from hu)
      exact ⟨_, _, _, fun _ => YC.of E12 rfl, L_law21_vars _ _ _ _ hyv3, rfl, (a0_1lh.mono hle)⟩
    obtain ⟨yv4, hyv4, hr⟩ := hr
    refine Chain.callU (post := fun G v => ∃ yv4p yv4c, v = .slice yv4p yv4.length yv4c ∧ SlR (Rp.vec .i64 8) G (.slice yv4p yv4.length yv4c) yv4) (fun _ => guard_none) (fun _ _ => YC.of E13 rfl) (L_R18_Made _ _ _ _ _ _ _ hyv4) rfl (fun G' hle => (a1_1h.mono hle)) (fun v G1 G2 hle h => ?_) ?_
    · obtain ⟨yv4p, yv4c, rfl, yv4h⟩ := h
      exact ⟨_, _, rfl, yv4h.mono hle⟩
    refine Chain.tailU2 (d := 23) (post := fun G v => ∃ yv4p yv4c, v = .slice yv4p yv4.length yv4c ∧ SlR (Rp.vec .i64 8) G (.slice yv4p yv4.length yv4c) yv4) (d' := 19) (post' := fun G v => ∃ yv2p yv2c, v = .slice yv2p yv2.length yv2c ∧ SlR (Rp.vec .i64 8) G (.slice yv2p yv2.length yv2c) yv2) (fun yv4v yv2v Gv2 Gv2le yv4post yv2post => ?_)
    obtain ⟨yv4p, yv4c, rfl, yv4h⟩ := yv4post
    obtain ⟨yv2p, yv2c, rfl, yv2h⟩ := yv2post
    refine WL.y0' guard_none (Y0.assign rfl) rfl ?_
    refine WL.y0' guard_none (Y0.assign rfl) rfl ?_
    refine WL.nil ?_
    refine WE.nx ?_
    refine WE.then ?_
    refine WC.seq ?_
    refine WC.region ?_
    refine WL.y0' guard_none (Y0.move rfl) rfl ?_
    refine WL.y0' guard_none (Y0.move rfl) rfl ?_
    obtain ⟨yv5, hyv5, hr⟩ := hr
    refine WL.call guard_none rfl (YC.of E25 rfl) (L_components_Meet _ _ _ _ _ _ _ hyv5) rfl (⟨yv2h, yv4h⟩) (fun yv5v Gv3 Gv3le yv5post => ?_)
    obtain ⟨yv5p, yv5c, rfl, yv5h⟩ := yv5post
    refine WL.y0' guard_none (Y0.move rfl) rfl ?_
    obtain ⟨yv6, hyv6, hr⟩ := hr
    refine WL.call guard_none rfl (YC.of E27 rfl) (L_components_Radical _ _ _ _ hyv6) rfl ((yv2h.mono Gv3le)) (fun yv6v Gv4 Gv4le yv6post => ?_)
    obtain ⟨yv6p, yv6c, rfl, yv6h⟩ := yv6post
    refine WL.y0' guard_none (Y0.assign rfl) rfl ?_
    refine WL.y0' guard_none (Y0.assign rfl) rfl ?_
    refine WL.nil ?_
    refine WE.then ?_
    refine WC.seq ?_
    refine WC.seq ?_
    refine WC.region ?_
    refine WL.y0' guard_none (Y0.move rfl) rfl ?_
    refine WL.y0' guard_none (Y0.move rfl) rfl ?_
    obtain ⟨yv7, hyv7, hr⟩ := hr
    refine WL.call guard_none rfl (YC.of E30 rfl) (L_R04_Minimal _ _ _ _ hyv7) rfl ((yv5h.mono Gv4le)) (fun yv7v Gv5 Gv5le yv7post => ?_)
    obtain ⟨yv7p, yv7c, rfl, yv7h⟩ := yv7post
    obtain ⟨yv8, hyv8, hr⟩ := hr
    refine WL.call0 guard_none rfl (YC.of E22 rfl) (L_R04_Same _ _ _ _ _ _ _ hyv8) rfl (⟨(yv5h.mono (Mem.le_trans Gv4le Gv5le)), yv7h⟩) ?_
    cases yv8
    · skip
      refine WL.y0' guard_none (Y0.not rfl) rfl ?_
      refine WL.y0' guard_none (Y0.move rfl) rfl ?_
      refine WL.skip (guard_noF rfl rfl) rfl ?_
      refine WL.skip (guard_noF rfl rfl) rfl ?_
      refine WL.skip (guard_noF rfl rfl) rfl ?_
      refine WL.skip (guard_noF rfl rfl) rfl ?_
      refine WL.skip (guard_noF rfl rfl) rfl ?_
      refine WL.y0' guard_none (Y0.pickT rfl rfl) rfl ?_
      refine WL.nil ?_
      refine WE.then ?_
      refine WC.condT rfl ?_
      refine WC.seq ?_
      refine WC.region ?_
      refine WL.y0' guard_none (Y0.assign rfl) rfl ?_
      refine WL.nil ?_
      refine WE.then ?_
      refine WC.ret ?_
      replace hr : _ = r := hr
      refine WE.thenRet ?_
      subst hr
      exact WE.ret1 rfl rfl rfl
    · skip
      refine WL.y0' guard_none (Y0.not rfl) rfl ?_
      refine WL.y0' guard_none (Y0.move rfl) rfl ?_
      refine WL.y0' (guard_yes rfl rfl) (Y0.move rfl) rfl ?_
      refine WL.y0' (guard_yes rfl rfl) (Y0.move rfl) rfl ?_
      obtain ⟨yv9, hyv9, hr⟩ := hr
      refine WL.call (guard_yes rfl rfl) rfl (YC.of E30 rfl) (L_R04_Minimal _ _ _ _ hyv9) rfl ((yv6h.mono Gv5le)) (fun yv9v Gv7 Gv7le yv9post => ?_)
      obtain ⟨yv9p, yv9c, rfl, yv9h⟩ := yv9post
      obtain ⟨yv10, hyv10, hr⟩ := hr
      refine WL.call0 (guard_yes rfl rfl) rfl (YC.of E22 rfl) (L_R04_Same _ _ _ _ _ _ _ hyv10) rfl (⟨(yv6h.mono (Mem.le_trans Gv5le Gv7le)), yv9h⟩) ?_
      refine WL.y0' (guard_yes rfl rfl) (Y0.not rfl) rfl ?_
      refine WL.y0' guard_none (Y0.pickF rfl rfl) rfl ?_
      refine WL.nil ?_
      refine WE.then ?_
      refine WC.cond (b := !yv10) rfl (fun hc2 => ?_) (fun hc2 => ?_)
      · replace hr := hr.pos hc2
        refine WC.seq ?_
        refine WC.region ?_
        refine WL.y0' guard_none (Y0.assign rfl) rfl ?_
        refine WL.nil ?_
        refine WE.then ?_
        refine WC.ret ?_
        replace hr : _ = r := hr
        refine WE.thenRet ?_
        subst hr
        exact WE.ret1 rfl rfl rfl
      · replace hr := hr.neg (Bool.eq_false_iff.1 hc2)
        refine WC.skip ?_
        refine WE.then ?_
        refine WC.seq ?_
        refine WC.region ?_
        refine WL.y0' guard_none (Y0.loadLA 2 ag25 rfl rfl rfl) rfl ?_
        obtain ⟨yv11, hyv11, hr⟩ := hr
        refine WL.call0 guard_none rfl (YC.of E12 rfl) (L_law21_vars _ _ _ _ hyv11) rfl ((a0_1lh.mono (Mem.le_trans (Mem.le_trans (Mem.le_trans (Mem.le_trans Gv2le Gv3le) Gv4le) Gv5le) Gv7le))) ?_
        obtain ⟨yv12, hyv12, hr⟩ := hr
        refine WL.call guard_none rfl (YC.of E31 rfl) (L_law21_all _ _ hyv12) rfl (trivial) (fun yv12v Gv10 Gv10le yv12post => ?_)
        obtain ⟨yv12p, yv12c, rfl, yv12h⟩ := yv12post
        refine WL.y0' guard_none (Y0.assign rfl) rfl ?_
        refine WL.nil ?_
        refine WE.then ?_
        refine WC.seq ?_
        refine WC.seq ?_
        refine WC.region ?_
        refine WL.y0' guard_none (Y0.assign rfl) rfl ?_
        refine WL.nil ?_
        refine WE.then ?_
        refine WC.meetH (fun (gx : Mem) => match gx with | Gm1 => [(5, .bool yv1)]) (fun (gx : Mem) => match gx with | Gm1 => Mem.le Gv10 Gm1 ∧ (law21_ComponentsMeet_k1 yv1).Ret r) (fun (gx : Mem) => match gx with | Gm1 => St w0 G0 Gm1 []) ?_ ?_
        · refine WC.block ?_
          let Phi1 : (Bool ⊕ Unit) → Prop := fun oo => ((fun ov => match ov with | .inl rv1 => Comp.ret rv1 | .inr () => law21_ComponentsMeet_k1 yv1 : (Bool ⊕ Unit) → Comp Bool) oo).wp (fun a => a = r)
          replace hr : (Comp.loop _ _).wp Phi1 := hr
          refine WC.loopR (Φ := Phi1) (fun (gx : Int × Mem) => match gx with | ⟨v11_1, Gm2⟩ => (v11_1 : Int)) (fun (gx : Int × Mem) => match gx with | ⟨v11_1, Gm2⟩ => [(5, .bool yv1), (6, .slice yv2p yv2.length yv2c), (7, .slice yv4p yv4.length yv4c), (8, .slice yv5p yv5.length yv5c), (9, .slice yv6p yv6.length yv6c), (10, .slice yv12p yv12.length yv12c), (11, .int .i64 v11_1)]) (fun (gx : Int × Mem) => match gx with | ⟨v11_1, Gm2⟩ => Mem.le Gv10 Gm2) (fun (gx : Int × Mem) => match gx with | ⟨v11_1, Gm2⟩ => St w0 G0 Gm2 []) ⟨0, Gv10⟩ hr (Fr.sub_cons rfl (Fr.sub_cons rfl (Fr.sub_cons rfl (Fr.sub_cons rfl (Fr.sub_cons rfl (Fr.sub_cons rfl (Fr.sub_cons rfl (Fr.sub_nil _)))))))) (Mem.le_refl _) ?_ ?_
          · intro w hs
            exact hs.weaken (Lo.sub_nil _)
          · intro Aq1 gx hx hr
            obtain ⟨v11_1, Gm2⟩ := gx
            have Gm2le := hx
            refine WC.seq ?_
            refine WC.seq ?_
            refine WC.region ?_
            refine WL.y0' guard_none (Y0.move rfl) rfl ?_
            refine WL.y0' guard_none (Y0.move rfl) rfl ?_
            refine WL.y0' guard_none (Y0.lenR Try.underlying28 (yv12h.mono Gm2le) rfl) rfl ?_
            refine WL.y0' guard_none (Y0.lss rfl rfl) rfl ?_
            refine WL.nil ?_
            refine WE.then ?_
            refine WC.condD (p := v11_1 < (yv12.length : Int)) rfl (fun hc3 => ?_) (fun hc3 => ?_)
            · replace hr := hr.pos hc3
              refine WC.skip ?_
              refine WE.then ?_
              refine WC.seq ?_
              refine WC.block ?_
              refine WC.seq ?_
              refine WC.region ?_
              refine WL.y0' guard_none (Y0.move rfl) rfl ?_
              refine WL.y0' guard_none (Y0.move rfl) rfl ?_
              obtain ⟨x1, hx1, hr⟩ := hr
              refine WL.y0' guard_none (Y0.idxR Try.underlying28 sz48 (yv12h.mono Gm2le) rfl rfl hx1) rfl ?_
              refine WL.y0' guard_none (Y0.loadGA _ ag48 rfl (vecG_size _ _ _) (AtK.vec (At.mono (SlR.at yv12h hx1) Gm2le))) rfl ?_
              refine WL.alloc 12 guard_none z48 rfl (fun b2 => ?_)
              refine WL.storeLA 12 guard_none sz48 rfl rfl rfl (vecG_size _ _ _) (vecG_size _ _ _) (fun u hu => Rp.one (Rp.vec .i64 8) (G := Gm2) (x := x1) (cs := vecG (Value.int .i64) 8 x1) rfl u (by simpa using hu)) ?_
              refine WL.nil ?_
              refine WE.then ?_
              refine WC.seq ?_
              refine WC.seq ?_
              refine WC.drawn [false, false, false, false, false, false, false, false, false, false, false, false] mix (by kernel_rfl) (fun hb => ?_)
              refine Chain.y0 guard_none (fun _ hle => Y0.loadLA 12 ag48 rfl rfl (vecG_size _ _ _)) ?_
              refine Chain.y0 guard_none (fun _ hle => Y0.move rfl) ?_
              obtain ⟨yv13, hyv13, hr⟩ := hr
              refine Chain.call0 guard_none (fun _ => YC.of E32 rfl) (L_R04_In _ _ _ _ _ hyv13) rfl (fun G' hle => ((yv5h.mono (Mem.le_trans (Mem.le_trans (Mem.le_trans (Mem.le_trans Gv4le Gv5le) Gv7le) Gv10le) Gm2le)).mono hle)) ?_
              refine Chain.y0 guard_none (fun _ hle => Y0.loadLA 12 ag48 rfl rfl (vecG_size _ _ _)) ?_
              refine Chain.y0 guard_none (fun _ hle => Y0.move rfl) ?_
              obtain ⟨yv14, hyv14, hr⟩ := hr
              refine Chain.call0 guard_none (fun _ => YC.of E32 rfl) (L_R04_In _ _ _ _ _ hyv14) rfl (fun G' hle => ((yv2h.mono (Mem.le_trans (Mem.le_trans (Mem.le_trans (Mem.le_trans (Mem.le_trans Gv3le Gv4le) Gv5le) Gv7le) Gv10le) Gm2le)).mono hle)) ?_
              cases yv14
              · skip
                refine Chain.y0 guard_none (fun _ hle => Y0.move rfl) ?_
                refine Chain.skip (guard_noT rfl rfl) ?_
                refine Chain.skip (guard_noT rfl rfl) ?_
                refine Chain.skip (guard_noT rfl rfl) ?_
                refine Chain.y0 guard_none (fun _ hle => Y0.pickF rfl rfl) ?_
                refine Chain.y0 guard_none (fun _ hle => Y0.neqB Try.underlying4 rfl rfl) ?_
                refine Chain.tail0 hb ?_
                refine WL.nil ?_
                refine WE.nx ?_
                refine WE.then ?_
                refine WC.condD (p := ¬ yv13 = false) rfl (fun hc4 => ?_) (fun hc4 => ?_)
                · replace hr := hr.pos hc4
                  refine WC.seq ?_
                  refine WC.region ?_
                  refine WL.y0' guard_none (Y0.assign rfl) rfl ?_
                  refine WL.nil ?_
                  refine WE.then ?_
                  refine WC.ret ?_
                  replace hr : _ = r := hr
                  refine WE.thenRet ?_
                  refine WE.inBlockRet ?_
                  refine WE.thenRet ?_
                  refine WE.thenRet ?_
                  refine WE.inBlockRet ?_
                  refine WE.endRet ?_
                  refine WE.thenRet ?_
                  subst hr
                  exact WE.ret1 rfl rfl rfl
                · replace hr := hr.neg hc4
                  refine WC.skip ?_
                  refine WE.then ?_
                  refine WC.seq ?_
                  refine WC.region ?_
                  refine WL.y0' guard_none (Y0.build (vs := #[]) (v := .agg (vecG (Value.int .i64) 8 (fun _ => 0)).toArray) rfl rfl (fun _ => by kernel_rfl)) rfl ?_
                  refine WL.alloc 13 guard_none z48 rfl (fun b3 => ?_)
                  refine WL.storeLA 13 guard_none sz48 rfl rfl rfl (vecG_size _ _ _) (vecG_size _ _ _) (fun u hu => Rp.one (Rp.vec .i64 8) (G := Gm2) (x := (fun _ => 0)) (cs := vecG (Value.int .i64) 8 (fun _ => 0)) rfl u (by simpa using hu)) ?_
                  refine WL.nil ?_
                  refine WE.then ?_
                  refine WC.seq ?_
                  refine WC.seq ?_
                  refine WC.region ?_
                  refine WL.y0' guard_none (Y0.assign rfl) rfl ?_
                  refine WL.nil ?_
                  refine WE.then ?_
                  refine WC.meetH (fun (gx : (Fin 8 → Int) × Mem) => match gx with | ⟨bx1, Gm3⟩ => [(5, .bool yv1), (6, .slice yv2p yv2.length yv2c), (7, .slice yv4p yv4.length yv4c), (8, .slice yv5p yv5.length yv5c), (9, .slice yv6p yv6.length yv6c), (10, .slice yv12p yv12.length yv12c), (11, .int .i64 v11_1), (12, .pointer (some ⟨b2, 0, none⟩)), (13, .pointer (some ⟨b3, 0, none⟩))]) (fun (gx : (Fin 8 → Int) × Mem) => match gx with | ⟨bx1, Gm3⟩ => Mem.le Gm2 Gm3 ∧ (law21_ComponentsMeet_k3 yv2 yv6 v11_1 x1 bx1).wp (Out Aq1 Phi1)) (fun (gx : (Fin 8 → Int) × Mem) => match gx with | ⟨bx1, Gm3⟩ => St w0 G0 Gm3 [(12, some ⟨b2, .cells (vecG (Value.int .i64) 8 x1).toArray 48 (0, 0), 0⟩), (13, some ⟨b3, .cells (vecG (Value.int .i64) 8 bx1).toArray 48 (0, 0), 0⟩)]) ?_ ?_
                  · refine WC.block ?_
                    let Phi2 : (Fin 8 → Int) → Prop := fun oo => ((fun ov => match ov with | bx1 => law21_ComponentsMeet_k3 yv2 yv6 v11_1 x1 bx1 : (Fin 8 → Int) → Comp (Int ⊕ (Bool ⊕ Unit))) oo).wp (Out Aq1 Phi1)
                    replace hr : (Comp.loop _ _).wp Phi2 := hr
                    refine WC.loopR (Φ := Phi2) (fun (gx : Int × (Fin 8 → Int) × Mem) => match gx with | ⟨v14_1, bx2, Gm4⟩ => ((v14_1, bx2) : Int × (Fin 8 → Int))) (fun (gx : Int × (Fin 8 → Int) × Mem) => match gx with | ⟨v14_1, bx2, Gm4⟩ => [(5, .bool yv1), (6, .slice yv2p yv2.length yv2c), (7, .slice yv4p yv4.length yv4c), (8, .slice yv5p yv5.length yv5c), (9, .slice yv6p yv6.length yv6c), (10, .slice yv12p yv12.length yv12c), (11, .int .i64 v11_1), (12, .pointer (some ⟨b2, 0, none⟩)), (13, .pointer (some ⟨b3, 0, none⟩)), (14, .int .i64 v14_1)]) (fun (gx : Int × (Fin 8 → Int) × Mem) => match gx with | ⟨v14_1, bx2, Gm4⟩ => Mem.le Gm2 Gm4) (fun (gx : Int × (Fin 8 → Int) × Mem) => match gx with | ⟨v14_1, bx2, Gm4⟩ => St w0 G0 Gm4 [(12, some ⟨b2, .cells (vecG (Value.int .i64) 8 x1).toArray 48 (0, 0), 0⟩), (13, some ⟨b3, .cells (vecG (Value.int .i64) 8 bx2).toArray 48 (0, 0), 0⟩)]) ⟨0, (fun _ => 0), Gm2⟩ hr (Fr.sub_cons rfl (Fr.sub_cons rfl (Fr.sub_cons rfl (Fr.sub_cons rfl (Fr.sub_cons rfl (Fr.sub_cons rfl (Fr.sub_cons rfl (Fr.sub_cons rfl (Fr.sub_cons rfl (Fr.sub_cons rfl (Fr.sub_nil _))))))))))) (Mem.le_refl _) ?_ ?_
                    · intro w hs
                      exact hs.weaken (Lo.sub_cons rfl (Lo.sub_cons rfl (Lo.sub_nil _)))
                    · intro Aq2 gx hx hr
                      obtain ⟨v14_1, bx2, Gm4⟩ := gx
                      have Gm4le := hx
                      refine WC.seq ?_
                      refine WC.seq ?_
                      refine WC.region ?_
                      refine WL.y0' guard_none (Y0.move rfl) rfl ?_
                      refine WL.y0' guard_none (Y0.lss rfl rfl) rfl ?_
                      refine WL.nil ?_
                      refine WE.then ?_
                      refine WC.condD (p := v14_1 < 8) rfl (fun hc6 => ?_) (fun hc6 => ?_)
                      · replace hr := hr.pos hc6
                        refine WC.skip ?_
                        refine WE.then ?_
                        refine WC.seq ?_
                        refine WC.block ?_
                        refine WC.region ?_
                        refine WL.y0' guard_none (Y0.move rfl) rfl ?_
                        refine WL.y0' guard_none (Y0.move rfl) rfl ?_
                        obtain ⟨hi1, hr⟩ := hr
                        refine WL.y0' guard_none (Y0.idxA0 Try.underlying48 sz3 rfl rfl hi1) rfl ?_
                        refine WL.y0' guard_none (Y0.loadL 12 sc3 rfl rfl (vecG_at _ _ _ hi1)) rfl ?_
                        refine WL.y0' guard_none (Y0.mul rfl rfl) rfl ?_
                        obtain ⟨hi2, hr⟩ := hr
                        refine WL.y0' guard_none (Y0.idxA0 Try.underlying48 sz3 rfl rfl hi2) rfl ?_
                        refine WL.storeL 13 (vecG (Value.int .i64) 8 (setF bx2 v14_1.toNat (IntKind.i64.wrap (3 * (getF x1 v14_1))))).toArray guard_none sz3 rfl rfl rfl (by first | (rw [vecG_size]; omega) | (show _ < (vecG _ _ _).toArray.size; rw [vecG_size]; omega)) rfl (vecG_put _ _ _ _ _) ?_
                        refine WL.nil ?_
                        refine WE.inBlock ?_
                        refine WE.then ?_
                        refine WC.region ?_
                        refine WL.y0' guard_none (Y0.move rfl) rfl ?_
                        refine WL.y0' guard_none (Y0.add rfl rfl) rfl ?_
                        refine WL.y0' guard_none (Y0.assign rfl) rfl ?_
                        refine WL.nil ?_
                        refine WE.backR ⟨IntKind.i64.wrap (v14_1 + 1), setF bx2 v14_1.toNat (IntKind.i64.wrap (3 * (getF x1 v14_1))), Gm4⟩ hr Gm4le (Fr.sub_cons rfl (Fr.sub_cons rfl (Fr.sub_cons rfl (Fr.sub_cons rfl (Fr.sub_cons rfl (Fr.sub_cons rfl (Fr.sub_cons rfl (Fr.sub_cons rfl (Fr.sub_cons rfl (Fr.sub_cons rfl (Fr.sub_nil _))))))))))) ?_
                        · intro w hs
                          exact hs.weaken (Lo.sub_cons rfl (Lo.sub_cons rfl (Lo.sub_nil _)))
                      · replace hr := hr.neg hc6
                        refine WC.exit ?_
                        refine WE.thenExit ?_
                        refine WE.thenExit ?_
                        refine WE.exitHere ?_
                        refine WE.endH ⟨bx2, Gm4⟩ ⟨Gm4le, hr⟩ (Fr.sub_cons rfl (Fr.sub_cons rfl (Fr.sub_cons rfl (Fr.sub_cons rfl (Fr.sub_cons rfl (Fr.sub_cons rfl (Fr.sub_cons rfl (Fr.sub_cons rfl (Fr.sub_cons rfl (Fr.sub_nil _)))))))))) ?_
                        · intro w hs
                          exact hs.weaken (Lo.sub_cons rfl (Lo.sub_cons rfl (Lo.sub_nil _)))
                  · rintro ⟨bx1, Gm3⟩ ⟨Gm3le, hr⟩
                    refine WE.then ?_
                    refine WC.seq ?_
                    refine WC.drawn [false, false, false, false, false, false, false] mix (by kernel_rfl) (fun hb => ?_)
                    refine Chain.y0 guard_none (fun _ hle => Y0.loadLA 12 ag48 rfl rfl (vecG_size _ _ _)) ?_
                    refine Chain.y0 guard_none (fun _ hle => Y0.move rfl) ?_
                    obtain ⟨yv15, hyv15, hr⟩ := hr
                    refine Chain.call0 guard_none (fun _ => YC.of E32 rfl) (L_R04_In _ _ _ _ _ hyv15) rfl (fun G' hle => ((yv6h.mono (Mem.le_trans (Mem.le_trans (Mem.le_trans (Mem.le_trans Gv5le Gv7le) Gv10le) Gm2le) Gm3le)).mono hle)) ?_
                    refine Chain.y0 guard_none (fun _ hle => Y0.loadLA 13 ag48 rfl rfl (vecG_size _ _ _)) ?_
                    refine Chain.y0 guard_none (fun _ hle => Y0.move rfl) ?_
                    obtain ⟨yv16, hyv16, hr⟩ := hr
                    refine Chain.call0 guard_none (fun _ => YC.of E32 rfl) (L_R04_In _ _ _ _ _ hyv16) rfl (fun G' hle => ((yv2h.mono (Mem.le_trans (Mem.le_trans (Mem.le_trans (Mem.le_trans (Mem.le_trans (Mem.le_trans Gv3le Gv4le) Gv5le) Gv7le) Gv10le) Gm2le) Gm3le)).mono hle)) ?_
                    refine Chain.y0 guard_none (fun _ hle => Y0.neqB Try.underlying4 rfl rfl) ?_
                    refine Chain.tail0 hb ?_
                    refine WL.nil ?_
                    refine WE.nx ?_
                    refine WE.then ?_
                    refine WC.condD (p := ¬ yv15 = yv16) rfl (fun hc5 => ?_) (fun hc5 => ?_)
                    · replace hr := hr.pos hc5
                      refine WC.seq ?_
                      refine WC.region ?_
                      refine WL.y0' guard_none (Y0.assign rfl) rfl ?_
                      refine WL.nil ?_
                      refine WE.then ?_
                      refine WC.ret ?_
                      replace hr : _ = r := hr
                      refine WE.inBlockRet ?_
                      refine WE.thenRet ?_
                      refine WE.thenRet ?_
                      refine WE.inBlockRet ?_
                      refine WE.endRet ?_
                      refine WE.thenRet ?_
                      subst hr
                      exact WE.ret1 rfl rfl rfl
                    · replace hr := hr.neg hc5
                      refine WC.skip ?_
                      refine WE.inBlock ?_
                      refine WE.then ?_
                      refine WC.region ?_
                      refine WL.y0' guard_none (Y0.move rfl) rfl ?_
                      refine WL.y0' guard_none (Y0.add rfl rfl) rfl ?_
                      refine WL.y0' guard_none (Y0.assign rfl) rfl ?_
                      refine WL.nil ?_
                      refine WE.backR ⟨IntKind.i64.wrap (v11_1 + 1), Gm3⟩ hr (Mem.le_trans Gm2le Gm3le) (Fr.sub_cons rfl (Fr.sub_cons rfl (Fr.sub_cons rfl (Fr.sub_cons rfl (Fr.sub_cons rfl (Fr.sub_cons rfl (Fr.sub_cons rfl (Fr.sub_nil _)))))))) ?_
                      · intro w hs
                        exact hs.weaken (Lo.sub_nil _)
              · skip
                refine Chain.y0 guard_none (fun _ hle => Y0.move rfl) ?_
                refine Chain.y0 (guard_yes rfl rfl) (fun _ hle => Y0.loadLA 12 ag48 rfl rfl (vecG_size _ _ _)) ?_
                refine Chain.y0 (guard_yes rfl rfl) (fun _ hle => Y0.move rfl) ?_
                obtain ⟨yv17, hyv17, hr⟩ := hr
                refine Chain.call0 (guard_yes rfl rfl) (fun _ => YC.of E32 rfl) (L_R04_In _ _ _ _ _ hyv17) rfl (fun G' hle => ((yv4h.mono (Mem.le_trans (Mem.le_trans (Mem.le_trans (Mem.le_trans (Mem.le_trans Gv3le Gv4le) Gv5le) Gv7le) Gv10le) Gm2le)).mono hle)) ?_
                refine Chain.y0 guard_none (fun _ hle => Y0.pickT rfl rfl) ?_
                refine Chain.y0 guard_none (fun _ hle => Y0.neqB Try.underlying4 rfl rfl) ?_
                refine Chain.tail0 hb ?_
                refine WL.nil ?_
                refine WE.nx ?_
                refine WE.then ?_
                refine WC.condD (p := ¬ yv13 = yv17) rfl (fun hc7 => ?_) (fun hc7 => ?_)
                · replace hr := hr.pos hc7
                  refine WC.seq ?_
                  refine WC.region ?_
                  refine WL.y0' guard_none (Y0.assign rfl) rfl ?_
                  refine WL.nil ?_
                  refine WE.then ?_
                  refine WC.ret ?_
                  replace hr : _ = r := hr
                  refine WE.thenRet ?_
                  refine WE.inBlockRet ?_
                  refine WE.thenRet ?_
                  refine WE.thenRet ?_
                  refine WE.inBlockRet ?_
                  refine WE.endRet ?_
                  refine WE.thenRet ?_
                  subst hr
                  exact WE.ret1 rfl rfl rfl
                · replace hr := hr.neg hc7
                  refine WC.skip ?_
                  refine WE.then ?_
                  refine WC.seq ?_
                  refine WC.region ?_
                  refine WL.y0' guard_none (Y0.build (vs := #[]) (v := .agg (vecG (Value.int .i64) 8 (fun _ => 0)).toArray) rfl rfl (fun _ => by kernel_rfl)) rfl ?_
                  refine WL.alloc 13 guard_none z48 rfl (fun b4 => ?_)
                  refine WL.storeLA 13 guard_none sz48 rfl rfl rfl (vecG_size _ _ _) (vecG_size _ _ _) (fun u hu => Rp.one (Rp.vec .i64 8) (G := Gm2) (x := (fun _ => 0)) (cs := vecG (Value.int .i64) 8 (fun _ => 0)) rfl u (by simpa using hu)) ?_
                  refine WL.nil ?_
                  refine WE.then ?_
                  refine WC.seq ?_
                  refine WC.seq ?_
                  refine WC.region ?_
                  refine WL.y0' guard_none (Y0.assign rfl) rfl ?_
                  refine WL.nil ?_
                  refine WE.then ?_
                  refine WC.meetH (fun (gx : (Fin 8 → Int) × Mem) => match gx with | ⟨bx3, Gm5⟩ => [(5, .bool yv1), (6, .slice yv2p yv2.length yv2c), (7, .slice yv4p yv4.length yv4c), (8, .slice yv5p yv5.length yv5c), (9, .slice yv6p yv6.length yv6c), (10, .slice yv12p yv12.length yv12c), (11, .int .i64 v11_1), (12, .pointer (some ⟨b2, 0, none⟩)), (13, .pointer (some ⟨b4, 0, none⟩))]) (fun (gx : (Fin 8 → Int) × Mem) => match gx with | ⟨bx3, Gm5⟩ => Mem.le Gm2 Gm5 ∧ (law21_ComponentsMeet_k5 yv2 yv6 v11_1 x1 bx3).wp (Out Aq1 Phi1)) (fun (gx : (Fin 8 → Int) × Mem) => match gx with | ⟨bx3, Gm5⟩ => St w0 G0 Gm5 [(12, some ⟨b2, .cells (vecG (Value.int .i64) 8 x1).toArray 48 (0, 0), 0⟩), (13, some ⟨b4, .cells (vecG (Value.int .i64) 8 bx3).toArray 48 (0, 0), 0⟩)]) ?_ ?_
                  · refine WC.block ?_
                    let Phi3 : (Fin 8 → Int) → Prop := fun oo => ((fun ov => match ov with | bx3 => law21_ComponentsMeet_k5 yv2 yv6 v11_1 x1 bx3 : (Fin 8 → Int) → Comp (Int ⊕ (Bool ⊕ Unit))) oo).wp (Out Aq1 Phi1)
                    replace hr : (Comp.loop _ _).wp Phi3 := hr
                    refine WC.loopR (Φ := Phi3) (fun (gx : Int × (Fin 8 → Int) × Mem) => match gx with | ⟨v14_2, bx4, Gm6⟩ => ((v14_2, bx4) : Int × (Fin 8 → Int))) (fun (gx : Int × (Fin 8 → Int) × Mem) => match gx with | ⟨v14_2, bx4, Gm6⟩ => [(5, .bool yv1), (6, .slice yv2p yv2.length yv2c), (7, .slice yv4p yv4.length yv4c), (8, .slice yv5p yv5.length yv5c), (9, .slice yv6p yv6.length yv6c), (10, .slice yv12p yv12.length yv12c), (11, .int .i64 v11_1), (12, .pointer (some ⟨b2, 0, none⟩)), (13, .pointer (some ⟨b4, 0, none⟩)), (14, .int .i64 v14_2)]) (fun (gx : Int × (Fin 8 → Int) × Mem) => match gx with | ⟨v14_2, bx4, Gm6⟩ => Mem.le Gm2 Gm6) (fun (gx : Int × (Fin 8 → Int) × Mem) => match gx with | ⟨v14_2, bx4, Gm6⟩ => St w0 G0 Gm6 [(12, some ⟨b2, .cells (vecG (Value.int .i64) 8 x1).toArray 48 (0, 0), 0⟩), (13, some ⟨b4, .cells (vecG (Value.int .i64) 8 bx4).toArray 48 (0, 0), 0⟩)]) ⟨0, (fun _ => 0), Gm2⟩ hr (Fr.sub_cons rfl (Fr.sub_cons rfl (Fr.sub_cons rfl (Fr.sub_cons rfl (Fr.sub_cons rfl (Fr.sub_cons rfl (Fr.sub_cons rfl (Fr.sub_cons rfl (Fr.sub_cons rfl (Fr.sub_cons rfl (Fr.sub_nil _))))))))))) (Mem.le_refl _) ?_ ?_
                    · intro w hs
                      exact hs.weaken (Lo.sub_cons rfl (Lo.sub_cons rfl (Lo.sub_nil _)))
                    · intro Aq3 gx hx hr
                      obtain ⟨v14_2, bx4, Gm6⟩ := gx
                      have Gm6le := hx
                      refine WC.seq ?_
                      refine WC.seq ?_
                      refine WC.region ?_
                      refine WL.y0' guard_none (Y0.move rfl) rfl ?_
                      refine WL.y0' guard_none (Y0.lss rfl rfl) rfl ?_
                      refine WL.nil ?_
                      refine WE.then ?_
                      refine WC.condD (p := v14_2 < 8) rfl (fun hc9 => ?_) (fun hc9 => ?_)
                      · replace hr := hr.pos hc9
                        refine WC.skip ?_
                        refine WE.then ?_
                        refine WC.seq ?_
                        refine WC.block ?_
                        refine WC.region ?_
                        refine WL.y0' guard_none (Y0.move rfl) rfl ?_
                        refine WL.y0' guard_none (Y0.move rfl) rfl ?_
                        obtain ⟨hi3, hr⟩ := hr
                        refine WL.y0' guard_none (Y0.idxA0 Try.underlying48 sz3 rfl rfl hi3) rfl ?_
                        refine WL.y0' guard_none (Y0.loadL 12 sc3 rfl rfl (vecG_at _ _ _ hi3)) rfl ?_
                        refine WL.y0' guard_none (Y0.mul rfl rfl) rfl ?_
                        obtain ⟨hi4, hr⟩ := hr
                        refine WL.y0' guard_none (Y0.idxA0 Try.underlying48 sz3 rfl rfl hi4) rfl ?_
                        refine WL.storeL 13 (vecG (Value.int .i64) 8 (setF bx4 v14_2.toNat (IntKind.i64.wrap (3 * (getF x1 v14_2))))).toArray guard_none sz3 rfl rfl rfl (by first | (rw [vecG_size]; omega) | (show _ < (vecG _ _ _).toArray.size; rw [vecG_size]; omega)) rfl (vecG_put _ _ _ _ _) ?_
                        refine WL.nil ?_
                        refine WE.inBlock ?_
                        refine WE.then ?_
                        refine WC.region ?_
                        refine WL.y0' guard_none (Y0.move rfl) rfl ?_
                        refine WL.y0' guard_none (Y0.add rfl rfl) rfl ?_
                        refine WL.y0' guard_none (Y0.assign rfl) rfl ?_
                        refine WL.nil ?_
                        refine WE.backR ⟨IntKind.i64.wrap (v14_2 + 1), setF bx4 v14_2.toNat (IntKind.i64.wrap (3 * (getF x1 v14_2))), Gm6⟩ hr Gm6le (Fr.sub_cons rfl (Fr.sub_cons rfl (Fr.sub_cons rfl (Fr.sub_cons rfl (Fr.sub_cons rfl (Fr.sub_cons rfl (Fr.sub_cons rfl (Fr.sub_cons rfl (Fr.sub_cons rfl (Fr.sub_cons rfl (Fr.sub_nil _))))))))))) ?_
                        · intro w hs
                          exact hs.weaken (Lo.sub_cons rfl (Lo.sub_cons rfl (Lo.sub_nil _)))
                      · replace hr := hr.neg hc9
                        refine WC.exit ?_
                        refine WE.thenExit ?_
                        refine WE.thenExit ?_
                        refine WE.exitHere ?_
                        refine WE.endH ⟨bx4, Gm6⟩ ⟨Gm6le, hr⟩ (Fr.sub_cons rfl (Fr.sub_cons rfl (Fr.sub_cons rfl (Fr.sub_cons rfl (Fr.sub_cons rfl (Fr.sub_cons rfl (Fr.sub_cons rfl (Fr.sub_cons rfl (Fr.sub_cons rfl (Fr.sub_nil _)))))))))) ?_
                        · intro w hs
                          exact hs.weaken (Lo.sub_cons rfl (Lo.sub_cons rfl (Lo.sub_nil _)))
                  · rintro ⟨bx3, Gm5⟩ ⟨Gm5le, hr⟩
                    refine WE.then ?_
                    refine WC.seq ?_
                    refine WC.drawn [false, false, false, false, false, false, false] mix (by kernel_rfl) (fun hb => ?_)
                    refine Chain.y0 guard_none (fun _ hle => Y0.loadLA 12 ag48 rfl rfl (vecG_size _ _ _)) ?_
                    refine Chain.y0 guard_none (fun _ hle => Y0.move rfl) ?_
                    obtain ⟨yv18, hyv18, hr⟩ := hr
                    refine Chain.call0 guard_none (fun _ => YC.of E32 rfl) (L_R04_In _ _ _ _ _ hyv18) rfl (fun G' hle => ((yv6h.mono (Mem.le_trans (Mem.le_trans (Mem.le_trans (Mem.le_trans Gv5le Gv7le) Gv10le) Gm2le) Gm5le)).mono hle)) ?_
                    refine Chain.y0 guard_none (fun _ hle => Y0.loadLA 13 ag48 rfl rfl (vecG_size _ _ _)) ?_
                    refine Chain.y0 guard_none (fun _ hle => Y0.move rfl) ?_
                    obtain ⟨yv19, hyv19, hr⟩ := hr
                    refine Chain.call0 guard_none (fun _ => YC.of E32 rfl) (L_R04_In _ _ _ _ _ hyv19) rfl (fun G' hle => ((yv2h.mono (Mem.le_trans (Mem.le_trans (Mem.le_trans (Mem.le_trans (Mem.le_trans (Mem.le_trans Gv3le Gv4le) Gv5le) Gv7le) Gv10le) Gm2le) Gm5le)).mono hle)) ?_
                    refine Chain.y0 guard_none (fun _ hle => Y0.neqB Try.underlying4 rfl rfl) ?_
                    refine Chain.tail0 hb ?_
                    refine WL.nil ?_
                    refine WE.nx ?_
                    refine WE.then ?_
                    refine WC.condD (p := ¬ yv18 = yv19) rfl (fun hc8 => ?_) (fun hc8 => ?_)
                    · replace hr := hr.pos hc8
                      refine WC.seq ?_
                      refine WC.region ?_
                      refine WL.y0' guard_none (Y0.assign rfl) rfl ?_
                      refine WL.nil ?_
                      refine WE.then ?_
                      refine WC.ret ?_
                      replace hr : _ = r := hr
                      refine WE.inBlockRet ?_
                      refine WE.thenRet ?_
                      refine WE.thenRet ?_
                      refine WE.inBlockRet ?_
                      refine WE.endRet ?_
                      refine WE.thenRet ?_
                      subst hr
                      exact WE.ret1 rfl rfl rfl
                    · replace hr := hr.neg hc8
                      refine WC.skip ?_
                      refine WE.inBlock ?_
                      refine WE.then ?_
                      refine WC.region ?_
                      refine WL.y0' guard_none (Y0.move rfl) rfl ?_
                      refine WL.y0' guard_none (Y0.add rfl rfl) rfl ?_
                      refine WL.y0' guard_none (Y0.assign rfl) rfl ?_
                      refine WL.nil ?_
                      refine WE.backR ⟨IntKind.i64.wrap (v11_1 + 1), Gm5⟩ hr (Mem.le_trans Gm2le Gm5le) (Fr.sub_cons rfl (Fr.sub_cons rfl (Fr.sub_cons rfl (Fr.sub_cons rfl (Fr.sub_cons rfl (Fr.sub_cons rfl (Fr.sub_cons rfl (Fr.sub_nil _)))))))) ?_
                      · intro w hs
                        exact hs.weaken (Lo.sub_nil _)
            · replace hr := hr.neg hc3
              refine WC.exit ?_
              refine WE.thenExit ?_
              refine WE.thenExit ?_
              refine WE.exitHere ?_
              refine WE.endH Gm2 ⟨Gm2le, hr⟩ (Fr.sub_cons rfl (Fr.sub_nil _)) ?_
              · intro w hs
                exact hs.weaken (Lo.sub_nil _)
        · rintro Gm1 ⟨Gm1le, hr⟩
          refine WE.then ?_
          refine WC.seq ?_
          refine WC.region ?_
          refine WL.y0' guard_none (Y0.move rfl) rfl ?_
          refine WL.y0' guard_none (Y0.assign rfl) rfl ?_
          refine WL.nil ?_
          refine WE.then ?_
          refine WC.ret ?_
          replace hr : _ = r := hr
          subst hr
          exact WE.ret1 rfl rfl rfl
end Go.Proofs.Ytbdknlblnfnkkaa
