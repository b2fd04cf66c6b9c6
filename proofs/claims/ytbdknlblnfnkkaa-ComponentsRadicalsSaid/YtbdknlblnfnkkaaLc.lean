/- The code does what the models say. The conditions stand in each statement. -/
import Derived.Test.YtbdknlblnfnkkaaLb
namespace Go.Proofs.Ytbdknlblnfnkkaa
open Go Go.EL Go.RowKit Go.Proofs
theorem L_R04_Same (a1 : (List (Fin 8 → Int))) (b1 : (List (Fin 8 → Int))) (a1p : Option Addr) (a1c : Nat) (b1p : Option Addr) (b1c : Nat) (r : Bool) (hr : (R04_Same a1 b1).Ret r) : Ctr Try.prog 22 #[.slice a1p a1.length a1c, .slice b1p b1.length b1c] (fun G => SlR (Rp.vec .i64 8) G (.slice a1p a1.length a1c) a1 ∧ SlR (Rp.vec .i64 8) G (.slice b1p b1.length b1c) b1) (fun G v => v = .bool r) := by
  refine Ctr.enter (args := [_, _]) (N := 26) Try.func22 rfl rfl rfl (fun w0 G0 hL0 hpre => ?_)
  obtain ⟨a1h, b1h⟩ := hpre
  refine WC.seq ?_
  refine WC.region ?_
  refine WL.y0' guard_none (Y0.assign rfl) rfl ?_
  refine WL.nil ?_
  refine WE.then ?_
  refine WC.seq ?_
  refine WC.seq ?_
  refine WC.region ?_
  refine WL.y0' guard_none (Y0.move rfl) rfl ?_
  refine WL.y0' guard_none (Y0.lenR Try.underlying28 a1h rfl) rfl ?_
  refine WL.y0' guard_none (Y0.move rfl) rfl ?_
  refine WL.y0' guard_none (Y0.lenR Try.underlying28 b1h rfl) rfl ?_
  refine WL.y0' guard_none (Y0.neq rfl rfl) rfl ?_
  refine WL.nil ?_
  refine WE.then ?_
  refine WC.condD (p := ¬ (a1.length : Int) = (b1.length : Int)) rfl (fun hc1 => ?_) (fun hc1 => ?_)
  · replace hr := hr.pos hc1
    refine WC.seq ?_
    refine WC.region ?_
    refine WL.y0' guard_none (Y0.assign rfl) rfl ?_
    refine WL.nil ?_
    refine WE.then ?_
    refine WC.ret ?_
    replace hr : _ = r := hr
    refine WE.thenRet ?_
    subst hr
    exact WE.ret1 rfl rfl rfl
  · replace hr := hr.neg hc1
    refine WC.skip ?_
    refine WE.then ?_
    refine WC.seq ?_
    refine WC.seq ?_
    refine WC.region ?_
    refine WL.y0' guard_none (Y0.assign rfl) rfl ?_
    refine WL.nil ?_
    refine WE.then ?_
    refine WC.meetH (fun (gx : Mem) => match gx with | Gm1 => []) (fun (gx : Mem) => match gx with | Gm1 => Mem.le G0 Gm1 ∧ (R04_Same_k1).Ret r) (fun (gx : Mem) => match gx with | Gm1 => St w0 G0 Gm1 []) ?_ ?_
    · refine WC.block ?_
      let Phi1 : (Bool ⊕ Unit) → Prop := fun oo => ((fun ov => match ov with | .inl rv1 => Comp.ret rv1 | .inr () => R04_Same_k1 : (Bool ⊕ Unit) → Comp Bool) oo).wp (fun a => a = r)
      replace hr : (Comp.loop _ _).wp Phi1 := hr
      refine WC.loopR (Φ := Phi1) (fun (gx : Int × Mem) => match gx with | ⟨i1, Gm2⟩ => (i1 : Int)) (fun (gx : Int × Mem) => match gx with | ⟨i1, Gm2⟩ => [(0, .slice a1p a1.length a1c), (1, .slice b1p b1.length b1c), (5, .int .i64 i1)]) (fun (gx : Int × Mem) => match gx with | ⟨i1, Gm2⟩ => Mem.le G0 Gm2) (fun (gx : Int × Mem) => match gx with | ⟨i1, Gm2⟩ => St w0 G0 Gm2 []) ⟨0, G0⟩ hr (Fr.sub_cons rfl (Fr.sub_cons rfl (Fr.sub_cons rfl (Fr.sub_nil _)))) (Mem.le_refl _) ?_ ?_
      · intro w hs
        exact hs.weaken (Lo.sub_nil _)
      · intro Aq1 gx hx hr
        obtain ⟨i1, Gm2⟩ := gx
        have Gm2le := hx
        refine WC.seq ?_
        refine WC.seq ?_
        refine WC.region ?_
        refine WL.y0' guard_none (Y0.move rfl) rfl ?_
        refine WL.y0' guard_none (Y0.move rfl) rfl ?_
        refine WL.y0' guard_none (Y0.lenR Try.underlying28 (a1h.mono Gm2le) rfl) rfl ?_
        refine WL.y0' guard_none (Y0.lss rfl rfl) rfl ?_
        refine WL.nil ?_
        refine WE.then ?_
        refine WC.condD (p := i1 < (a1.length : Int)) rfl (fun hc2 => ?_) (fun hc2 => ?_)
        · replace hr := hr.pos hc2
          refine WC.skip ?_
          refine WE.then ?_
          refine WC.seq ?_
          refine WC.block ?_
          refine WC.seq ?_
          refine WC.drawn [false, false, false, false, false, false, false, false, false] mix (by kernel_rfl) (fun hb => ?_)
          refine Chain.y0 guard_none (fun _ hle => Y0.move rfl) ?_
          refine Chain.y0 guard_none (fun _ hle => Y0.move rfl) ?_
          obtain ⟨x1, hx1, hr⟩ := hr
          refine Chain.y0 guard_none (fun _ hle => Y0.idxR Try.underlying28 sz48 ((a1h.mono Gm2le).mono hle) rfl rfl hx1) ?_
          refine Chain.y0 guard_none (fun _ hle => Y0.loadGA _ ag48 rfl (vecG_size _ _ _) (AtK.vec (At.mono (At.mono (SlR.at a1h hx1) Gm2le) hle))) ?_
          refine Chain.y0 guard_none (fun _ hle => Y0.move rfl) ?_
          refine Chain.y0 guard_none (fun _ hle => Y0.move rfl) ?_
          obtain ⟨x2, hx2, hr⟩ := hr
          refine Chain.y0 guard_none (fun _ hle => Y0.idxR Try.underlying28 sz48 ((b1h.mono Gm2le).mono hle) rfl rfl hx2) ?_
          refine Chain.y0 guard_none (fun _ hle => Y0.loadGA _ ag48 rfl (vecG_size _ _ _) (AtK.vec (At.mono (At.mono (SlR.at b1h hx2) Gm2le) hle))) ?_
          refine Chain.y0 guard_none (fun _ hle => Y0.neqV Try.underlying48 Try.underlying3 sc3 sz3 eg48 rfl rfl) ?_
          refine Chain.tail0 hb ?_
          refine WL.nil ?_
          refine WE.nx ?_
          refine WE.then ?_
          refine WC.condD (p := ¬ x1 = x2) rfl (fun hc3 => ?_) (fun hc3 => ?_)
          · replace hr := hr.pos hc3
            refine WC.seq ?_
            refine WC.region ?_
            refine WL.y0' guard_none (Y0.assign rfl) rfl ?_
            refine WL.nil ?_
            refine WE.then ?_
            refine WC.ret ?_
            replace hr : _ = r := hr
            refine WE.inBlockRet ?_
            refine WE.thenRet ?_
            refine WE.thenRet ?_
            refine WE.inBlockRet ?_
            refine WE.endRet ?_
            refine WE.thenRet ?_
            subst hr
            exact WE.ret1 rfl rfl rfl
          · replace hr := hr.neg hc3
            refine WC.skip ?_
            refine WE.inBlock ?_
            refine WE.then ?_
            refine WC.region ?_
            refine WL.y0' guard_none (Y0.move rfl) rfl ?_
            refine WL.y0' guard_none (Y0.add rfl rfl) rfl ?_
            refine WL.y0' guard_none (Y0.assign rfl) rfl ?_
            refine WL.nil ?_
            refine WE.backR ⟨IntKind.i64.wrap (i1 + 1), Gm2⟩ hr Gm2le (Fr.sub_cons rfl (Fr.sub_cons rfl (Fr.sub_cons rfl (Fr.sub_nil _)))) ?_
            · intro w hs
              exact hs.weaken (Lo.sub_nil _)
        · replace hr := hr.neg hc2
          refine WC.exit ?_
          refine WE.thenExit ?_
          refine WE.thenExit ?_
          refine WE.exitHere ?_
          refine WE.endH Gm2 ⟨Gm2le, hr⟩ (Fr.sub_nil _) ?_
          · intro w hs
            exact hs.weaken (Lo.sub_nil _)
    · rintro Gm1 ⟨Gm1le, hr⟩
      refine WE.then ?_
      refine WC.seq ?_
      refine WC.region ?_
      refine WL.y0' guard_none (Y0.assign rfl) rfl ?_
      refine WL.nil ?_
      refine WE.then ?_
      refine WC.ret ?_
      replace hr : _ = r := hr
      subst hr
      exact WE.ret1 rfl rfl rfl
theorem L_R18_SameSets (a1 : (List Int)) (b1 : (List Int)) (a1p : Option Addr) (a1c : Nat) (b1p : Option Addr) (b1c : Nat) (r : Bool) (hr : (R18_SameSets a1 b1).Ret r) : Ctr Try.prog 23 #[.slice a1p a1.length a1c, .slice b1p b1.length b1c] (fun G => SlR (Rp.int .u8) G (.slice a1p a1.length a1c) a1 ∧ SlR (Rp.int .u8) G (.slice b1p b1.length b1c) b1) (fun G v => v = .bool r) := by
  refine Ctr.enter (args := [_, _]) (N := 10) Try.func23 rfl rfl rfl (fun w0 G0 hL0 hpre => ?_)
  obtain ⟨a1h, b1h⟩ := hpre
  refine WC.seq ?_
  refine WC.region ?_
  refine WL.y0' guard_none (Y0.assign rfl) rfl ?_
  refine WL.nil ?_
  refine WE.then ?_
  refine WC.seq ?_
  refine WC.region ?_
  refine WL.y0' guard_none (Y0.move rfl) rfl ?_
  refine WL.y0' guard_none (Y0.convBS Try.underlying33 Try.underlying5 Try.underlying9 a1h rfl) rfl ?_
  refine WL.y0' guard_none (Y0.move rfl) rfl ?_
  refine WL.y0' guard_none (Y0.convBS Try.underlying33 Try.underlying5 Try.underlying9 b1h rfl) rfl ?_
  refine WL.y0' guard_none (Y0.eqlS Try.underlying9 rfl rfl) rfl ?_
  refine WL.y0' guard_none (Y0.assign rfl) rfl ?_
  refine WL.nil ?_
  refine WE.then ?_
  refine WC.ret ?_
  replace hr : _ = r := hr
  subst hr
  exact WE.ret1 rfl rfl rfl
theorem L_R21_SameParts (a1 : (List T_api_Part)) (b1 : (List T_api_Part)) (a1p : Option Addr) (a1c : Nat) (b1p : Option Addr) (b1c : Nat) (r : Bool) (hr : (R21_SameParts a1 b1).Ret r) : Ctr Try.prog 24 #[.slice a1p a1.length a1c, .slice b1p b1.length b1c] (fun G => SlR rp_api_Part G (.slice a1p a1.length a1c) a1 ∧ SlR rp_api_Part G (.slice b1p b1.length b1c) b1) (fun G v => v = .bool r) := by
  refine Ctr.enter (args := [_, _]) (N := 42) Try.func24 rfl rfl rfl (fun w0 G0 hL0 hpre => ?_)
  obtain ⟨a1h, b1h⟩ := hpre
  refine WC.seq ?_
  refine WC.region ?_
  refine WL.y0' guard_none (Y0.assign rfl) rfl ?_
  refine WL.nil ?_
  refine WE.then ?_
  refine WC.seq ?_
  refine WC.seq ?_
  refine WC.region ?_
  refine WL.y0' guard_none (Y0.move rfl) rfl ?_
  refine WL.y0' guard_none (Y0.lenR Try.underlying36 a1h rfl) rfl ?_
  refine WL.y0' guard_none (Y0.move rfl) rfl ?_
  refine WL.y0' guard_none (Y0.lenR Try.underlying36 b1h rfl) rfl ?_
  refine WL.y0' guard_none (Y0.neq rfl rfl) rfl ?_
  refine WL.nil ?_
  refine WE.then ?_
  refine WC.condD (p := ¬ (a1.length : Int) = (b1.length : Int)) rfl (fun hc1 => ?_) (fun hc1 => ?_)
  · replace hr := hr.pos hc1
    refine WC.seq ?_
    refine WC.region ?_
    refine WL.y0' guard_none (Y0.assign rfl) rfl ?_
    refine WL.nil ?_
    refine WE.then ?_
    refine WC.ret ?_
    replace hr : _ = r := hr
    refine WE.thenRet ?_
    subst hr
    exact WE.ret1 rfl rfl rfl
  · replace hr := hr.neg hc1
    refine WC.skip ?_
    refine WE.then ?_
    refine WC.seq ?_
    refine WC.seq ?_
    refine WC.region ?_
    refine WL.y0' guard_none (Y0.assign rfl) rfl ?_
    refine WL.nil ?_
    refine WE.then ?_
    refine WC.meetH (fun (gx : Mem) => match gx with | Gm1 => []) (fun (gx : Mem) => match gx with | Gm1 => Mem.le G0 Gm1 ∧ (R21_SameParts_k1).Ret r) (fun (gx : Mem) => match gx with | Gm1 => St w0 G0 Gm1 []) ?_ ?_
    · refine WC.block ?_
      let Phi1 : (Bool ⊕ Unit) → Prop := fun oo => ((fun ov => match ov with | .inl rv1 => Comp.ret rv1 | .inr () => R21_SameParts_k1 : (Bool ⊕ Unit) → Comp Bool) oo).wp (fun a => a = r)
      replace hr : (Comp.loop _ _).wp Phi1 := hr
      refine WC.loopR (Φ := Phi1) (fun (gx : Int × Mem) => match gx with | ⟨i1, Gm2⟩ => (i1 : Int)) (fun (gx : Int × Mem) => match gx with | ⟨i1, Gm2⟩ => [(0, .slice a1p a1.length a1c), (1, .slice b1p b1.length b1c), (5, .int .i64 i1)]) (fun (gx : Int × Mem) => match gx with | ⟨i1, Gm2⟩ => Mem.le G0 Gm2) (fun (gx : Int × Mem) => match gx with | ⟨i1, Gm2⟩ => St w0 G0 Gm2 []) ⟨0, G0⟩ hr (Fr.sub_cons rfl (Fr.sub_cons rfl (Fr.sub_cons rfl (Fr.sub_nil _)))) (Mem.le_refl _) ?_ ?_
      · intro w hs
        exact hs.weaken (Lo.sub_nil _)
      · intro Aq1 gx hx hr
        obtain ⟨i1, Gm2⟩ := gx
        have Gm2le := hx
        refine WC.seq ?_
        refine WC.seq ?_
        refine WC.region ?_
        refine WL.y0' guard_none (Y0.move rfl) rfl ?_
        refine WL.y0' guard_none (Y0.move rfl) rfl ?_
        refine WL.y0' guard_none (Y0.lenR Try.underlying36 (a1h.mono Gm2le) rfl) rfl ?_
        refine WL.y0' guard_none (Y0.lss rfl rfl) rfl ?_
        refine WL.nil ?_
        refine WE.then ?_
        refine WC.condD (p := i1 < (a1.length : Int)) rfl (fun hc2 => ?_) (fun hc2 => ?_)
        · replace hr := hr.pos hc2
          refine WC.skip ?_
          refine WE.then ?_
          refine WC.seq ?_
          refine WC.block ?_
          refine WC.seq ?_
          refine WC.drawn [false, false, false, false, false, false, false, false, false, false, false, false, false, false, false, false, false, false, false, false, false, false, false, false, false] mix (by kernel_rfl) (fun hb => ?_)
          refine Chain.y0 guard_none (fun _ hle => Y0.move rfl) ?_
          refine Chain.y0 guard_none (fun _ hle => Y0.move rfl) ?_
          obtain ⟨x1, hx1, hr⟩ := hr
          refine Chain.y0 guard_none (fun _ hle => Y0.idxR Try.underlying36 sz60 ((a1h.mono Gm2le).mono hle) rfl rfl hx1) ?_
          refine Chain.y0 guard_none (fun _ hle => Y0.fieldAddr Try.underlying60 rfl (fun _ => by kernel_rfl) rfl) ?_
          refine Chain.y0 guard_none (fun _ hle => Y0.loadG sc5 rfl (AtK.int (At.mono (At.mono (AtK.fst (AtK.via (SlR.at a1h hx1))) Gm2le) hle))) ?_
          refine Chain.y0 guard_none (fun _ hle => Y0.move rfl) ?_
          refine Chain.y0 guard_none (fun _ hle => Y0.move rfl) ?_
          obtain ⟨x2, hx2, hr⟩ := hr
          refine Chain.y0 guard_none (fun _ hle => Y0.idxR Try.underlying36 sz60 ((b1h.mono Gm2le).mono hle) rfl rfl hx2) ?_
          refine Chain.y0 guard_none (fun _ hle => Y0.fieldAddr Try.underlying60 rfl (fun _ => by kernel_rfl) rfl) ?_
          refine Chain.y0 guard_none (fun _ hle => Y0.loadG sc5 rfl (AtK.int (At.mono (At.mono (AtK.fst (AtK.via (SlR.at b1h hx2))) Gm2le) hle))) ?_
          refine Chain.caseY0 (p := ¬ x1.prime = x2.prime) guard_none (fun _ hle => Y0.neq rfl rfl) (fun hb1 => ?_) (fun hb1 => ?_)
          · replace hr := hr.pos hb1
            refine Chain.y0 guard_none (fun _ hle => Y0.move rfl) ?_
            refine Chain.skip (guard_noF rfl rfl) ?_
            refine Chain.skip (guard_noF rfl rfl) ?_
            refine Chain.skip (guard_noF rfl rfl) ?_
            refine Chain.skip (guard_noF rfl rfl) ?_
            refine Chain.skip (guard_noF rfl rfl) ?_
            refine Chain.skip (guard_noF rfl rfl) ?_
            refine Chain.skip (guard_noF rfl rfl) ?_
            refine Chain.skip (guard_noF rfl rfl) ?_
            refine Chain.skip (guard_noF rfl rfl) ?_
            refine Chain.skip (guard_noF rfl rfl) ?_
            refine Chain.skip (guard_noF rfl rfl) ?_
            refine Chain.skip (guard_noF rfl rfl) ?_
            refine Chain.y0 guard_none (fun _ hle => Y0.pickT rfl rfl) ?_
            refine Chain.tail0 hb ?_
            refine WL.nil ?_
            refine WE.nx ?_
            refine WE.then ?_
            refine WC.condT rfl ?_
            refine WC.seq ?_
            refine WC.region ?_
            refine WL.y0' guard_none (Y0.assign rfl) rfl ?_
            refine WL.nil ?_
            refine WE.then ?_
            refine WC.ret ?_
            replace hr : _ = r := hr
            refine WE.inBlockRet ?_
            refine WE.thenRet ?_
            refine WE.thenRet ?_
            refine WE.inBlockRet ?_
            refine WE.endRet ?_
            refine WE.thenRet ?_
            subst hr
            exact WE.ret1 rfl rfl rfl
          · replace hr := hr.neg hb1
            refine Chain.y0 guard_none (fun _ hle => Y0.move rfl) ?_
            refine Chain.y0 (guard_yes rfl rfl) (fun _ hle => Y0.move rfl) ?_
            refine Chain.y0 (guard_yes rfl rfl) (fun _ hle => Y0.move rfl) ?_
            obtain ⟨x3, hx3, hr⟩ := hr
            refine Chain.y0 (guard_yes rfl rfl) (fun _ hle => Y0.idxR Try.underlying36 sz60 ((a1h.mono Gm2le).mono hle) rfl rfl hx3) ?_
            refine Chain.y0 (guard_yes rfl rfl) (fun _ hle => Y0.fieldAddr Try.underlying60 rfl (fun _ => by kernel_rfl) rfl) ?_
            obtain ⟨p1, p1c, p1e, p1h⟩ := AtK.sl (At.mono (AtK.snd (AtK.via (SlR.at a1h hx3))) Gm2le)
            refine Chain.y0 (guard_yes rfl rfl) (fun _ hle => Y0.loadG sc28 rfl (hle _ _ _ p1e)) ?_
            refine Chain.y0 (guard_yes rfl rfl) (fun _ hle => Y0.move rfl) ?_
            refine Chain.y0 (guard_yes rfl rfl) (fun _ hle => Y0.move rfl) ?_
            obtain ⟨x4, hx4, hr⟩ := hr
            refine Chain.y0 (guard_yes rfl rfl) (fun _ hle => Y0.idxR Try.underlying36 sz60 ((b1h.mono Gm2le).mono hle) rfl rfl hx4) ?_
            refine Chain.y0 (guard_yes rfl rfl) (fun _ hle => Y0.fieldAddr Try.underlying60 rfl (fun _ => by kernel_rfl) rfl) ?_
            obtain ⟨p2, p2c, p2e, p2h⟩ := AtK.sl (At.mono (AtK.snd (AtK.via (SlR.at b1h hx4))) Gm2le)
            refine Chain.y0 (guard_yes rfl rfl) (fun _ hle => Y0.loadG sc28 rfl (hle _ _ _ p2e)) ?_
            obtain ⟨yv1, hyv1, hr⟩ := hr
            refine Chain.call0 (guard_yes rfl rfl) (fun _ => YC.of E22 rfl) (L_R04_Same _ _ _ _ _ _ _ hyv1) rfl (fun G' hle => ⟨(p1h.mono hle), (p2h.mono hle)⟩) ?_
            refine Chain.y0 (guard_yes rfl rfl) (fun _ hle => Y0.not rfl) ?_
            refine Chain.y0 guard_none (fun _ hle => Y0.pickF rfl rfl) ?_
            refine Chain.tail0 hb ?_
            refine WL.nil ?_
            refine WE.nx ?_
            refine WE.then ?_
            refine WC.cond (b := !yv1) rfl (fun hc3 => ?_) (fun hc3 => ?_)
            · replace hr := hr.pos hc3
              refine WC.seq ?_
              refine WC.region ?_
              refine WL.y0' guard_none (Y0.assign rfl) rfl ?_
              refine WL.nil ?_
              refine WE.then ?_
              refine WC.ret ?_
              replace hr : _ = r := hr
              refine WE.inBlockRet ?_
              refine WE.thenRet ?_
              refine WE.thenRet ?_
              refine WE.inBlockRet ?_
              refine WE.endRet ?_
              refine WE.thenRet ?_
              subst hr
              exact WE.ret1 rfl rfl rfl
            · replace hr := hr.neg (Bool.eq_false_iff.1 hc3)
              refine WC.skip ?_
              refine WE.inBlock ?_
              refine WE.then ?_
              refine WC.region ?_
              refine WL.y0' guard_none (Y0.move rfl) rfl ?_
              refine WL.y0' guard_none (Y0.add rfl rfl) rfl ?_
              refine WL.y0' guard_none (Y0.assign rfl) rfl ?_
              refine WL.nil ?_
              refine WE.backR ⟨IntKind.i64.wrap (i1 + 1), Gm2⟩ hr Gm2le (Fr.sub_cons rfl (Fr.sub_cons rfl (Fr.sub_cons rfl (Fr.sub_nil _)))) ?_
              · intro w hs
                exact hs.weaken (Lo.sub_nil _)
        · replace hr := hr.neg hc2
          refine WC.exit ?_
          refine WE.thenExit ?_
          refine WE.thenExit ?_
          refine WE.exitHere ?_
          refine WE.endH Gm2 ⟨Gm2le, hr⟩ (Fr.sub_nil _) ?_
          · intro w hs
            exact hs.weaken (Lo.sub_nil _)
    · rintro Gm1 ⟨Gm1le, hr⟩
      refine WE.then ?_
      refine WC.seq ?_
      refine WC.region ?_
      refine WL.y0' guard_none (Y0.assign rfl) rfl ?_
      refine WL.nil ?_
      refine WE.then ?_
      refine WC.ret ?_
      replace hr : _ = r := hr
      subst hr
      exact WE.ret1 rfl rfl rfl
theorem L_components_Radical (l1 : (List (Fin 8 → Int))) (l1p : Option Addr) (l1c : Nat) (r : (List (Fin 8 → Int))) (hr : (components_Radical l1).Ret r) : Ctr Try.prog 27 #[.slice l1p l1.length l1c] (fun G => SlR (Rp.vec .i64 8) G (.slice l1p l1.length l1c) l1) (fun G v => ∃ zp zc, v = .slice zp r.length zc ∧ SlR (Rp.vec .i64 8) G (.slice zp r.length zc) r) := by
  refine Ctr.enter (args := [_]) (N := 30) Try.func27 rfl rfl rfl (fun w0 G0 hL0 hpre => ?_)
  have l1h := hpre
  refine WC.seq ?_
  refine WC.region ?_
  refine WL.y0' guard_none (Y0.assign rfl) rfl ?_
  refine WL.nil ?_
  refine WE.then ?_
  refine WC.seq ?_
  refine WC.region ?_
  refine WL.y0' guard_none (Y0.assign rfl) rfl ?_
  refine WL.nil ?_
  refine WE.then ?_
  refine WC.seq ?_
  refine WC.seq ?_
  refine WC.region ?_
  refine WL.y0' guard_none (Y0.move rfl) rfl ?_
  refine WL.y0' guard_none (Y0.lenR Try.underlying28 l1h rfl) rfl ?_
  refine WL.y0' guard_none (Y0.move rfl) rfl ?_
  refine WL.nil ?_
  refine WE.then ?_
  refine WC.meetH (fun (gx : (List (Fin 8 → Int)) × Option Addr × Nat × Option Ow × Mem) => match gx with | ⟨rv1, rv1p, rv1c, rv1tk, Gm1⟩ => [(3, .slice rv1p rv1.length rv1c)]) (fun (gx : (List (Fin 8 → Int)) × Option Addr × Nat × Option Ow × Mem) => match gx with | ⟨rv1, rv1p, rv1c, rv1tk, Gm1⟩ => Mem.le G0 Gm1 ∧ SlR (Rp.vec .i64 8) Gm1 (.slice rv1p rv1.length rv1c) rv1 ∧ Tok 8 48 (.slice rv1p rv1.length rv1c) rv1.length rv1tk ∧ (components_Radical_k1 rv1).Ret r) (fun (gx : (List (Fin 8 → Int)) × Option Addr × Nat × Option Ow × Mem) => match gx with | ⟨rv1, rv1p, rv1c, rv1tk, Gm1⟩ => St w0 G0 Gm1 [(1003, rv1tk)]) ?_ ?_
  · refine WC.block ?_
    let Phi1 : (((List (Fin 8 → Int)))) → Prop := fun oo => ((fun ov => match ov with | rv1 => components_Radical_k1 rv1 : (((List (Fin 8 → Int)))) → Comp ((List (Fin 8 → Int)))) oo).wp (fun a => a = r)
    replace hr : (Comp.loop _ _).wp Phi1 := hr
    refine WC.loopR (Φ := Phi1) (fun (gx : (List (Fin 8 → Int)) × Option Addr × Nat × Option Ow × Int × Mem) => match gx with | ⟨rv2, rv2p, rv2c, rv2tk, v9_1, Gm2⟩ => ((rv2, v9_1) : (List (Fin 8 → Int)) × Int)) (fun (gx : (List (Fin 8 → Int)) × Option Addr × Nat × Option Ow × Int × Mem) => match gx with | ⟨rv2, rv2p, rv2c, rv2tk, v9_1, Gm2⟩ => [(3, .slice rv2p rv2.length rv2c), (7, .slice l1p l1.length l1c), (8, .int .i64 (l1.length : Int)), (9, .int .i64 v9_1)]) (fun (gx : (List (Fin 8 → Int)) × Option Addr × Nat × Option Ow × Int × Mem) => match gx with | ⟨rv2, rv2p, rv2c, rv2tk, v9_1, Gm2⟩ => Mem.le G0 Gm2 ∧ SlR (Rp.vec .i64 8) Gm2 (.slice rv2p rv2.length rv2c) rv2 ∧ Tok 8 48 (.slice rv2p rv2.length rv2c) rv2.length rv2tk) (fun (gx : (List (Fin 8 → Int)) × Option Addr × Nat × Option Ow × Int × Mem) => match gx with | ⟨rv2, rv2p, rv2c, rv2tk, v9_1, Gm2⟩ => St w0 G0 Gm2 [(1003, rv2tk)]) ⟨[], none, 0, none, 0, G0⟩ hr (Fr.sub_cons rfl (Fr.sub_cons rfl (Fr.sub_cons rfl (Fr.sub_cons rfl (Fr.sub_nil _))))) ⟨(Mem.le_refl _), (SlR.nil _ _), Tok.full⟩ ?_ ?_
    · intro w hs
      exact hs.weaken (Lo.sub_no (Lo.sub_nil _))
    · intro Aq1 gx hx hr
      obtain ⟨rv2, rv2p, rv2c, rv2tk, v9_1, Gm2⟩ := gx
      obtain ⟨Gm2le, rv2h, rv2ht⟩ := hx
      refine WC.seq ?_
      refine WC.region ?_
      refine WL.y0' guard_none (Y0.lss rfl rfl) rfl ?_
      refine WL.nil ?_
      refine WE.then ?_
      refine WC.seq ?_
      refine WC.condD (p := v9_1 < (l1.length : Int)) rfl (fun hc1 => ?_) (fun hc1 => ?_)
      · replace hr := hr.pos hc1
        refine WC.skip ?_
        refine WE.then ?_
        refine WC.seq ?_
        refine WC.block ?_
        refine WC.seq ?_
        refine WC.region ?_
        obtain ⟨x1, hx1, hr⟩ := hr
        refine WL.y0' guard_none (Y0.idxR Try.underlying28 sz48 (l1h.mono Gm2le) rfl rfl hx1) rfl ?_
        refine WL.y0' guard_none (Y0.loadGA _ ag48 rfl (vecG_size _ _ _) (AtK.vec (At.mono (SlR.at l1h hx1) Gm2le))) rfl ?_
        refine WL.alloc 5 guard_none z48 rfl (fun b1 => ?_)
        refine WL.storeLA 5 guard_none sz48 rfl rfl rfl (vecG_size _ _ _) (vecG_size _ _ _) (fun u hu => Rp.one (Rp.vec .i64 8) (G := Gm2) (x := x1) (cs := vecG (Value.int .i64) 8 x1) rfl u (by simpa using hu)) ?_
        refine WL.nil ?_
        refine WE.then ?_
        refine WC.seq ?_
        refine WC.seq ?_
        refine WC.region ?_
        refine WL.y0' guard_none (Y0.move rfl) rfl ?_
        refine WL.nil ?_
        refine WE.then ?_
        refine WC.meetH (fun (gx : (Fin 8 → Int) × Mem) => match gx with | ⟨bx1, Gm3⟩ => [(3, .slice rv2p rv2.length rv2c), (5, .pointer (some ⟨b1, 0, none⟩)), (7, .slice l1p l1.length l1c), (8, .int .i64 (l1.length : Int)), (9, .int .i64 v9_1)]) (fun (gx : (Fin 8 → Int) × Mem) => match gx with | ⟨bx1, Gm3⟩ => Mem.le Gm2 Gm3 ∧ (components_Radical_k3 rv2 v9_1 bx1).wp (Out Aq1 Phi1)) (fun (gx : (Fin 8 → Int) × Mem) => match gx with | ⟨bx1, Gm3⟩ => St w0 G0 Gm3 [(5, some ⟨b1, .cells (vecG (Value.int .i64) 8 bx1).toArray 48 (0, 0), 0⟩), (1003, rv2tk)]) ?_ ?_
        · refine WC.block ?_
          let Phi2 : (Fin 8 → Int) → Prop := fun oo => ((fun ov => match ov with | bx1 => components_Radical_k3 rv2 v9_1 bx1 : (Fin 8 → Int) → Comp (((List (Fin 8 → Int)) × Int) ⊕ (((List (Fin 8 → Int)))))) oo).wp (Out Aq1 Phi1)
          replace hr : (Comp.loop _ _).wp Phi2 := hr
          refine WC.loopR (Φ := Phi2) (fun (gx : Int × (Fin 8 → Int) × Mem) => match gx with | ⟨v13_1, bx2, Gm4⟩ => ((v13_1, bx2) : Int × (Fin 8 → Int))) (fun (gx : Int × (Fin 8 → Int) × Mem) => match gx with | ⟨v13_1, bx2, Gm4⟩ => [(3, .slice rv2p rv2.length rv2c), (5, .pointer (some ⟨b1, 0, none⟩)), (7, .slice l1p l1.length l1c), (8, .int .i64 (l1.length : Int)), (9, .int .i64 v9_1), (13, .int .i64 v13_1)]) (fun (gx : Int × (Fin 8 → Int) × Mem) => match gx with | ⟨v13_1, bx2, Gm4⟩ => Mem.le Gm2 Gm4) (fun (gx : Int × (Fin 8 → Int) × Mem) => match gx with | ⟨v13_1, bx2, Gm4⟩ => St w0 G0 Gm4 [(5, some ⟨b1, .cells (vecG (Value.int .i64) 8 bx2).toArray 48 (0, 0), 0⟩), (1003, rv2tk)]) ⟨0, x1, Gm2⟩ hr (Fr.sub_cons rfl (Fr.sub_cons rfl (Fr.sub_cons rfl (Fr.sub_cons rfl (Fr.sub_cons rfl (Fr.sub_cons rfl (Fr.sub_nil _))))))) (Mem.le_refl _) ?_ ?_
          · intro w hs
            exact hs.weaken (Lo.sub_cons rfl (Lo.sub_cons rfl (Lo.sub_nil _)))
          · intro Aq2 gx hx hr
            obtain ⟨v13_1, bx2, Gm4⟩ := gx
            have Gm4le := hx
            refine WC.seq ?_
            refine WC.region ?_
            refine WL.y0' guard_none (Y0.lss rfl rfl) rfl ?_
            refine WL.nil ?_
            refine WE.then ?_
            refine WC.seq ?_
            refine WC.condD (p := v13_1 < 8) rfl (fun hc2 => ?_) (fun hc2 => ?_)
            · replace hr := hr.pos hc2
              refine WC.skip ?_
              refine WE.then ?_
              refine WC.seq ?_
              refine WC.block ?_
              refine WC.seq ?_
              refine WC.region ?_
              refine WL.y0' guard_none (Y0.move rfl) rfl ?_
              refine WL.y0' guard_none (Y0.assign rfl) rfl ?_
              refine WL.nil ?_
              refine WE.then ?_
              refine WC.region ?_
              refine WL.y0' guard_none (Y0.move rfl) rfl ?_
              refine WL.y0' guard_none (Y0.move rfl) rfl ?_
              obtain ⟨hi1, hr⟩ := hr
              refine WL.y0' guard_none (Y0.idxA0 Try.underlying48 sz3 rfl rfl hi1) rfl ?_
              refine WL.y0' guard_none (Y0.loadL 5 sc3 rfl rfl (vecG_at _ _ _ hi1)) rfl ?_
              refine WL.y0' guard_none (Y0.min2 rfl rfl) rfl ?_
              obtain ⟨hi2, hr⟩ := hr
              refine WL.y0' guard_none (Y0.idxA0 Try.underlying48 sz3 rfl rfl hi2) rfl ?_
              refine WL.storeL 5 (vecG (Value.int .i64) 8 (setF bx2 v13_1.toNat (if 1 < (getF bx2 v13_1) then 1 else (getF bx2 v13_1)))).toArray guard_none sz3 rfl rfl rfl (by first | (rw [vecG_size]; omega) | (show _ < (vecG _ _ _).toArray.size; rw [vecG_size]; omega)) rfl (vecG_put _ _ _ _ _) ?_
              refine WL.nil ?_
              refine WE.inBlock ?_
              refine WE.then ?_
              refine WC.region ?_
              refine WL.y0' guard_none (Y0.add rfl rfl) rfl ?_
              refine WL.y0' guard_none (Y0.move rfl) rfl ?_
              refine WL.nil ?_
              refine WE.backR ⟨IntKind.i64.wrap (v13_1 + 1), setF bx2 v13_1.toNat (if 1 < (getF bx2 v13_1) then 1 else (getF bx2 v13_1)), Gm4⟩ hr Gm4le (Fr.sub_cons rfl (Fr.sub_cons rfl (Fr.sub_cons rfl (Fr.sub_cons rfl (Fr.sub_cons rfl (Fr.sub_cons rfl (Fr.sub_nil _))))))) ?_
              · intro w hs
                exact hs.weaken (Lo.sub_cons rfl (Lo.sub_cons rfl (Lo.sub_nil _)))
            · replace hr := hr.neg hc2
              refine WC.exit ?_
              refine WE.thenExit ?_
              refine WE.thenExit ?_
              refine WE.exitHere ?_
              refine WE.endH ⟨bx2, Gm4⟩ ⟨Gm4le, hr⟩ (Fr.sub_cons rfl (Fr.sub_cons rfl (Fr.sub_cons rfl (Fr.sub_cons rfl (Fr.sub_cons rfl (Fr.sub_nil _)))))) ?_
              · intro w hs
                exact hs.weaken (Lo.sub_cons rfl (Lo.sub_cons rfl (Lo.sub_nil _)))
        · rintro ⟨bx1, Gm3⟩ ⟨Gm3le, hr⟩
          refine WE.then ?_
          refine WC.region ?_
          refine WL.y0' guard_none (Y0.move rfl) rfl ?_
          refine WL.y0' guard_none (Y0.loadLA 5 ag48 rfl rfl (vecG_size _ _ _)) rfl ?_
          refine WL.litR (e := 48) (r := (Rp.vec .i64 8)) (vs := #[(0, .agg (vecG (Value.int .i64) 8 bx1).toArray)]) (cs := (vecG (Value.int .i64) 8 bx1) ++ ([])) ([bx1] : List (Fin 8 → Int)) guard_none rfl rfl rfl rfl (by decide) (fun _ => by kernel_rfl) ⟨vecG (Value.int .i64) 8 bx1, [], rfl, rfl, rfl⟩ (key := 999) rfl (by rw [hL0]; rfl) (fun p1 Gv2 Gv2le p1h => ?_)
          obtain ⟨hsm1, hr⟩ := hr
          refine WL.appendR (r := (Rp.vec .i64 8)) 1003 guard_none rfl Try.underlying28 el48 rfl (by decide) rfl rfl (rv2h.mono (Mem.le_trans Gm3le Gv2le)) rfl (by rw [hL0]; rfl) rv2ht p1h hsm1 (fun p2 p2c p2tk Gv3 Gv3le p2h p2ht => ?_)
          refine WL.y0' guard_none (Y0.assign rfl) rfl ?_
          refine WL.nil ?_
          refine WE.inBlock ?_
          refine WE.then ?_
          refine WC.region ?_
          refine WL.y0' guard_none (Y0.add rfl rfl) rfl ?_
          refine WL.y0' guard_none (Y0.move rfl) rfl ?_
          refine WL.nil ?_
          refine WE.backR ⟨(rv2 ++ [bx1]), p2, p2c, p2tk, IntKind.i64.wrap (v9_1 + 1), Gv3⟩ hr ⟨(Mem.le_trans (Mem.le_trans (Mem.le_trans Gm2le Gm3le) Gv2le) Gv3le), p2h, p2ht⟩ (Fr.sub_cons rfl (Fr.sub_cons rfl (Fr.sub_cons rfl (Fr.sub_cons rfl (Fr.sub_nil _))))) ?_
          · intro w hs
            exact hs.weaken (Lo.sub_cons rfl (Lo.sub_nil _))
      · replace hr := hr.neg hc1
        refine WC.exit ?_
        refine WE.thenExit ?_
        refine WE.thenExit ?_
        refine WE.exitHere ?_
        refine WE.endH ⟨rv2, rv2p, rv2c, rv2tk, Gm2⟩ ⟨Gm2le, rv2h, rv2ht, hr⟩ (Fr.sub_cons rfl (Fr.sub_nil _)) ?_
        · intro w hs
          exact hs.weaken (Lo.sub_cons rfl (Lo.sub_nil _))
  · rintro ⟨rv1, rv1p, rv1c, rv1tk, Gm1⟩ ⟨Gm1le, rv1h, rv1ht, hr⟩
    refine WE.then ?_
    refine WC.seq ?_
    refine WC.region ?_
    refine WL.y0' guard_none (Y0.move rfl) rfl ?_
    obtain ⟨yv1, hyv1, hr⟩ := hr
    refine WL.call guard_none rfl (YC.of E55 rfl) (L_monomial_Minimal _ _ _ _ hyv1) rfl (rv1h) (fun yv1v Gv1 Gv1le yv1post => ?_)
    obtain ⟨yv1p, yv1c, rfl, yv1h⟩ := yv1post
    refine WL.y0' guard_none (Y0.assign rfl) rfl ?_
    refine WL.nil ?_
    refine WE.then ?_
    refine WC.ret ?_
    replace hr : _ = r := hr
    subst hr
    exact WE.ret1 rfl rfl ⟨_, _, rfl, yv1h⟩
theorem L_components_Meet (l1 : (List (Fin 8 → Int))) (m1 : (List (Fin 8 → Int))) (l1p : Option Addr) (l1c : Nat) (m1p : Option Addr) (m1c : Nat) (r : (List (Fin 8 → Int))) (hr : (components_Meet l1 m1).Ret r) : Ctr Try.prog 25 #[.slice l1p l1.length l1c, .slice m1p m1.length m1c] (fun G => SlR (Rp.vec .i64 8) G (.slice l1p l1.length l1c) l1 ∧ SlR (Rp.vec .i64 8) G (.slice m1p m1.length m1c) m1) (fun G v => ∃ zp zc, v = .slice zp r.length zc ∧ SlR (Rp.vec .i64 8) G (.slice zp r.length zc) r) := by
  refine Ctr.enter (args := [_, _]) (N := 9) Try.func25 rfl rfl rfl (fun w0 G0 hL0 hpre => ?_)
  obtain ⟨l1h, m1h⟩ := hpre
  refine WC.seq ?_
  refine WC.region ?_
  refine WL.y0' guard_none (Y0.assign rfl) rfl ?_
  refine WL.nil ?_
  refine WE.then ?_
  refine WC.seq ?_
  refine WC.region ?_
  refine WL.y0' guard_none (Y0.move rfl) rfl ?_
  refine WL.y0' guard_none (Y0.move rfl) rfl ?_
  refine WL.litR (e := 28) (r := (Rp.sl (Rp.vec .i64 8))) (vs := #[(0, .slice l1p l1.length l1c), (1, .slice m1p m1.length m1c)]) (cs := [.slice l1p l1.length l1c] ++ ([.slice m1p m1.length m1c] ++ ([]))) ([l1, m1] : List (List (Fin 8 → Int))) guard_none rfl rfl rfl rfl (by decide) (fun _ => by kernel_rfl) ⟨[.slice l1p l1.length l1c], [.slice m1p m1.length m1c] ++ ([]), rfl, ⟨_, rfl, l1h⟩, ⟨[.slice m1p m1.length m1c], [], rfl, ⟨_, rfl, m1h⟩, rfl⟩⟩ (key := 999) rfl (by rw [hL0]; rfl) (fun p1 Gv1 Gv1le p1h => ?_)
  obtain ⟨yv1, hyv1, hr⟩ := hr
  refine WL.call guard_none rfl (YC.of E52 rfl) (L_components_meet _ _ _ _ hyv1) rfl (p1h) (fun yv1v Gv2 Gv2le yv1post => ?_)
  obtain ⟨yv1p, yv1c, rfl, yv1h⟩ := yv1post
  refine WL.y0' guard_none (Y0.assign rfl) rfl ?_
  refine WL.nil ?_
  refine WE.then ?_
  refine WC.ret ?_
  replace hr : _ = r := hr
  subst hr
  exact WE.ret1 rfl rfl ⟨_, _, rfl, yv1h⟩
theorem L_law21_sanity (r : Bool) (hr : (law21_sanity).Ret r) : Ctr Try.prog 11 #[] (fun G => True) (fun G v => v = .bool r) := by
  refine Ctr.enter (args := []) (N := 108) Try.func11 rfl rfl rfl (fun w0 G0 hL0 hpre => ?_)
  refine WC.seq ?_
  refine WC.region ?_
  refine WL.y0' guard_none (Y0.assign rfl) rfl ?_
  refine WL.nil ?_
  refine WE.then ?_
  refine WC.seq ?_
  refine WC.region ?_
  refine WL.y0' guard_none (Y0.build (vs := #[(0, .int .i64 2)]) (v := .agg (vecG (Value.int .i64) 8 (setF (fun _ => 0) 0 2)).toArray) rfl rfl (fun _ => by kernel_rfl)) rfl ?_
  refine WL.y0' guard_none (Y0.build (vs := #[(0, .int .i64 1), (1, .int .i64 1)]) (v := .agg (vecG (Value.int .i64) 8 (setF (setF (fun _ => 0) 0 1) 1 1)).toArray) rfl rfl (fun _ => by kernel_rfl)) rfl ?_
  refine WL.litR (e := 48) (r := (Rp.vec .i64 8)) (vs := #[(0, .agg (vecG (Value.int .i64) 8 (setF (fun _ => 0) 0 2)).toArray), (1, .agg (vecG (Value.int .i64) 8 (setF (setF (fun _ => 0) 0 1) 1 1)).toArray)]) (cs := (vecG (Value.int .i64) 8 (setF (fun _ => 0) 0 2)) ++ ((vecG (Value.int .i64) 8 (setF (setF (fun _ => 0) 0 1) 1 1)) ++ ([]))) ([setF (fun _ => 0) 0 2, setF (setF (fun _ => 0) 0 1) 1 1] : List (Fin 8 → Int)) guard_none rfl rfl rfl rfl (by decide) (fun _ => by kernel_rfl) ⟨vecG (Value.int .i64) 8 (setF (fun _ => 0) 0 2), (vecG (Value.int .i64) 8 (setF (setF (fun _ => 0) 0 1) 1 1)) ++ ([]), rfl, rfl, ⟨vecG (Value.int .i64) 8 (setF (setF (fun _ => 0) 0 1) 1 1), [], rfl, rfl, rfl⟩⟩ (key := 999) rfl (by rw [hL0]; rfl) (fun p1 Gv1 Gv1le p1h => ?_)
  refine WL.y0' guard_none (Y0.assign rfl) rfl ?_
  refine WL.nil ?_
  refine WE.then ?_
  refine WC.seq ?_
  refine WC.region ?_
  refine WL.y0' guard_none (Y0.move rfl) rfl ?_
  obtain ⟨yv1, hyv1, hr⟩ := hr
  refine WL.call guard_none rfl (YC.of E14 rfl) (L_components_Irreducible _ _ _ _ _ hyv1) rfl (p1h) (fun yv1v Gv2 Gv2le yv1post => ?_)
  obtain ⟨yv1r0p, yv1r0c, rfl, yv1r0h⟩ := yv1post
  refine WL.y0' guard_none (Y0.move rfl) rfl ?_
  refine WL.y0' guard_none (Y0.extract rfl rfl) rfl ?_
  refine WL.y0' guard_none (Y0.extract rfl rfl) rfl ?_
  refine WL.y0' guard_none (Y0.assign rfl) rfl ?_
  refine WL.y0' guard_none (Y0.assign rfl) rfl ?_
  refine WL.nil ?_
  refine WE.then ?_
  refine WC.seq ?_
  refine WC.region ?_
  refine WL.y0' guard_none (Y0.move rfl) rfl ?_
  obtain ⟨yv2, hyv2, hr⟩ := hr
  refine WL.call guard_none rfl (YC.of E16 rfl) (L_components_Primes _ _ _ _ _ hyv2) rfl ((p1h.mono Gv2le)) (fun yv2v Gv3 Gv3le yv2post => ?_)
  obtain ⟨yv2r0p, yv2r0c, rfl, yv2r0h⟩ := yv2post
  refine WL.y0' guard_none (Y0.move rfl) rfl ?_
  refine WL.y0' guard_none (Y0.extract rfl rfl) rfl ?_
  refine WL.y0' guard_none (Y0.extract rfl rfl) rfl ?_
  refine WL.y0' guard_none (Y0.assign rfl) rfl ?_
  refine WL.y0' guard_none (Y0.assign rfl) rfl ?_
  refine WL.nil ?_
  refine WE.then ?_
  refine WC.seq ?_
  refine WC.region ?_
  refine WL.y0' guard_none (Y0.move rfl) rfl ?_
  obtain ⟨yv3, hyv3, hr⟩ := hr
  refine WL.call guard_none rfl (YC.of E18 rfl) (L_components_Embedded _ _ _ _ _ hyv3) rfl ((p1h.mono (Mem.le_trans Gv2le Gv3le))) (fun yv3v Gv4 Gv4le yv3post => ?_)
  obtain ⟨yv3r0p, yv3r0c, rfl, yv3r0h⟩ := yv3post
  refine WL.y0' guard_none (Y0.move rfl) rfl ?_
  refine WL.y0' guard_none (Y0.extract rfl rfl) rfl ?_
  refine WL.y0' guard_none (Y0.extract rfl rfl) rfl ?_
  refine WL.y0' guard_none (Y0.assign rfl) rfl ?_
  refine WL.y0' guard_none (Y0.assign rfl) rfl ?_
  refine WL.nil ?_
  refine WE.then ?_
  refine WC.seq ?_
  refine WC.region ?_
  refine WL.y0' guard_none (Y0.move rfl) rfl ?_
  obtain ⟨yv4, hyv4, hr⟩ := hr
  refine WL.call guard_none rfl (YC.of E20 rfl) (L_components_Primary _ _ _ _ _ hyv4) rfl ((p1h.mono (Mem.le_trans (Mem.le_trans Gv2le Gv3le) Gv4le))) (fun yv4v Gv5 Gv5le yv4post => ?_)
  obtain ⟨yv4r0p, yv4r0c, rfl, yv4r0h⟩ := yv4post
  refine WL.y0' guard_none (Y0.move rfl) rfl ?_
  refine WL.y0' guard_none (Y0.extract rfl rfl) rfl ?_
  refine WL.y0' guard_none (Y0.extract rfl rfl) rfl ?_
  refine WL.y0' guard_none (Y0.assign rfl) rfl ?_
  refine WL.y0' guard_none (Y0.assign rfl) rfl ?_
  refine WL.nil ?_
  refine WE.then ?_
  refine WC.seq ?_
  refine WC.region ?_
  refine WL.y0' guard_none (Y0.move rfl) rfl ?_
  obtain ⟨yv5, hyv5, hr⟩ := hr
  refine WL.call guard_none rfl (YC.of E16 rfl) (L_components_Primes _ _ _ _ _ hyv5) rfl ((p1h.mono (Mem.le_trans (Mem.le_trans (Mem.le_trans Gv2le Gv3le) Gv4le) Gv5le))) (fun yv5v Gv6 Gv6le yv5post => ?_)
  obtain ⟨yv5r0p, yv5r0c, rfl, yv5r0h⟩ := yv5post
  refine WL.y0' guard_none (Y0.move rfl) rfl ?_
  refine WL.y0' guard_none (Y0.extract rfl rfl) rfl ?_
  refine WL.y0' guard_none (Y0.extract rfl rfl) rfl ?_
  refine WL.y0' guard_none (Y0.assign rfl) rfl ?_
  refine WL.y0' guard_none (Y0.assign rfl) rfl ?_
  refine WL.nil ?_
  refine WE.then ?_
  refine WC.seqH (fun (gx : Bool × Mem) => match gx with | ⟨v12_1, Gm1⟩ => [(1, .slice p1 2 2), (2, .slice yv1r0p yv1.1.length yv1r0c), (4, .slice yv2r0p yv2.1.length yv2r0c), (6, .slice yv3r0p yv3.1.length yv3r0c), (8, .slice yv4r0p yv4.1.length yv4r0c), (12, .bool v12_1)]) (fun (gx : Bool × Mem) => match gx with | ⟨v12_1, Gm1⟩ => Mem.le Gv6 Gm1 ∧ (law21_sanity_k1 yv1 yv2 yv3 yv4 v12_1).Ret r) (fun (gx : Bool × Mem) => match gx with | ⟨v12_1, Gm1⟩ => St w0 G0 Gm1 []) ?_ ?_
  · skip
    refine WC.region ?_
    refine WL.y0' guard_none (Y0.move rfl) rfl ?_
    refine WL.caseY0 (p := yv1.2 = 0) guard_none (Y0.eql rfl rfl) rfl (fun hb2 => ?_) (fun hb2 => ?_)
    · replace hr := hr.pos hb2
      refine WL.y0' guard_none (Y0.move rfl) rfl ?_
      refine WL.y0' (guard_yes rfl rfl) (Y0.move rfl) rfl ?_
      refine WL.caseY0 (p := yv2.2 = 0) (guard_yes rfl rfl) (Y0.eql rfl rfl) rfl (fun hb3 => ?_) (fun hb3 => ?_)
      · replace hr := hr.pos hb3
        refine WL.y0' guard_none (Y0.pickT rfl rfl) rfl ?_
        refine WL.y0' guard_none (Y0.move rfl) rfl ?_
        refine WL.y0' (guard_yes rfl rfl) (Y0.move rfl) rfl ?_
        refine WL.caseY0 (p := yv3.2 = 0) (guard_yes rfl rfl) (Y0.eql rfl rfl) rfl (fun hb4 => ?_) (fun hb4 => ?_)
        · replace hr := hr.pos hb4
          refine WL.y0' guard_none (Y0.pickT rfl rfl) rfl ?_
          refine WL.y0' guard_none (Y0.move rfl) rfl ?_
          refine WL.y0' (guard_yes rfl rfl) (Y0.move rfl) rfl ?_
          refine WL.caseY0 (p := yv4.2 = 0) (guard_yes rfl rfl) (Y0.eql rfl rfl) rfl (fun hb5 => ?_) (fun hb5 => ?_)
          · replace hr := hr.pos hb5
            refine WL.y0' guard_none (Y0.pickT rfl rfl) rfl ?_
            refine WL.y0' guard_none (Y0.move rfl) rfl ?_
            refine WL.y0' (guard_yes rfl rfl) (Y0.move rfl) rfl ?_
            refine WL.y0' (guard_yes rfl rfl) (Y0.eql rfl rfl) rfl ?_
            refine WL.y0' guard_none (Y0.pickT rfl rfl) rfl ?_
            refine WL.y0' guard_none (Y0.assign rfl) rfl ?_
            refine WL.nil ?_
            refine WE.midH ⟨decide (yv5.2 = 1), Gv6⟩ ⟨(Mem.le_refl _), hr⟩ (Fr.sub_cons rfl (Fr.sub_cons rfl (Fr.sub_cons rfl (Fr.sub_cons rfl (Fr.sub_cons rfl (Fr.sub_cons rfl (Fr.sub_nil _))))))) ?_
            · intro w hs
              exact hs.weaken (Lo.sub_nil _)
          · replace hr := hr.neg hb5
            refine WL.y0' guard_none (Y0.pickT rfl rfl) rfl ?_
            refine WL.y0' guard_none (Y0.move rfl) rfl ?_
            refine WL.skip (guard_noT rfl rfl) rfl ?_
            refine WL.skip (guard_noT rfl rfl) rfl ?_
            refine WL.y0' guard_none (Y0.pickF rfl rfl) rfl ?_
            refine WL.y0' guard_none (Y0.assign rfl) rfl ?_
            refine WL.nil ?_
            refine WE.midH ⟨false, Gv6⟩ ⟨(Mem.le_refl _), hr⟩ (Fr.sub_cons rfl (Fr.sub_cons rfl (Fr.sub_cons rfl (Fr.sub_cons rfl (Fr.sub_cons rfl (Fr.sub_cons rfl (Fr.sub_nil _))))))) ?_
            · intro w hs
              exact hs.weaken (Lo.sub_nil _)
        · replace hr := hr.neg hb4
          refine WL.y0' guard_none (Y0.pickT rfl rfl) rfl ?_
          refine WL.y0' guard_none (Y0.move rfl) rfl ?_
          refine WL.skip (guard_noT rfl rfl) rfl ?_
          refine WL.skip (guard_noT rfl rfl) rfl ?_
          refine WL.y0' guard_none (Y0.pickF rfl rfl) rfl ?_
          refine WL.y0' guard_none (Y0.move rfl) rfl ?_
          refine WL.skip (guard_noT rfl rfl) rfl ?_
          refine WL.skip (guard_noT rfl rfl) rfl ?_
          refine WL.y0' guard_none (Y0.pickF rfl rfl) rfl ?_
          refine WL.y0' guard_none (Y0.assign rfl) rfl ?_
          refine WL.nil ?_
          refine WE.midH ⟨false, Gv6⟩ ⟨(Mem.le_refl _), hr⟩ (Fr.sub_cons rfl (Fr.sub_cons rfl (Fr.sub_cons rfl (Fr.sub_cons rfl (Fr.sub_cons rfl (Fr.sub_cons rfl (Fr.sub_nil _))))))) ?_
          · intro w hs
            exact hs.weaken (Lo.sub_nil _)
      · replace hr := hr.neg hb3
        refine WL.y0' guard_none (Y0.pickT rfl rfl) rfl ?_
        refine WL.y0' guard_none (Y0.move rfl) rfl ?_
        refine WL.skip (guard_noT rfl rfl) rfl ?_
        refine WL.skip (guard_noT rfl rfl) rfl ?_
        refine WL.y0' guard_none (Y0.pickF rfl rfl) rfl ?_
        refine WL.y0' guard_none (Y0.move rfl) rfl ?_
        refine WL.skip (guard_noT rfl rfl) rfl ?_
        refine WL.skip (guard_noT rfl rfl) rfl ?_
        refine WL.y0' guard_none (Y0.pickF rfl rfl) rfl ?_
        refine WL.y0' guard_none (Y0.move rfl) rfl ?_
        refine WL.skip (guard_noT rfl rfl) rfl ?_
        refine WL.skip (guard_noT rfl rfl) rfl ?_
        refine WL.y0' guard_none (Y0.pickF rfl rfl) rfl ?_
        refine WL.y0' guard_none (Y0.assign rfl) rfl ?_
        refine WL.nil ?_
        refine WE.midH ⟨false, Gv6⟩ ⟨(Mem.le_refl _), hr⟩ (Fr.sub_cons rfl (Fr.sub_cons rfl (Fr.sub_cons rfl (Fr.sub_cons rfl (Fr.sub_cons rfl (Fr.sub_cons rfl (Fr.sub_nil _))))))) ?_
        · intro w hs
          exact hs.weaken (Lo.sub_nil _)
    · replace hr := hr.neg hb2
      refine WL.y0' guard_none (Y0.move rfl) rfl ?_
      refine WL.skip (guard_noT rfl rfl) rfl ?_
      refine WL.skip (guard_noT rfl rfl) rfl ?_
      refine WL.y0' guard_none (Y0.pickF rfl rfl) rfl ?_
      refine WL.y0' guard_none (Y0.move rfl) rfl ?_
      refine WL.skip (guard_noT rfl rfl) rfl ?_
      refine WL.skip (guard_noT rfl rfl) rfl ?_
      refine WL.y0' guard_none (Y0.pickF rfl rfl) rfl ?_
      refine WL.y0' guard_none (Y0.move rfl) rfl ?_
      refine WL.skip (guard_noT rfl rfl) rfl ?_
      refine WL.skip (guard_noT rfl rfl) rfl ?_
      refine WL.y0' guard_none (Y0.pickF rfl rfl) rfl ?_
      refine WL.y0' guard_none (Y0.move rfl) rfl ?_
      refine WL.skip (guard_noT rfl rfl) rfl ?_
      refine WL.skip (guard_noT rfl rfl) rfl ?_
      refine WL.y0' guard_none (Y0.pickF rfl rfl) rfl ?_
      refine WL.y0' guard_none (Y0.assign rfl) rfl ?_
      refine WL.nil ?_
      refine WE.midH ⟨false, Gv6⟩ ⟨(Mem.le_refl _), hr⟩ (Fr.sub_cons rfl (Fr.sub_cons rfl (Fr.sub_cons rfl (Fr.sub_cons rfl (Fr.sub_cons rfl (Fr.sub_cons rfl (Fr.sub_nil _))))))) ?_
      · intro w hs
        exact hs.weaken (Lo.sub_nil _)
  · rintro ⟨v12_1, Gm1⟩ ⟨Gm1le, hr⟩
    refine WC.seq ?_
    refine WC.region ?_
    refine WL.y0' guard_none (Y0.build (vs := #[(0, .int .i64 1)]) (v := .agg (vecG (Value.int .i64) 8 (setF (fun _ => 0) 0 1)).toArray) rfl rfl (fun _ => by kernel_rfl)) rfl ?_
    refine WL.litR (e := 48) (r := (Rp.vec .i64 8)) (vs := #[(0, .agg (vecG (Value.int .i64) 8 (setF (fun _ => 0) 0 1)).toArray)]) (cs := (vecG (Value.int .i64) 8 (setF (fun _ => 0) 0 1)) ++ ([])) ([setF (fun _ => 0) 0 1] : List (Fin 8 → Int)) guard_none rfl rfl rfl rfl (by decide) (fun _ => by kernel_rfl) ⟨vecG (Value.int .i64) 8 (setF (fun _ => 0) 0 1), [], rfl, rfl, rfl⟩ (key := 999) rfl (by rw [hL0]; rfl) (fun p2 Gv7 Gv7le p2h => ?_)
    refine WL.y0' guard_none (Y0.build (vs := #[(0, .int .u8 1), (1, .slice p2 1 1)]) (v := .agg ([.int .u8 1, .slice p2 1 1]).toArray) rfl rfl (fun _ => by kernel_rfl)) rfl ?_
    refine WL.y0' guard_none (Y0.build (vs := #[(0, .int .i64 2)]) (v := .agg (vecG (Value.int .i64) 8 (setF (fun _ => 0) 0 2)).toArray) rfl rfl (fun _ => by kernel_rfl)) rfl ?_
    refine WL.y0' guard_none (Y0.build (vs := #[(0, .int .i64 0), (1, .int .i64 1)]) (v := .agg (vecG (Value.int .i64) 8 (setF (setF (fun _ => 0) 0 0) 1 1)).toArray) rfl rfl (fun _ => by kernel_rfl)) rfl ?_
    refine WL.litR (e := 48) (r := (Rp.vec .i64 8)) (vs := #[(0, .agg (vecG (Value.int .i64) 8 (setF (fun _ => 0) 0 2)).toArray), (1, .agg (vecG (Value.int .i64) 8 (setF (setF (fun _ => 0) 0 0) 1 1)).toArray)]) (cs := (vecG (Value.int .i64) 8 (setF (fun _ => 0) 0 2)) ++ ((vecG (Value.int .i64) 8 (setF (setF (fun _ => 0) 0 0) 1 1)) ++ ([]))) ([setF (fun _ => 0) 0 2, setF (setF (fun _ => 0) 0 0) 1 1] : List (Fin 8 → Int)) guard_none rfl rfl rfl rfl (by decide) (fun _ => by kernel_rfl) ⟨vecG (Value.int .i64) 8 (setF (fun _ => 0) 0 2), (vecG (Value.int .i64) 8 (setF (setF (fun _ => 0) 0 0) 1 1)) ++ ([]), rfl, rfl, ⟨vecG (Value.int .i64) 8 (setF (setF (fun _ => 0) 0 0) 1 1), [], rfl, rfl, rfl⟩⟩ (key := 999) rfl (by rw [hL0]; rfl) (fun p3 Gv8 Gv8le p3h => ?_)
    refine WL.y0' guard_none (Y0.build (vs := #[(0, .int .u8 3), (1, .slice p3 2 2)]) (v := .agg ([.int .u8 3, .slice p3 2 2]).toArray) rfl rfl (fun _ => by kernel_rfl)) rfl ?_
    refine WL.litR (e := 60) (r := rp_api_Part) (vs := #[(0, .agg ([.int .u8 1, .slice p2 1 1]).toArray), (1, .agg ([.int .u8 3, .slice p3 2 2]).toArray)]) (cs := [.int .u8 1, .slice p2 1 1] ++ ([.int .u8 3, .slice p3 2 2] ++ ([]))) ([(T_api_Part.mk 1 [setF (fun _ => 0) 0 1]), (T_api_Part.mk 3 [setF (fun _ => 0) 0 2, setF (setF (fun _ => 0) 0 0) 1 1])] : List T_api_Part) guard_none rfl rfl rfl rfl (by decide) (fun _ => by kernel_rfl) ⟨[.int .u8 1, .slice p2 1 1], [.int .u8 3, .slice p3 2 2] ++ ([]), rfl, ⟨[.int .u8 1], [.slice p2 1 1], rfl, rfl, ⟨_, rfl, (p2h.mono Gv8le)⟩⟩, ⟨[.int .u8 3, .slice p3 2 2], [], rfl, ⟨[.int .u8 3], [.slice p3 2 2], rfl, rfl, ⟨_, rfl, p3h⟩⟩, rfl⟩⟩ (key := 999) rfl (by rw [hL0]; rfl) (fun p4 Gv9 Gv9le p4h => ?_)
    refine WL.y0' guard_none (Y0.assign rfl) rfl ?_
    refine WL.nil ?_
    refine WE.then ?_
    refine WC.seq ?_
    refine WC.region ?_
    refine WL.caseY0 (p := v12_1 = true) guard_none (Y0.eq (Y0.move rfl) (congrArg Value.bool (bdec _))) rfl (fun hb1 => ?_) (fun hb1 => ?_)
    · replace hr := hr.pos hb1
      refine WL.y0' guard_none (Y0.move rfl) rfl ?_
      refine WL.y0' (guard_yes rfl rfl) (Y0.move rfl) rfl ?_
      refine WL.y0' (guard_yes rfl rfl) (Y0.build (vs := #[(0, .int .i64 2), (1, .int .i64 1)]) (v := .agg (vecG (Value.int .i64) 8 (setF (setF (fun _ => 0) 0 2) 1 1)).toArray) rfl rfl (fun _ => by kernel_rfl)) rfl ?_
      refine WL.y0' (guard_yes rfl rfl) (Y0.build (vs := #[(0, .int .i64 1)]) (v := .agg (vecG (Value.int .i64) 8 (setF (fun _ => 0) 0 1)).toArray) rfl rfl (fun _ => by kernel_rfl)) rfl ?_
      refine WL.litR (e := 48) (r := (Rp.vec .i64 8)) (vs := #[(0, .agg (vecG (Value.int .i64) 8 (setF (setF (fun _ => 0) 0 2) 1 1)).toArray), (1, .agg (vecG (Value.int .i64) 8 (setF (fun _ => 0) 0 1)).toArray)]) (cs := (vecG (Value.int .i64) 8 (setF (setF (fun _ => 0) 0 2) 1 1)) ++ ((vecG (Value.int .i64) 8 (setF (fun _ => 0) 0 1)) ++ ([]))) ([setF (setF (fun _ => 0) 0 2) 1 1, setF (fun _ => 0) 0 1] : List (Fin 8 → Int)) (guard_yes rfl rfl) rfl rfl rfl rfl (by decide) (fun _ => by kernel_rfl) ⟨vecG (Value.int .i64) 8 (setF (setF (fun _ => 0) 0 2) 1 1), (vecG (Value.int .i64) 8 (setF (fun _ => 0) 0 1)) ++ ([]), rfl, rfl, ⟨vecG (Value.int .i64) 8 (setF (fun _ => 0) 0 1), [], rfl, rfl, rfl⟩⟩ (key := 999) rfl (by rw [hL0]; rfl) (fun p5 Gv10 Gv10le p5h => ?_)
      obtain ⟨yv6, hyv6, hr⟩ := hr
      refine WL.call0 (guard_yes rfl rfl) rfl (YC.of E22 rfl) (L_R04_Same _ _ _ _ _ _ _ hyv6) rfl (⟨(yv1r0h.mono (Mem.le_trans (Mem.le_trans (Mem.le_trans (Mem.le_trans (Mem.le_trans (Mem.le_trans (Mem.le_trans (Mem.le_trans Gv3le Gv4le) Gv5le) Gv6le) Gm1le) Gv7le) Gv8le) Gv9le) Gv10le)), p5h⟩) ?_
      cases yv6
      · skip
        refine WL.y0' guard_none (Y0.pickT rfl rfl) rfl ?_
        refine WL.y0' guard_none (Y0.move rfl) rfl ?_
        refine WL.skip (guard_noT rfl rfl) rfl ?_
        refine WL.skip (guard_noT rfl rfl) rfl ?_
        refine WL.skip (guard_noT rfl rfl) rfl ?_
        refine WL.y0' guard_none (Y0.pickF rfl rfl) rfl ?_
        refine WL.y0' guard_none (Y0.move rfl) rfl ?_
        refine WL.skip (guard_noT rfl rfl) rfl ?_
        refine WL.skip (guard_noT rfl rfl) rfl ?_
        refine WL.skip (guard_noT rfl rfl) rfl ?_
        refine WL.y0' guard_none (Y0.pickF rfl rfl) rfl ?_
        refine WL.y0' guard_none (Y0.move rfl) rfl ?_
        refine WL.skip (guard_noT rfl rfl) rfl ?_
        refine WL.skip (guard_noT rfl rfl) rfl ?_
        refine WL.skip (guard_noT rfl rfl) rfl ?_
        refine WL.y0' guard_none (Y0.pickF rfl rfl) rfl ?_
        refine WL.y0' guard_none (Y0.move rfl) rfl ?_
        refine WL.skip (guard_noT rfl rfl) rfl ?_
        refine WL.skip (guard_noT rfl rfl) rfl ?_
        refine WL.skip (guard_noT rfl rfl) rfl ?_
        refine WL.skip (guard_noT rfl rfl) rfl ?_
        refine WL.skip (guard_noT rfl rfl) rfl ?_
        refine WL.y0' guard_none (Y0.pickF rfl rfl) rfl ?_
        refine WL.y0' guard_none (Y0.move rfl) rfl ?_
        refine WL.skip (guard_noT rfl rfl) rfl ?_
        refine WL.skip (guard_noT rfl rfl) rfl ?_
        refine WL.skip (guard_noT rfl rfl) rfl ?_
        refine WL.skip (guard_noT rfl rfl) rfl ?_
        refine WL.skip (guard_noT rfl rfl) rfl ?_
        refine WL.skip (guard_noT rfl rfl) rfl ?_
        refine WL.skip (guard_noT rfl rfl) rfl ?_
        refine WL.skip (guard_noT rfl rfl) rfl ?_
        refine WL.y0' guard_none (Y0.pickF rfl rfl) rfl ?_
        refine WL.y0' guard_none (Y0.assign rfl) rfl ?_
        refine WL.nil ?_
        refine WE.then ?_
        refine WC.ret ?_
        replace hr : _ = r := hr
        subst hr
        exact WE.ret1 rfl rfl rfl
      · skip
        refine WL.y0' guard_none (Y0.pickT rfl rfl) rfl ?_
        refine WL.y0' guard_none (Y0.move rfl) rfl ?_
        refine WL.y0' (guard_yes rfl rfl) (Y0.move rfl) rfl ?_
        refine WL.litR (e := 5) (r := (Rp.int .u8)) (vs := #[(0, .int .u8 1), (1, .int .u8 3)]) (cs := [.int .u8 1] ++ ([.int .u8 3] ++ ([]))) ([1, 3] : List Int) (guard_yes rfl rfl) rfl rfl rfl rfl (by decide) (fun _ => by kernel_rfl) ⟨[.int .u8 1], [.int .u8 3] ++ ([]), rfl, rfl, ⟨[.int .u8 3], [], rfl, rfl, rfl⟩⟩ (key := 999) rfl (by rw [hL0]; rfl) (fun p6 Gv12 Gv12le p6h => ?_)
        obtain ⟨yv7, hyv7, hr⟩ := hr
        refine WL.call0 (guard_yes rfl rfl) rfl (YC.of E23 rfl) (L_R18_SameSets _ _ _ _ _ _ _ hyv7) rfl (⟨(yv2r0h.mono (Mem.le_trans (Mem.le_trans (Mem.le_trans (Mem.le_trans (Mem.le_trans (Mem.le_trans (Mem.le_trans (Mem.le_trans Gv4le Gv5le) Gv6le) Gm1le) Gv7le) Gv8le) Gv9le) Gv10le) Gv12le)), p6h⟩) ?_
        cases yv7
        · skip
          refine WL.y0' guard_none (Y0.pickT rfl rfl) rfl ?_
          refine WL.y0' guard_none (Y0.move rfl) rfl ?_
          refine WL.skip (guard_noT rfl rfl) rfl ?_
          refine WL.skip (guard_noT rfl rfl) rfl ?_
          refine WL.skip (guard_noT rfl rfl) rfl ?_
          refine WL.y0' guard_none (Y0.pickF rfl rfl) rfl ?_
          refine WL.y0' guard_none (Y0.move rfl) rfl ?_
          refine WL.skip (guard_noT rfl rfl) rfl ?_
          refine WL.skip (guard_noT rfl rfl) rfl ?_
          refine WL.skip (guard_noT rfl rfl) rfl ?_
          refine WL.y0' guard_none (Y0.pickF rfl rfl) rfl ?_
          refine WL.y0' guard_none (Y0.move rfl) rfl ?_
          refine WL.skip (guard_noT rfl rfl) rfl ?_
          refine WL.skip (guard_noT rfl rfl) rfl ?_
          refine WL.skip (guard_noT rfl rfl) rfl ?_
          refine WL.skip (guard_noT rfl rfl) rfl ?_
          refine WL.skip (guard_noT rfl rfl) rfl ?_
          refine WL.y0' guard_none (Y0.pickF rfl rfl) rfl ?_
          refine WL.y0' guard_none (Y0.move rfl) rfl ?_
          refine WL.skip (guard_noT rfl rfl) rfl ?_
          refine WL.skip (guard_noT rfl rfl) rfl ?_
          refine WL.skip (guard_noT rfl rfl) rfl ?_
          refine WL.skip (guard_noT rfl rfl) rfl ?_
          refine WL.skip (guard_noT rfl rfl) rfl ?_
          refine WL.skip (guard_noT rfl rfl) rfl ?_
          refine WL.skip (guard_noT rfl rfl) rfl ?_
          refine WL.skip (guard_noT rfl rfl) rfl ?_
          refine WL.y0' guard_none (Y0.pickF rfl rfl) rfl ?_
          refine WL.y0' guard_none (Y0.assign rfl) rfl ?_
          refine WL.nil ?_
          refine WE.then ?_
          refine WC.ret ?_
          replace hr : _ = r := hr
          subst hr
          exact WE.ret1 rfl rfl rfl
        · skip
          refine WL.y0' guard_none (Y0.pickT rfl rfl) rfl ?_
          refine WL.y0' guard_none (Y0.move rfl) rfl ?_
          refine WL.y0' (guard_yes rfl rfl) (Y0.move rfl) rfl ?_
          refine WL.litR (e := 5) (r := (Rp.int .u8)) (vs := #[(0, .int .u8 3)]) (cs := [.int .u8 3] ++ ([])) ([3] : List Int) (guard_yes rfl rfl) rfl rfl rfl rfl (by decide) (fun _ => by kernel_rfl) ⟨[.int .u8 3], [], rfl, rfl, rfl⟩ (key := 999) rfl (by rw [hL0]; rfl) (fun p7 Gv14 Gv14le p7h => ?_)
          obtain ⟨yv8, hyv8, hr⟩ := hr
          refine WL.call0 (guard_yes rfl rfl) rfl (YC.of E23 rfl) (L_R18_SameSets _ _ _ _ _ _ _ hyv8) rfl (⟨(yv3r0h.mono (Mem.le_trans (Mem.le_trans (Mem.le_trans (Mem.le_trans (Mem.le_trans (Mem.le_trans (Mem.le_trans (Mem.le_trans Gv5le Gv6le) Gm1le) Gv7le) Gv8le) Gv9le) Gv10le) Gv12le) Gv14le)), p7h⟩) ?_
          cases yv8
          · skip
            refine WL.y0' guard_none (Y0.pickT rfl rfl) rfl ?_
            refine WL.y0' guard_none (Y0.move rfl) rfl ?_
            refine WL.skip (guard_noT rfl rfl) rfl ?_
            refine WL.skip (guard_noT rfl rfl) rfl ?_
            refine WL.skip (guard_noT rfl rfl) rfl ?_
            refine WL.y0' guard_none (Y0.pickF rfl rfl) rfl ?_
            refine WL.y0' guard_none (Y0.move rfl) rfl ?_
            refine WL.skip (guard_noT rfl rfl) rfl ?_
            refine WL.skip (guard_noT rfl rfl) rfl ?_
            refine WL.skip (guard_noT rfl rfl) rfl ?_
            refine WL.skip (guard_noT rfl rfl) rfl ?_
            refine WL.skip (guard_noT rfl rfl) rfl ?_
            refine WL.y0' guard_none (Y0.pickF rfl rfl) rfl ?_
            refine WL.y0' guard_none (Y0.move rfl) rfl ?_
            refine WL.skip (guard_noT rfl rfl) rfl ?_
            refine WL.skip (guard_noT rfl rfl) rfl ?_
            refine WL.skip (guard_noT rfl rfl) rfl ?_
            refine WL.skip (guard_noT rfl rfl) rfl ?_
            refine WL.skip (guard_noT rfl rfl) rfl ?_
            refine WL.skip (guard_noT rfl rfl) rfl ?_
            refine WL.skip (guard_noT rfl rfl) rfl ?_
            refine WL.skip (guard_noT rfl rfl) rfl ?_
            refine WL.y0' guard_none (Y0.pickF rfl rfl) rfl ?_
            refine WL.y0' guard_none (Y0.assign rfl) rfl ?_
            refine WL.nil ?_
            refine WE.then ?_
            refine WC.ret ?_
            replace hr : _ = r := hr
            subst hr
            exact WE.ret1 rfl rfl rfl
          · skip
            refine WL.y0' guard_none (Y0.pickT rfl rfl) rfl ?_
            refine WL.y0' guard_none (Y0.move rfl) rfl ?_
            refine WL.y0' (guard_yes rfl rfl) (Y0.move rfl) rfl ?_
            refine WL.y0' (guard_yes rfl rfl) (Y0.move rfl) rfl ?_
            obtain ⟨yv9, hyv9, hr⟩ := hr
            refine WL.call0 (guard_yes rfl rfl) rfl (YC.of E24 rfl) (L_R21_SameParts _ _ _ _ _ _ _ hyv9) rfl (⟨(yv4r0h.mono (Mem.le_trans (Mem.le_trans (Mem.le_trans (Mem.le_trans (Mem.le_trans (Mem.le_trans (Mem.le_trans Gv6le Gm1le) Gv7le) Gv8le) Gv9le) Gv10le) Gv12le) Gv14le)), (p4h.mono (Mem.le_trans (Mem.le_trans Gv10le Gv12le) Gv14le))⟩) ?_
            cases yv9
            · skip
              refine WL.y0' guard_none (Y0.pickT rfl rfl) rfl ?_
              refine WL.y0' guard_none (Y0.move rfl) rfl ?_
              refine WL.skip (guard_noT rfl rfl) rfl ?_
              refine WL.skip (guard_noT rfl rfl) rfl ?_
              refine WL.skip (guard_noT rfl rfl) rfl ?_
              refine WL.skip (guard_noT rfl rfl) rfl ?_
              refine WL.skip (guard_noT rfl rfl) rfl ?_
              refine WL.y0' guard_none (Y0.pickF rfl rfl) rfl ?_
              refine WL.y0' guard_none (Y0.move rfl) rfl ?_
              refine WL.skip (guard_noT rfl rfl) rfl ?_
              refine WL.skip (guard_noT rfl rfl) rfl ?_
              refine WL.skip (guard_noT rfl rfl) rfl ?_
              refine WL.skip (guard_noT rfl rfl) rfl ?_
              refine WL.skip (guard_noT rfl rfl) rfl ?_
              refine WL.skip (guard_noT rfl rfl) rfl ?_
              refine WL.skip (guard_noT rfl rfl) rfl ?_
              refine WL.skip (guard_noT rfl rfl) rfl ?_
              refine WL.y0' guard_none (Y0.pickF rfl rfl) rfl ?_
              refine WL.y0' guard_none (Y0.assign rfl) rfl ?_
              refine WL.nil ?_
              refine WE.then ?_
              refine WC.ret ?_
              replace hr : _ = r := hr
              subst hr
              exact WE.ret1 rfl rfl rfl
            · skip
              refine WL.y0' guard_none (Y0.pickT rfl rfl) rfl ?_
              refine WL.y0' guard_none (Y0.move rfl) rfl ?_
              refine WL.y0' (guard_yes rfl rfl) (Y0.move rfl) rfl ?_
              obtain ⟨yv10, hyv10, hr⟩ := hr
              refine WL.call (guard_yes rfl rfl) rfl (YC.of E27 rfl) (L_components_Radical _ _ _ _ hyv10) rfl ((p1h.mono (Mem.le_trans (Mem.le_trans (Mem.le_trans (Mem.le_trans (Mem.le_trans (Mem.le_trans (Mem.le_trans (Mem.le_trans (Mem.le_trans (Mem.le_trans (Mem.le_trans Gv2le Gv3le) Gv4le) Gv5le) Gv6le) Gm1le) Gv7le) Gv8le) Gv9le) Gv10le) Gv12le) Gv14le))) (fun yv10v Gv17 Gv17le yv10post => ?_)
              obtain ⟨yv10p, yv10c, rfl, yv10h⟩ := yv10post
              refine WL.y0' (guard_yes rfl rfl) (Y0.build (vs := #[(0, .int .i64 1)]) (v := .agg (vecG (Value.int .i64) 8 (setF (fun _ => 0) 0 1)).toArray) rfl rfl (fun _ => by kernel_rfl)) rfl ?_
              refine WL.litR (e := 48) (r := (Rp.vec .i64 8)) (vs := #[(0, .agg (vecG (Value.int .i64) 8 (setF (fun _ => 0) 0 1)).toArray)]) (cs := (vecG (Value.int .i64) 8 (setF (fun _ => 0) 0 1)) ++ ([])) ([setF (fun _ => 0) 0 1] : List (Fin 8 → Int)) (guard_yes rfl rfl) rfl rfl rfl rfl (by decide) (fun _ => by kernel_rfl) ⟨vecG (Value.int .i64) 8 (setF (fun _ => 0) 0 1), [], rfl, rfl, rfl⟩ (key := 999) rfl (by rw [hL0]; rfl) (fun p8 Gv18 Gv18le p8h => ?_)
              obtain ⟨yv11, hyv11, hr⟩ := hr
              refine WL.call0 (guard_yes rfl rfl) rfl (YC.of E22 rfl) (L_R04_Same _ _ _ _ _ _ _ hyv11) rfl (⟨(yv10h.mono Gv18le), p8h⟩) ?_
              cases yv11
              · skip
                refine WL.y0' guard_none (Y0.pickT rfl rfl) rfl ?_
                refine WL.y0' guard_none (Y0.move rfl) rfl ?_
                refine WL.skip (guard_noT rfl rfl) rfl ?_
                refine WL.skip (guard_noT rfl rfl) rfl ?_
                refine WL.skip (guard_noT rfl rfl) rfl ?_
                refine WL.skip (guard_noT rfl rfl) rfl ?_
                refine WL.skip (guard_noT rfl rfl) rfl ?_
                refine WL.skip (guard_noT rfl rfl) rfl ?_
                refine WL.skip (guard_noT rfl rfl) rfl ?_
                refine WL.skip (guard_noT rfl rfl) rfl ?_
                refine WL.y0' guard_none (Y0.pickF rfl rfl) rfl ?_
                refine WL.y0' guard_none (Y0.assign rfl) rfl ?_
                refine WL.nil ?_
                refine WE.then ?_
                refine WC.ret ?_
                replace hr : _ = r := hr
                subst hr
                exact WE.ret1 rfl rfl rfl
              · skip
                refine WL.y0' guard_none (Y0.pickT rfl rfl) rfl ?_
                refine WL.y0' guard_none (Y0.move rfl) rfl ?_
                refine WL.y0' (guard_yes rfl rfl) (Y0.build (vs := #[(0, .int .i64 1)]) (v := .agg (vecG (Value.int .i64) 8 (setF (fun _ => 0) 0 1)).toArray) rfl rfl (fun _ => by kernel_rfl)) rfl ?_
                refine WL.litR (e := 48) (r := (Rp.vec .i64 8)) (vs := #[(0, .agg (vecG (Value.int .i64) 8 (setF (fun _ => 0) 0 1)).toArray)]) (cs := (vecG (Value.int .i64) 8 (setF (fun _ => 0) 0 1)) ++ ([])) ([setF (fun _ => 0) 0 1] : List (Fin 8 → Int)) (guard_yes rfl rfl) rfl rfl rfl rfl (by decide) (fun _ => by kernel_rfl) ⟨vecG (Value.int .i64) 8 (setF (fun _ => 0) 0 1), [], rfl, rfl, rfl⟩ (key := 999) rfl (by rw [hL0]; rfl) (fun p9 Gv20 Gv20le p9h => ?_)
                refine WL.y0' (guard_yes rfl rfl) (Y0.build (vs := #[(0, .int .i64 0), (1, .int .i64 1)]) (v := .agg (vecG (Value.int .i64) 8 (setF (setF (fun _ => 0) 0 0) 1 1)).toArray) rfl rfl (fun _ => by kernel_rfl)) rfl ?_
                refine WL.litR (e := 48) (r := (Rp.vec .i64 8)) (vs := #[(0, .agg (vecG (Value.int .i64) 8 (setF (setF (fun _ => 0) 0 0) 1 1)).toArray)]) (cs := (vecG (Value.int .i64) 8 (setF (setF (fun _ => 0) 0 0) 1 1)) ++ ([])) ([setF (setF (fun _ => 0) 0 0) 1 1] : List (Fin 8 → Int)) (guard_yes rfl rfl) rfl rfl rfl rfl (by decide) (fun _ => by kernel_rfl) ⟨vecG (Value.int .i64) 8 (setF (setF (fun _ => 0) 0 0) 1 1), [], rfl, rfl, rfl⟩ (key := 999) rfl (by rw [hL0]; rfl) (fun p10 Gv21 Gv21le p10h => ?_)
                obtain ⟨yv12, hyv12, hr⟩ := hr
                refine WL.call (guard_yes rfl rfl) rfl (YC.of E25 rfl) (L_components_Meet _ _ _ _ _ _ _ hyv12) rfl (⟨(p9h.mono Gv21le), p10h⟩) (fun yv12v Gv22 Gv22le yv12post => ?_)
                obtain ⟨yv12p, yv12c, rfl, yv12h⟩ := yv12post
                refine WL.y0' (guard_yes rfl rfl) (Y0.build (vs := #[(0, .int .i64 1), (1, .int .i64 1)]) (v := .agg (vecG (Value.int .i64) 8 (setF (setF (fun _ => 0) 0 1) 1 1)).toArray) rfl rfl (fun _ => by kernel_rfl)) rfl ?_
                refine WL.litR (e := 48) (r := (Rp.vec .i64 8)) (vs := #[(0, .agg (vecG (Value.int .i64) 8 (setF (setF (fun _ => 0) 0 1) 1 1)).toArray)]) (cs := (vecG (Value.int .i64) 8 (setF (setF (fun _ => 0) 0 1) 1 1)) ++ ([])) ([setF (setF (fun _ => 0) 0 1) 1 1] : List (Fin 8 → Int)) (guard_yes rfl rfl) rfl rfl rfl rfl (by decide) (fun _ => by kernel_rfl) ⟨vecG (Value.int .i64) 8 (setF (setF (fun _ => 0) 0 1) 1 1), [], rfl, rfl, rfl⟩ (key := 999) rfl (by rw [hL0]; rfl) (fun p11 Gv23 Gv23le p11h => ?_)
                obtain ⟨yv13, hyv13, hr⟩ := hr
                refine WL.call0 (guard_yes rfl rfl) rfl (YC.of E22 rfl) (L_R04_Same _ _ _ _ _ _ _ hyv13) rfl (⟨(yv12h.mono Gv23le), p11h⟩) ?_
                refine WL.y0' guard_none (Y0.pickT rfl rfl) rfl ?_
                refine WL.y0' guard_none (Y0.assign rfl) rfl ?_
                refine WL.nil ?_
                refine WE.then ?_
                refine WC.ret ?_
                replace hr : _ = r := hr
                subst hr
                exact WE.ret1 rfl rfl rfl
    · replace hr := hr.neg hb1
      refine WL.y0' guard_none (Y0.move rfl) rfl ?_
      refine WL.skip (guard_noT rfl rfl) rfl ?_
      refine WL.skip (guard_noT rfl rfl) rfl ?_
      refine WL.skip (guard_noT rfl rfl) rfl ?_
      refine WL.skip (guard_noT rfl rfl) rfl ?_
      refine WL.skip (guard_noT rfl rfl) rfl ?_
      refine WL.y0' guard_none (Y0.pickF rfl rfl) rfl ?_
      refine WL.y0' guard_none (Y0.move rfl) rfl ?_
      refine WL.skip (guard_noT rfl rfl) rfl ?_
      refine WL.skip (guard_noT rfl rfl) rfl ?_
      refine WL.skip (guard_noT rfl rfl) rfl ?_
      refine WL.y0' guard_none (Y0.pickF rfl rfl) rfl ?_
      refine WL.y0' guard_none (Y0.move rfl) rfl ?_
      refine WL.skip (guard_noT rfl rfl) rfl ?_
      refine WL.skip (guard_noT rfl rfl) rfl ?_
      refine WL.skip (guard_noT rfl rfl) rfl ?_
      refine WL.y0' guard_none (Y0.pickF rfl rfl) rfl ?_
      refine WL.y0' guard_none (Y0.move rfl) rfl ?_
      refine WL.skip (guard_noT rfl rfl) rfl ?_
      refine WL.skip (guard_noT rfl rfl) rfl ?_
      refine WL.skip (guard_noT rfl rfl) rfl ?_
      refine WL.y0' guard_none (Y0.pickF rfl rfl) rfl ?_
      refine WL.y0' guard_none (Y0.move rfl) rfl ?_
      refine WL.skip (guard_noT rfl rfl) rfl ?_
      refine WL.skip (guard_noT rfl rfl) rfl ?_
      refine WL.skip (guard_noT rfl rfl) rfl ?_
      refine WL.skip (guard_noT rfl rfl) rfl ?_
      refine WL.skip (guard_noT rfl rfl) rfl ?_
      refine WL.y0' guard_none (Y0.pickF rfl rfl) rfl ?_
      refine WL.y0' guard_none (Y0.move rfl) rfl ?_
      refine WL.skip (guard_noT rfl rfl) rfl ?_
      refine WL.skip (guard_noT rfl rfl) rfl ?_
      refine WL.skip (guard_noT rfl rfl) rfl ?_
      refine WL.skip (guard_noT rfl rfl) rfl ?_
      refine WL.skip (guard_noT rfl rfl) rfl ?_
      refine WL.skip (guard_noT rfl rfl) rfl ?_
      refine WL.skip (guard_noT rfl rfl) rfl ?_
      refine WL.skip (guard_noT rfl rfl) rfl ?_
      refine WL.y0' guard_none (Y0.pickF rfl rfl) rfl ?_
      refine WL.y0' guard_none (Y0.assign rfl) rfl ?_
      refine WL.nil ?_
      refine WE.then ?_
      refine WC.ret ?_
      replace hr : _ = r := hr
      subst hr
      exact WE.ret1 rfl rfl rfl
end Go.Proofs.Ytbdknlblnfnkkaa
