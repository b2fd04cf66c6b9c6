/- The code does what the models say. The conditions stand in each statement. -/
import Derived.Test.YtbdknlblnfnkkaaLd
namespace Go.Proofs.Ytbdknlblnfnkkaa
open Go Go.EL Go.RowKit Go.Proofs
theorem L_law21_ComponentsErrors (a0_1 : Int) (a1_1 : Int) (a2_1 : Int) (r : Bool) (hr : (law21_ComponentsErrors a0_1 a1_1 a2_1).Ret r) : Ctr Try.prog 9 #[.int .i64 a0_1, .int .u8 a1_1, .int .i64 a2_1] (fun G => True) (fun G v => v = .bool r) := by
  refine Ctr.enter (args := [_, _, _]) (N := 130) Try.func9 rfl rfl rfl (fun w0 G0 hL0 hpre => ?_)
  refine WC.seq ?_
  refine WC.region ?_
  refine WL.y0' guard_none (Y0.assign rfl) rfl ?_
  refine WL.nil ?_
  refine WE.then ?_
  refine WC.seq ?_
  refine WC.region ?_
  obtain ⟨yv1, hyv1, hr⟩ := hr
  refine WL.call0 guard_none rfl (YC.of E11 rfl) (L_law21_sanity _ hyv1) rfl (trivial) ?_
  refine WL.y0' guard_none (Y0.assign rfl) rfl ?_
  refine WL.nil ?_
  refine WE.then ?_
  refine WC.seq ?_
  refine WC.seq ?_
  refine WC.region ?_
  refine WL.y0' guard_none (Y0.move rfl) rfl ?_
  refine WL.y0' guard_none (Y0.not rfl) rfl ?_
  refine WL.nil ?_
  refine WE.then ?_
  refine WC.cond (b := !yv1) rfl (fun hc1 => ?_) (fun hc1 => ?_)
  · replace hr := hr.pos hc1
    refine WC.seq ?_
    refine WC.region ?_
    refine WL.y0' guard_none (Y0.assign rfl) rfl ?_
    refine WL.nil ?_
    refine WE.then ?_
    refine WC.ret ?_
    replace hr : _ = r := hr
    refine WE.thenRet ?_
    subst hr
    exact WE.ret1 rfl rfl rfl
  · replace hr := hr.neg (Bool.eq_false_iff.1 hc1)
    refine WC.skip ?_
    refine WE.then ?_
    refine WC.seq ?_
    refine WC.region ?_
    refine WL.y0' guard_none (Y0.build (vs := #[]) (v := .agg (vecG (Value.int .i64) 8 (fun _ => 0)).toArray) rfl rfl (fun _ => by kernel_rfl)) rfl ?_
    refine WL.alloc 8 guard_none z48 rfl (fun b1 => ?_)
    refine WL.storeLA 8 guard_none sz48 rfl rfl rfl (vecG_size _ _ _) (vecG_size _ _ _) (fun u hu => Rp.one (Rp.vec .i64 8) (G := G0) (x := (fun _ => 0)) (cs := vecG (Value.int .i64) 8 (fun _ => 0)) rfl u (by simpa using hu)) ?_
    refine WL.nil ?_
    refine WE.then ?_
    refine WC.seq ?_
    refine WC.region ?_
    refine WL.y0' guard_none (Y0.move rfl) rfl ?_
    refine WL.y0' guard_none (Y0.rem rfl rfl (by decide)) rfl ?_
    refine WL.y0' guard_none (Y0.move rfl) rfl ?_
    obtain ⟨hi1, hr⟩ := hr
    refine WL.y0' guard_none (Y0.idxA0 Try.underlying48 sz3 rfl rfl hi1) rfl ?_
    refine WL.storeL 8 (vecG (Value.int .i64) 8 (setF (fun _ => 0) ((Int.tmod a1_1 8).toNat) a2_1)).toArray guard_none sz3 rfl rfl rfl (by first | (rw [vecG_size]; omega) | (show _ < (vecG _ _ _).toArray.size; rw [vecG_size]; omega)) rfl (vecG_put _ _ _ _ _) ?_
    refine WL.nil ?_
    refine WE.then ?_
    refine WC.seq ?_
    refine WC.region ?_
    refine WL.y0' guard_none (Y0.assign rfl) rfl ?_
    refine WL.nil ?_
    refine WE.then ?_
    refine WC.seqH (fun (gx : Int × Mem) => match gx with | ⟨v9_1, Gm1⟩ => [(0, .int .i64 a0_1), (7, .bool yv1), (8, .pointer (some ⟨b1, 0, none⟩)), (9, .int .i64 v9_1)]) (fun (gx : Int × Mem) => match gx with | ⟨v9_1, Gm1⟩ => Mem.le G0 Gm1 ∧ (law21_ComponentsErrors_k2 a0_1 a1_1 a2_1 yv1 v9_1).Ret r) (fun (gx : Int × Mem) => match gx with | ⟨v9_1, Gm1⟩ => St w0 G0 Gm1 [(8, some ⟨b1, .cells (vecG (Value.int .i64) 8 (setF (fun _ => 0) ((Int.tmod a1_1 8).toNat) a2_1)).toArray 48 (0, 0), 0⟩)]) ?_ ?_
    · skip
      refine WC.seq ?_
      refine WC.region ?_
      refine WL.y0' guard_none (Y0.move rfl) rfl ?_
      refine WL.caseY0 (p := a0_1 < 0) guard_none (Y0.lss rfl rfl) rfl (fun hb8 => ?_) (fun hb8 => ?_)
      · replace hr := hr.pos hb8
        refine WL.y0' guard_none (Y0.move rfl) rfl ?_
        refine WL.skip (guard_noF rfl rfl) rfl ?_
        refine WL.skip (guard_noF rfl rfl) rfl ?_
        refine WL.y0' guard_none (Y0.pickT rfl rfl) rfl ?_
        refine WL.y0' guard_none (Y0.move rfl) rfl ?_
        refine WL.skip (guard_noF rfl rfl) rfl ?_
        refine WL.skip (guard_noF rfl rfl) rfl ?_
        refine WL.y0' guard_none (Y0.pickT rfl rfl) rfl ?_
        refine WL.y0' guard_none (Y0.move rfl) rfl ?_
        refine WL.skip (guard_noF rfl rfl) rfl ?_
        refine WL.skip (guard_noF rfl rfl) rfl ?_
        refine WL.y0' guard_none (Y0.pickT rfl rfl) rfl ?_
        refine WL.y0' guard_none (Y0.move rfl) rfl ?_
        refine WL.skip (guard_noF rfl rfl) rfl ?_
        refine WL.skip (guard_noF rfl rfl) rfl ?_
        refine WL.skip (guard_noF rfl rfl) rfl ?_
        refine WL.skip (guard_undef rfl rfl) rfl ?_
        refine WL.skip (guard_undef rfl rfl) rfl ?_
        refine WL.skip (guard_undef rfl rfl) rfl ?_
        refine WL.skip (guard_undef rfl rfl) rfl ?_
        refine WL.skip (guard_undef rfl rfl) rfl ?_
        refine WL.skip (guard_noF rfl rfl) rfl ?_
        refine WL.y0' guard_none (Y0.pickT rfl rfl) rfl ?_
        refine WL.nil ?_
        refine WE.then ?_
        refine WC.condT rfl ?_
        refine WC.region ?_
        refine WL.y0' guard_none (Y0.assign rfl) rfl ?_
        refine WL.nil ?_
        refine WE.midH ⟨1, G0⟩ ⟨(Mem.le_refl _), hr⟩ (Fr.sub_cons rfl (Fr.sub_cons rfl (Fr.sub_cons rfl (Fr.sub_cons rfl (Fr.sub_nil _))))) ?_
        · intro w hs
          exact hs.weaken (Lo.sub_cons rfl (Lo.sub_nil _))
      · replace hr := hr.neg hb8
        refine WL.y0' guard_none (Y0.move rfl) rfl ?_
        refine WL.y0' (guard_yes rfl rfl) (Y0.move rfl) rfl ?_
        refine WL.caseY0 (p := 8 < a0_1) (guard_yes rfl rfl) (Y0.gtr rfl rfl) rfl (fun hb9 => ?_) (fun hb9 => ?_)
        · replace hr := hr.pos hb9
          refine WL.y0' guard_none (Y0.pickF rfl rfl) rfl ?_
          refine WL.y0' guard_none (Y0.move rfl) rfl ?_
          refine WL.skip (guard_noF rfl rfl) rfl ?_
          refine WL.skip (guard_noF rfl rfl) rfl ?_
          refine WL.y0' guard_none (Y0.pickT rfl rfl) rfl ?_
          refine WL.y0' guard_none (Y0.move rfl) rfl ?_
          refine WL.skip (guard_noF rfl rfl) rfl ?_
          refine WL.skip (guard_noF rfl rfl) rfl ?_
          refine WL.y0' guard_none (Y0.pickT rfl rfl) rfl ?_
          refine WL.y0' guard_none (Y0.move rfl) rfl ?_
          refine WL.skip (guard_noF rfl rfl) rfl ?_
          refine WL.skip (guard_noF rfl rfl) rfl ?_
          refine WL.skip (guard_noF rfl rfl) rfl ?_
          refine WL.skip (guard_undef rfl rfl) rfl ?_
          refine WL.skip (guard_undef rfl rfl) rfl ?_
          refine WL.skip (guard_undef rfl rfl) rfl ?_
          refine WL.skip (guard_undef rfl rfl) rfl ?_
          refine WL.skip (guard_undef rfl rfl) rfl ?_
          refine WL.skip (guard_noF rfl rfl) rfl ?_
          refine WL.y0' guard_none (Y0.pickT rfl rfl) rfl ?_
          refine WL.nil ?_
          refine WE.then ?_
          refine WC.condT rfl ?_
          refine WC.region ?_
          refine WL.y0' guard_none (Y0.assign rfl) rfl ?_
          refine WL.nil ?_
          refine WE.midH ⟨1, G0⟩ ⟨(Mem.le_refl _), hr⟩ (Fr.sub_cons rfl (Fr.sub_cons rfl (Fr.sub_cons rfl (Fr.sub_cons rfl (Fr.sub_nil _))))) ?_
          · intro w hs
            exact hs.weaken (Lo.sub_cons rfl (Lo.sub_nil _))
        · replace hr := hr.neg hb9
          refine WL.y0' guard_none (Y0.pickF rfl rfl) rfl ?_
          refine WL.y0' guard_none (Y0.move rfl) rfl ?_
          refine WL.y0' (guard_yes rfl rfl) (Y0.move rfl) rfl ?_
          refine WL.caseY0 (p := a2_1 < 0) (guard_yes rfl rfl) (Y0.lss rfl rfl) rfl (fun hb10 => ?_) (fun hb10 => ?_)
          · replace hr := hr.pos hb10
            refine WL.y0' guard_none (Y0.pickF rfl rfl) rfl ?_
            refine WL.y0' guard_none (Y0.move rfl) rfl ?_
            refine WL.skip (guard_noF rfl rfl) rfl ?_
            refine WL.skip (guard_noF rfl rfl) rfl ?_
            refine WL.y0' guard_none (Y0.pickT rfl rfl) rfl ?_
            refine WL.y0' guard_none (Y0.move rfl) rfl ?_
            refine WL.skip (guard_noF rfl rfl) rfl ?_
            refine WL.skip (guard_noF rfl rfl) rfl ?_
            refine WL.skip (guard_noF rfl rfl) rfl ?_
            refine WL.skip (guard_undef rfl rfl) rfl ?_
            refine WL.skip (guard_undef rfl rfl) rfl ?_
            refine WL.skip (guard_undef rfl rfl) rfl ?_
            refine WL.skip (guard_undef rfl rfl) rfl ?_
            refine WL.skip (guard_undef rfl rfl) rfl ?_
            refine WL.skip (guard_noF rfl rfl) rfl ?_
            refine WL.y0' guard_none (Y0.pickT rfl rfl) rfl ?_
            refine WL.nil ?_
            refine WE.then ?_
            refine WC.condT rfl ?_
            refine WC.region ?_
            refine WL.y0' guard_none (Y0.assign rfl) rfl ?_
            refine WL.nil ?_
            refine WE.midH ⟨1, G0⟩ ⟨(Mem.le_refl _), hr⟩ (Fr.sub_cons rfl (Fr.sub_cons rfl (Fr.sub_cons rfl (Fr.sub_cons rfl (Fr.sub_nil _))))) ?_
            · intro w hs
              exact hs.weaken (Lo.sub_cons rfl (Lo.sub_nil _))
          · replace hr := hr.neg hb10
            refine WL.y0' guard_none (Y0.pickF rfl rfl) rfl ?_
            refine WL.y0' guard_none (Y0.move rfl) rfl ?_
            refine WL.y0' (guard_yes rfl rfl) (Y0.move rfl) rfl ?_
            refine WL.caseY0 (p := 65535 < a2_1) (guard_yes rfl rfl) (Y0.gtr rfl rfl) rfl (fun hb11 => ?_) (fun hb11 => ?_)
            · replace hr := hr.pos hb11
              refine WL.y0' guard_none (Y0.pickF rfl rfl) rfl ?_
              refine WL.y0' guard_none (Y0.move rfl) rfl ?_
              refine WL.skip (guard_noF rfl rfl) rfl ?_
              refine WL.skip (guard_noF rfl rfl) rfl ?_
              refine WL.skip (guard_noF rfl rfl) rfl ?_
              refine WL.skip (guard_undef rfl rfl) rfl ?_
              refine WL.skip (guard_undef rfl rfl) rfl ?_
              refine WL.skip (guard_undef rfl rfl) rfl ?_
              refine WL.skip (guard_undef rfl rfl) rfl ?_
              refine WL.skip (guard_undef rfl rfl) rfl ?_
              refine WL.skip (guard_noF rfl rfl) rfl ?_
              refine WL.y0' guard_none (Y0.pickT rfl rfl) rfl ?_
              refine WL.nil ?_
              refine WE.then ?_
              refine WC.condT rfl ?_
              refine WC.region ?_
              refine WL.y0' guard_none (Y0.assign rfl) rfl ?_
              refine WL.nil ?_
              refine WE.midH ⟨1, G0⟩ ⟨(Mem.le_refl _), hr⟩ (Fr.sub_cons rfl (Fr.sub_cons rfl (Fr.sub_cons rfl (Fr.sub_cons rfl (Fr.sub_nil _))))) ?_
              · intro w hs
                exact hs.weaken (Lo.sub_cons rfl (Lo.sub_nil _))
            · replace hr := hr.neg hb11
              refine WL.y0' guard_none (Y0.pickF rfl rfl) rfl ?_
              refine WL.y0' guard_none (Y0.move rfl) rfl ?_
              refine WL.y0' (guard_yes rfl rfl) (Y0.move rfl) rfl ?_
              refine WL.caseY0 (p := 0 < a2_1) (guard_yes rfl rfl) (Y0.gtr rfl rfl) rfl (fun hb12 => ?_) (fun hb12 => ?_)
              · replace hr := hr.pos hb12
                refine WL.y0' (guard_yes rfl rfl) (Y0.move rfl) rfl ?_
                refine WL.y0' (guard_yes rfl rfl) (Y0.move rfl) rfl ?_
                refine WL.y0' (guard_yes rfl rfl) (Y0.rem rfl rfl (by decide)) rfl ?_
                refine WL.y0' (guard_yes rfl rfl) (Y0.conv Try.underlying5 Try.underlying3 rfl) rfl ?_
                refine WL.y0' (guard_yes rfl rfl) (Y0.move rfl) rfl ?_
                refine WL.y0' (guard_yes rfl rfl) (Y0.geq rfl rfl) rfl ?_
                refine WL.y0' (guard_yes rfl rfl) (Y0.pickT rfl rfl) rfl ?_
                refine WL.y0' guard_none (Y0.pickF rfl rfl) rfl ?_
                refine WL.nil ?_
                refine WE.then ?_
                refine WC.condD (p := a0_1 ≤ (IntKind.i64.wrap (Int.tmod a1_1 8))) rfl (fun hc2 => ?_) (fun hc2 => ?_)
                · replace hr := hr.pos hc2
                  refine WC.region ?_
                  refine WL.y0' guard_none (Y0.assign rfl) rfl ?_
                  refine WL.nil ?_
                  refine WE.midH ⟨1, G0⟩ ⟨(Mem.le_refl _), hr⟩ (Fr.sub_cons rfl (Fr.sub_cons rfl (Fr.sub_cons rfl (Fr.sub_cons rfl (Fr.sub_nil _))))) ?_
                  · intro w hs
                    exact hs.weaken (Lo.sub_cons rfl (Lo.sub_nil _))
                · replace hr := hr.neg hc2
                  refine WC.skip ?_
                  refine WE.midH ⟨0, G0⟩ ⟨(Mem.le_refl _), hr⟩ (Fr.sub_cons rfl (Fr.sub_cons rfl (Fr.sub_cons rfl (Fr.sub_cons rfl (Fr.sub_nil _))))) ?_
                  · intro w hs
                    exact hs.weaken (Lo.sub_cons rfl (Lo.sub_nil _))
              · replace hr := hr.neg hb12
                refine WL.y0' (guard_yes rfl rfl) (Y0.move rfl) rfl ?_
                refine WL.skip (guard_noT rfl rfl) rfl ?_
                refine WL.skip (guard_noT rfl rfl) rfl ?_
                refine WL.skip (guard_noT rfl rfl) rfl ?_
                refine WL.skip (guard_noT rfl rfl) rfl ?_
                refine WL.skip (guard_noT rfl rfl) rfl ?_
                refine WL.y0' (guard_yes rfl rfl) (Y0.pickF rfl rfl) rfl ?_
                refine WL.y0' guard_none (Y0.pickF rfl rfl) rfl ?_
                refine WL.nil ?_
                refine WE.then ?_
                refine WC.condF rfl ?_
                refine WC.skip ?_
                refine WE.midH ⟨0, G0⟩ ⟨(Mem.le_refl _), hr⟩ (Fr.sub_cons rfl (Fr.sub_cons rfl (Fr.sub_cons rfl (Fr.sub_cons rfl (Fr.sub_nil _))))) ?_
                · intro w hs
                  exact hs.weaken (Lo.sub_cons rfl (Lo.sub_nil _))
    · rintro ⟨v9_1, Gm1⟩ ⟨Gm1le, hr⟩
      refine WC.seq ?_
      refine WC.region ?_
      refine WL.y0' guard_none (Y0.loadLA 8 ag48 rfl rfl (vecG_size _ _ _)) rfl ?_
      refine WL.litR (e := 48) (r := (Rp.vec .i64 8)) (vs := #[(0, .agg (vecG (Value.int .i64) 8 (setF (fun _ => 0) ((Int.tmod a1_1 8).toNat) a2_1)).toArray)]) (cs := (vecG (Value.int .i64) 8 (setF (fun _ => 0) ((Int.tmod a1_1 8).toNat) a2_1)) ++ ([])) ([setF (fun _ => 0) ((Int.tmod a1_1 8).toNat) a2_1] : List (Fin 8 → Int)) guard_none rfl rfl rfl rfl (by decide) (fun _ => by kernel_rfl) ⟨vecG (Value.int .i64) 8 (setF (fun _ => 0) ((Int.tmod a1_1 8).toNat) a2_1), [], rfl, rfl, rfl⟩ (key := 999) rfl (by rw [hL0]; rfl) (fun p1 Gv2 Gv2le p1h => ?_)
      refine WL.y0' guard_none (Y0.assign rfl) rfl ?_
      refine WL.nil ?_
      refine WE.then ?_
      refine WC.seq ?_
      refine WC.region ?_
      refine WL.y0' guard_none (Y0.move rfl) rfl ?_
      refine WL.y0' guard_none (Y0.move rfl) rfl ?_
      obtain ⟨yv2, hyv2, hr⟩ := hr
      refine WL.call guard_none rfl (YC.of E14 rfl) (L_components_Irreducible _ _ _ _ _ hyv2) rfl (p1h) (fun yv2v Gv3 Gv3le yv2post => ?_)
      obtain ⟨yv2r0p, yv2r0c, rfl, yv2r0h⟩ := yv2post
      refine WL.y0' guard_none (Y0.move rfl) rfl ?_
      refine WL.y0' guard_none (Y0.extract rfl rfl) rfl ?_
      refine WL.y0' guard_none (Y0.extract rfl rfl) rfl ?_
      refine WL.y0' guard_none (Y0.assign rfl) rfl ?_
      refine WL.y0' guard_none (Y0.assign rfl) rfl ?_
      refine WL.nil ?_
      refine WE.then ?_
      refine WC.seq ?_
      refine WC.region ?_
      refine WL.y0' guard_none (Y0.move rfl) rfl ?_
      refine WL.y0' guard_none (Y0.move rfl) rfl ?_
      obtain ⟨yv3, hyv3, hr⟩ := hr
      refine WL.call guard_none rfl (YC.of E16 rfl) (L_components_Primes _ _ _ _ _ hyv3) rfl ((p1h.mono Gv3le)) (fun yv3v Gv4 Gv4le yv3post => ?_)
      obtain ⟨yv3r0p, yv3r0c, rfl, yv3r0h⟩ := yv3post
      refine WL.y0' guard_none (Y0.move rfl) rfl ?_
      refine WL.y0' guard_none (Y0.extract rfl rfl) rfl ?_
      refine WL.y0' guard_none (Y0.extract rfl rfl) rfl ?_
      refine WL.y0' guard_none (Y0.assign rfl) rfl ?_
      refine WL.y0' guard_none (Y0.assign rfl) rfl ?_
      refine WL.nil ?_
      refine WE.then ?_
      refine WC.seq ?_
      refine WC.region ?_
      refine WL.y0' guard_none (Y0.move rfl) rfl ?_
      refine WL.y0' guard_none (Y0.move rfl) rfl ?_
      obtain ⟨yv4, hyv4, hr⟩ := hr
      refine WL.call guard_none rfl (YC.of E18 rfl) (L_components_Embedded _ _ _ _ _ hyv4) rfl ((p1h.mono (Mem.le_trans Gv3le Gv4le))) (fun yv4v Gv5 Gv5le yv4post => ?_)
      obtain ⟨yv4r0p, yv4r0c, rfl, yv4r0h⟩ := yv4post
      refine WL.y0' guard_none (Y0.move rfl) rfl ?_
      refine WL.y0' guard_none (Y0.extract rfl rfl) rfl ?_
      refine WL.y0' guard_none (Y0.extract rfl rfl) rfl ?_
      refine WL.y0' guard_none (Y0.assign rfl) rfl ?_
      refine WL.y0' guard_none (Y0.assign rfl) rfl ?_
      refine WL.nil ?_
      refine WE.then ?_
      refine WC.seq ?_
      refine WC.region ?_
      refine WL.y0' guard_none (Y0.move rfl) rfl ?_
      refine WL.y0' guard_none (Y0.move rfl) rfl ?_
      obtain ⟨yv5, hyv5, hr⟩ := hr
      refine WL.call guard_none rfl (YC.of E20 rfl) (L_components_Primary _ _ _ _ _ hyv5) rfl ((p1h.mono (Mem.le_trans (Mem.le_trans Gv3le Gv4le) Gv5le))) (fun yv5v Gv6 Gv6le yv5post => ?_)
      obtain ⟨yv5r0p, yv5r0c, rfl, yv5r0h⟩ := yv5post
      refine WL.y0' guard_none (Y0.move rfl) rfl ?_
      refine WL.y0' guard_none (Y0.extract rfl rfl) rfl ?_
      refine WL.y0' guard_none (Y0.extract rfl rfl) rfl ?_
      refine WL.y0' guard_none (Y0.assign rfl) rfl ?_
      refine WL.y0' guard_none (Y0.assign rfl) rfl ?_
      refine WL.nil ?_
      refine WE.then ?_
      refine WC.seq ?_
      refine WC.region ?_
      obtain ⟨hn1, hr⟩ := hr
      refine WL.makeT (r := (Rp.vec .i64 8)) (e := 48) (n := (9 : Int)) (zx := (fun _ => 0)) 4082 guard_none rfl Try.underlying28 el48 rfl (by decide) (by decide) rfl rfl rfl hn1 (fun p2 p2tk p2h => ?_)
      refine WL.freezeT (r := (Rp.vec .i64 8)) (e := 48) 4082 p2h rfl (by rw [hL0]; rfl) (fun tk1 Gv7 Gv7le tk1h tk1ht => ?_)
      obtain ⟨yv6, hyv6, hr⟩ := hr
      refine WL.call guard_none rfl (YC.of E20 rfl) (L_components_Primary _ _ _ _ _ hyv6) rfl (tk1h) (fun yv6v Gv8 Gv8le yv6post => ?_)
      obtain ⟨yv6r0p, yv6r0c, rfl, yv6r0h⟩ := yv6post
      refine WL.y0' guard_none (Y0.move rfl) rfl ?_
      refine WL.y0' guard_none (Y0.extract rfl rfl) rfl ?_
      refine WL.y0' guard_none (Y0.extract rfl rfl) rfl ?_
      refine WL.y0' guard_none (Y0.assign rfl) rfl ?_
      refine WL.y0' guard_none (Y0.assign rfl) rfl ?_
      refine WL.nil ?_
      refine WE.then ?_
      refine WC.seqH (fun (gx : Bool × Mem) => match gx with | ⟨v21_1, Gm2⟩ => [(7, .bool yv1), (9, .int .i64 v9_1), (12, .int .i64 yv2.2), (14, .int .i64 yv3.2), (16, .int .i64 yv4.2), (18, .int .i64 yv5.2), (20, .int .i64 yv6.2), (21, .bool v21_1)]) (fun (gx : Bool × Mem) => match gx with | ⟨v21_1, Gm2⟩ => Mem.le Gv8 Gm2 ∧ (law21_ComponentsErrors_k1 yv1 v9_1 yv2 yv3 yv4 yv5 yv6 v21_1).Ret r) (fun (gx : Bool × Mem) => match gx with | ⟨v21_1, Gm2⟩ => St w0 G0 Gm2 []) ?_ ?_
      · skip
        refine WC.region ?_
        refine WL.y0' guard_none (Y0.move rfl) rfl ?_
        refine WL.caseY0 (p := v9_1 = 0) guard_none (Y0.eql rfl rfl) rfl (fun hb7 => ?_) (fun hb7 => ?_)
        · replace hr := hr.pos hb7
          refine WL.y0' guard_none (Y0.move rfl) rfl ?_
          refine WL.skip (guard_noF rfl rfl) rfl ?_
          refine WL.skip (guard_noF rfl rfl) rfl ?_
          refine WL.skip (guard_noF rfl rfl) rfl ?_
          refine WL.skip (guard_noF rfl rfl) rfl ?_
          refine WL.skip (guard_noF rfl rfl) rfl ?_
          refine WL.skip (guard_noF rfl rfl) rfl ?_
          refine WL.skip (guard_noF rfl rfl) rfl ?_
          refine WL.skip (guard_noF rfl rfl) rfl ?_
          refine WL.skip (guard_noF rfl rfl) rfl ?_
          refine WL.skip (guard_noF rfl rfl) rfl ?_
          refine WL.skip (guard_noF rfl rfl) rfl ?_
          refine WL.skip (guard_noF rfl rfl) rfl ?_
          refine WL.y0' guard_none (Y0.pickT rfl rfl) rfl ?_
          refine WL.y0' guard_none (Y0.assign rfl) rfl ?_
          refine WL.nil ?_
          refine WE.midH ⟨true, Gv8⟩ ⟨(Mem.le_refl _), hr⟩ (Fr.sub_cons rfl (Fr.sub_cons rfl (Fr.sub_cons rfl (Fr.sub_cons rfl (Fr.sub_cons rfl (Fr.sub_cons rfl (Fr.sub_cons rfl (Fr.sub_cons rfl (Fr.sub_nil _))))))))) ?_
          · intro w hs
            exact hs.weaken (Lo.sub_nil _)
        · replace hr := hr.neg hb7
          refine WL.y0' guard_none (Y0.move rfl) rfl ?_
          refine WL.y0' (guard_yes rfl rfl) (Y0.move rfl) rfl ?_
          refine WL.y0' (guard_yes rfl rfl) (Y0.lenR Try.underlying28 (yv2r0h.mono (Mem.le_trans (Mem.le_trans (Mem.le_trans (Mem.le_trans Gv4le Gv5le) Gv6le) Gv7le) Gv8le)) rfl) rfl ?_
          refine WL.y0' (guard_yes rfl rfl) (Y0.move rfl) rfl ?_
          refine WL.y0' (guard_yes rfl rfl) (Y0.lenR Try.underlying33 (yv3r0h.mono (Mem.le_trans (Mem.le_trans (Mem.le_trans Gv5le Gv6le) Gv7le) Gv8le)) rfl) rfl ?_
          refine WL.y0' (guard_yes rfl rfl) (Y0.add rfl rfl) rfl ?_
          refine WL.y0' (guard_yes rfl rfl) (Y0.move rfl) rfl ?_
          refine WL.y0' (guard_yes rfl rfl) (Y0.lenR Try.underlying33 (yv4r0h.mono (Mem.le_trans (Mem.le_trans Gv6le Gv7le) Gv8le)) rfl) rfl ?_
          refine WL.y0' (guard_yes rfl rfl) (Y0.add rfl rfl) rfl ?_
          refine WL.y0' (guard_yes rfl rfl) (Y0.move rfl) rfl ?_
          refine WL.y0' (guard_yes rfl rfl) (Y0.lenR Try.underlying36 (yv5r0h.mono (Mem.le_trans Gv7le Gv8le)) rfl) rfl ?_
          refine WL.y0' (guard_yes rfl rfl) (Y0.add rfl rfl) rfl ?_
          refine WL.y0' (guard_yes rfl rfl) (Y0.eql rfl rfl) rfl ?_
          refine WL.y0' guard_none (Y0.pickF rfl rfl) rfl ?_
          refine WL.y0' guard_none (Y0.assign rfl) rfl ?_
          refine WL.nil ?_
          refine WE.midH ⟨decide ((IntKind.i64.wrap ((IntKind.i64.wrap ((IntKind.i64.wrap ((yv2.1.length : Int) + (yv3.1.length : Int))) + (yv4.1.length : Int))) + (yv5.1.length : Int))) = 0), Gv8⟩ ⟨(Mem.le_refl _), hr⟩ (Fr.sub_cons rfl (Fr.sub_cons rfl (Fr.sub_cons rfl (Fr.sub_cons rfl (Fr.sub_cons rfl (Fr.sub_cons rfl (Fr.sub_cons rfl (Fr.sub_cons rfl (Fr.sub_nil _))))))))) ?_
          · intro w hs
            exact hs.weaken (Lo.sub_nil _)
      · rintro ⟨v21_1, Gm2⟩ ⟨Gm2le, hr⟩
        refine WC.seq ?_
        refine WC.region ?_
        refine WL.y0' guard_none (Y0.move rfl) rfl ?_
        refine WL.y0' guard_none (Y0.move rfl) rfl ?_
        refine WL.caseY0 (p := yv2.2 = v9_1) guard_none (Y0.eql rfl rfl) rfl (fun hb1 => ?_) (fun hb1 => ?_)
        · replace hr := hr.pos hb1
          refine WL.y0' guard_none (Y0.move rfl) rfl ?_
          refine WL.y0' (guard_yes rfl rfl) (Y0.move rfl) rfl ?_
          refine WL.y0' (guard_yes rfl rfl) (Y0.move rfl) rfl ?_
          refine WL.caseY0 (p := yv3.2 = v9_1) (guard_yes rfl rfl) (Y0.eql rfl rfl) rfl (fun hb2 => ?_) (fun hb2 => ?_)
          · replace hr := hr.pos hb2
            refine WL.y0' guard_none (Y0.pickT rfl rfl) rfl ?_
            refine WL.y0' guard_none (Y0.move rfl) rfl ?_
            refine WL.y0' (guard_yes rfl rfl) (Y0.move rfl) rfl ?_
            refine WL.y0' (guard_yes rfl rfl) (Y0.move rfl) rfl ?_
            refine WL.caseY0 (p := yv4.2 = v9_1) (guard_yes rfl rfl) (Y0.eql rfl rfl) rfl (fun hb3 => ?_) (fun hb3 => ?_)
            · replace hr := hr.pos hb3
              refine WL.y0' guard_none (Y0.pickT rfl rfl) rfl ?_
              refine WL.y0' guard_none (Y0.move rfl) rfl ?_
              refine WL.y0' (guard_yes rfl rfl) (Y0.move rfl) rfl ?_
              refine WL.y0' (guard_yes rfl rfl) (Y0.move rfl) rfl ?_
              refine WL.caseY0 (p := yv5.2 = v9_1) (guard_yes rfl rfl) (Y0.eql rfl rfl) rfl (fun hb4 => ?_) (fun hb4 => ?_)
              · replace hr := hr.pos hb4
                refine WL.y0' guard_none (Y0.pickT rfl rfl) rfl ?_
                refine WL.y0' guard_none (Y0.move rfl) rfl ?_
                refine WL.y0' (guard_yes rfl rfl) (Y0.move rfl) rfl ?_
                refine WL.caseY0 (p := yv6.2 = 2) (guard_yes rfl rfl) (Y0.eql rfl rfl) rfl (fun hb5 => ?_) (fun hb5 => ?_)
                · replace hr := hr.pos hb5
                  refine WL.y0' guard_none (Y0.pickT rfl rfl) rfl ?_
                  refine WL.y0' guard_none (Y0.move rfl) rfl ?_
                  refine WL.caseY0 (p := v21_1 = true) (guard_yes rfl rfl) (Y0.eq (Y0.move rfl) (congrArg Value.bool (bdec _))) rfl (fun hb6 => ?_) (fun hb6 => ?_)
                  · replace hr := hr.pos hb6
                    refine WL.y0' guard_none (Y0.pickT rfl rfl) rfl ?_
                    refine WL.y0' guard_none (Y0.move rfl) rfl ?_
                    refine WL.y0' (guard_yes rfl rfl) (Y0.move rfl) rfl ?_
                    refine WL.y0' guard_none (Y0.pickT rfl rfl) rfl ?_
                    refine WL.y0' guard_none (Y0.assign rfl) rfl ?_
                    refine WL.nil ?_
                    refine WE.then ?_
                    refine WC.ret ?_
                    replace hr : _ = r := hr
                    subst hr
                    exact WE.ret1 rfl rfl rfl
                  · replace hr := hr.neg hb6
                    refine WL.y0' guard_none (Y0.pickT rfl rfl) rfl ?_
                    refine WL.y0' guard_none (Y0.move rfl) rfl ?_
                    refine WL.skip (guard_noT rfl rfl) rfl ?_
                    refine WL.y0' guard_none (Y0.pickF rfl rfl) rfl ?_
                    refine WL.y0' guard_none (Y0.assign rfl) rfl ?_
                    refine WL.nil ?_
                    refine WE.then ?_
                    refine WC.ret ?_
                    replace hr : _ = r := hr
                    subst hr
                    exact WE.ret1 rfl rfl rfl
                · replace hr := hr.neg hb5
                  refine WL.y0' guard_none (Y0.pickT rfl rfl) rfl ?_
                  refine WL.y0' guard_none (Y0.move rfl) rfl ?_
                  refine WL.skip (guard_noT rfl rfl) rfl ?_
                  refine WL.y0' guard_none (Y0.pickF rfl rfl) rfl ?_
                  refine WL.y0' guard_none (Y0.move rfl) rfl ?_
                  refine WL.skip (guard_noT rfl rfl) rfl ?_
                  refine WL.y0' guard_none (Y0.pickF rfl rfl) rfl ?_
                  refine WL.y0' guard_none (Y0.assign rfl) rfl ?_
                  refine WL.nil ?_
                  refine WE.then ?_
                  refine WC.ret ?_
                  replace hr : _ = r := hr
                  subst hr
                  exact WE.ret1 rfl rfl rfl
              · replace hr := hr.neg hb4
                refine WL.y0' guard_none (Y0.pickT rfl rfl) rfl ?_
                refine WL.y0' guard_none (Y0.move rfl) rfl ?_
                refine WL.skip (guard_noT rfl rfl) rfl ?_
                refine WL.skip (guard_noT rfl rfl) rfl ?_
                refine WL.y0' guard_none (Y0.pickF rfl rfl) rfl ?_
                refine WL.y0' guard_none (Y0.move rfl) rfl ?_
                refine WL.skip (guard_noT rfl rfl) rfl ?_
                refine WL.y0' guard_none (Y0.pickF rfl rfl) rfl ?_
                refine WL.y0' guard_none (Y0.move rfl) rfl ?_
                refine WL.skip (guard_noT rfl rfl) rfl ?_
                refine WL.y0' guard_none (Y0.pickF rfl rfl) rfl ?_
                refine WL.y0' guard_none (Y0.assign rfl) rfl ?_
                refine WL.nil ?_
                refine WE.then ?_
                refine WC.ret ?_
                replace hr : _ = r := hr
                subst hr
                exact WE.ret1 rfl rfl rfl
            · replace hr := hr.neg hb3
              refine WL.y0' guard_none (Y0.pickT rfl rfl) rfl ?_
              refine WL.y0' guard_none (Y0.move rfl) rfl ?_
              refine WL.skip (guard_noT rfl rfl) rfl ?_
              refine WL.skip (guard_noT rfl rfl) rfl ?_
              refine WL.skip (guard_noT rfl rfl) rfl ?_
              refine WL.y0' guard_none (Y0.pickF rfl rfl) rfl ?_
              refine WL.y0' guard_none (Y0.move rfl) rfl ?_
              refine WL.skip (guard_noT rfl rfl) rfl ?_
              refine WL.skip (guard_noT rfl rfl) rfl ?_
              refine WL.y0' guard_none (Y0.pickF rfl rfl) rfl ?_
              refine WL.y0' guard_none (Y0.move rfl) rfl ?_
              refine WL.skip (guard_noT rfl rfl) rfl ?_
              refine WL.y0' guard_none (Y0.pickF rfl rfl) rfl ?_
              refine WL.y0' guard_none (Y0.move rfl) rfl ?_
              refine WL.skip (guard_noT rfl rfl) rfl ?_
              refine WL.y0' guard_none (Y0.pickF rfl rfl) rfl ?_
              refine WL.y0' guard_none (Y0.assign rfl) rfl ?_
              refine WL.nil ?_
              refine WE.then ?_
              refine WC.ret ?_
              replace hr : _ = r := hr
              subst hr
              exact WE.ret1 rfl rfl rfl
          · replace hr := hr.neg hb2
            refine WL.y0' guard_none (Y0.pickT rfl rfl) rfl ?_
            refine WL.y0' guard_none (Y0.move rfl) rfl ?_
            refine WL.skip (guard_noT rfl rfl) rfl ?_
            refine WL.skip (guard_noT rfl rfl) rfl ?_
            refine WL.skip (guard_noT rfl rfl) rfl ?_
            refine WL.y0' guard_none (Y0.pickF rfl rfl) rfl ?_
            refine WL.y0' guard_none (Y0.move rfl) rfl ?_
            refine WL.skip (guard_noT rfl rfl) rfl ?_
            refine WL.skip (guard_noT rfl rfl) rfl ?_
            refine WL.skip (guard_noT rfl rfl) rfl ?_
            refine WL.y0' guard_none (Y0.pickF rfl rfl) rfl ?_
            refine WL.y0' guard_none (Y0.move rfl) rfl ?_
            refine WL.skip (guard_noT rfl rfl) rfl ?_
            refine WL.skip (guard_noT rfl rfl) rfl ?_
            refine WL.y0' guard_none (Y0.pickF rfl rfl) rfl ?_
            refine WL.y0' guard_none (Y0.move rfl) rfl ?_
            refine WL.skip (guard_noT rfl rfl) rfl ?_
            refine WL.y0' guard_none (Y0.pickF rfl rfl) rfl ?_
            refine WL.y0' guard_none (Y0.move rfl) rfl ?_
            refine WL.skip (guard_noT rfl rfl) rfl ?_
            refine WL.y0' guard_none (Y0.pickF rfl rfl) rfl ?_
            refine WL.y0' guard_none (Y0.assign rfl) rfl ?_
            refine WL.nil ?_
            refine WE.then ?_
            refine WC.ret ?_
            replace hr : _ = r := hr
            subst hr
            exact WE.ret1 rfl rfl rfl
        · replace hr := hr.neg hb1
          refine WL.y0' guard_none (Y0.move rfl) rfl ?_
          refine WL.skip (guard_noT rfl rfl) rfl ?_
          refine WL.skip (guard_noT rfl rfl) rfl ?_
          refine WL.skip (guard_noT rfl rfl) rfl ?_
          refine WL.y0' guard_none (Y0.pickF rfl rfl) rfl ?_
          refine WL.y0' guard_none (Y0.move rfl) rfl ?_
          refine WL.skip (guard_noT rfl rfl) rfl ?_
          refine WL.skip (guard_noT rfl rfl) rfl ?_
          refine WL.skip (guard_noT rfl rfl) rfl ?_
          refine WL.y0' guard_none (Y0.pickF rfl rfl) rfl ?_
          refine WL.y0' guard_none (Y0.move rfl) rfl ?_
          refine WL.skip (guard_noT rfl rfl) rfl ?_
          refine WL.skip (guard_noT rfl rfl) rfl ?_
          refine WL.skip (guard_noT rfl rfl) rfl ?_
          refine WL.y0' guard_none (Y0.pickF rfl rfl) rfl ?_
          refine WL.y0' guard_none (Y0.move rfl) rfl ?_
          refine WL.skip (guard_noT rfl rfl) rfl ?_
          refine WL.skip (guard_noT rfl rfl) rfl ?_
          refine WL.y0' guard_none (Y0.pickF rfl rfl) rfl ?_
          refine WL.y0' guard_none (Y0.move rfl) rfl ?_
          refine WL.skip (guard_noT rfl rfl) rfl ?_
          refine WL.y0' guard_none (Y0.pickF rfl rfl) rfl ?_
          refine WL.y0' guard_none (Y0.move rfl) rfl ?_
          refine WL.skip (guard_noT rfl rfl) rfl ?_
          refine WL.y0' guard_none (Y0.pickF rfl rfl) rfl ?_
          refine WL.y0' guard_none (Y0.assign rfl) rfl ?_
          refine WL.nil ?_
          refine WE.then ?_
          refine WC.ret ?_
          replace hr : _ = r := hr
          subst hr
          exact WE.ret1 rfl rfl rfl
end Go.Proofs.Ytbdknlblnfnkkaa
