/- The code does what the models say. The conditions stand in each statement. -/
import Derived.Test.YtbdknlblnfnkkaaLa
namespace Go.Proofs.Ytbdknlblnfnkkaa
open Go Go.EL Go.RowKit Go.Proofs
theorem L_components_contains (a1 : (Fin 8 → Int)) (b1 : (Fin 8 → Int)) (r : Bool) (hr : (components_contains a1 b1).Ret r) : Ctr Try.prog 69 #[.agg (vecG (Value.int .i64) 8 a1).toArray, .agg (vecG (Value.int .i64) 8 b1).toArray] (fun G => True) (fun G v => v = .bool r) := by
  refine Ctr.enter (args := [_, _]) (N := 28) Try.func69 rfl rfl rfl (fun w0 G0 hL0 hpre => ?_)
  refine WC.seq ?_
  refine WC.region ?_
  refine WL.box 2 guard_none rfl rfl (fun b2 => ?_)
  refine WL.box 3 guard_none rfl rfl (fun b3 => ?_)
  refine WL.y0' guard_none (Y0.assign rfl) rfl ?_
  refine WL.nil ?_
  refine WE.then ?_
  refine WC.seq ?_
  refine WC.seq ?_
  refine WC.region ?_
  refine WL.y0' guard_none (Y0.loadLA 3 ag48 rfl rfl (vecG_size _ _ _)) rfl ?_
  refine WL.y0' guard_none (Y0.move rfl) rfl ?_
  refine WL.nil ?_
  refine WE.then ?_
  refine WC.meetH (fun (gx : Mem) => match gx with | Gm1 => []) (fun (gx : Mem) => match gx with | Gm1 => Mem.le G0 Gm1 ∧ (components_contains_k1).Ret r) (fun (gx : Mem) => match gx with | Gm1 => St w0 G0 Gm1 []) ?_ ?_
  · refine WC.block ?_
    let Phi1 : (Bool ⊕ Unit) → Prop := fun oo => ((fun ov => match ov with | .inl rv1 => Comp.ret rv1 | .inr () => components_contains_k1 : (Bool ⊕ Unit) → Comp Bool) oo).wp (fun a => a = r)
    replace hr : (Comp.loop _ _).wp Phi1 := hr
    refine WC.loopR (Φ := Phi1) (fun (gx : Int × Mem) => match gx with | ⟨v8_1, Gm2⟩ => (v8_1 : Int)) (fun (gx : Int × Mem) => match gx with | ⟨v8_1, Gm2⟩ => [(2, .pointer (some ⟨b2, 0, none⟩)), (7, .agg (vecG (Value.int .i64) 8 b1).toArray), (8, .int .i64 v8_1)]) (fun (gx : Int × Mem) => match gx with | ⟨v8_1, Gm2⟩ => Mem.le G0 Gm2) (fun (gx : Int × Mem) => match gx with | ⟨v8_1, Gm2⟩ => St w0 G0 Gm2 [(2, some ⟨b2, .cells (vecG (Value.int .i64) 8 a1).toArray 48 (0, 0), 0⟩)]) ⟨0, G0⟩ hr (Fr.sub_cons rfl (Fr.sub_cons rfl (Fr.sub_cons rfl (Fr.sub_nil _)))) (Mem.le_refl _) ?_ ?_
    · intro w hs
      exact hs.weaken (Lo.sub_cons rfl (Lo.sub_nil _))
    · intro Aq1 gx hx hr
      obtain ⟨v8_1, Gm2⟩ := gx
      have Gm2le := hx
      refine WC.seq ?_
      refine WC.region ?_
      refine WL.y0' guard_none (Y0.lss rfl rfl) rfl ?_
      refine WL.nil ?_
      refine WE.then ?_
      refine WC.seq ?_
      refine WC.condD (p := v8_1 < 8) rfl (fun hc1 => ?_) (fun hc1 => ?_)
      · replace hr := hr.pos hc1
        refine WC.skip ?_
        refine WE.then ?_
        refine WC.seq ?_
        refine WC.block ?_
        refine WC.seq ?_
        refine WC.region ?_
        refine WL.y0' guard_none (Y0.move rfl) rfl ?_
        obtain ⟨hi1, hr⟩ := hr
        refine WL.y0' guard_none (Y0.index Try.underlying48 sc3 sz3 rfl rfl hi1 (vecG_at _ _ _ hi1)) rfl ?_
        refine WL.y0' guard_none (Y0.assign rfl) rfl ?_
        refine WL.y0' guard_none (Y0.assign rfl) rfl ?_
        refine WL.nil ?_
        refine WE.then ?_
        refine WC.seq ?_
        refine WC.region ?_
        refine WL.y0' guard_none (Y0.move rfl) rfl ?_
        refine WL.caseY0 (p := 0 < (getF b1 v8_1)) guard_none (Y0.gtr rfl rfl) rfl (fun hb1 => ?_) (fun hb1 => ?_)
        · replace hr := hr.pos hb1
          refine WL.y0' guard_none (Y0.move rfl) rfl ?_
          refine WL.y0' (guard_yes rfl rfl) (Y0.move rfl) rfl ?_
          obtain ⟨hi2, hr⟩ := hr
          refine WL.y0' (guard_yes rfl rfl) (Y0.idxA0 Try.underlying48 sz3 rfl rfl hi2) rfl ?_
          refine WL.y0' (guard_yes rfl rfl) (Y0.loadL 2 sc3 rfl rfl (vecG_at _ _ _ hi2)) rfl ?_
          refine WL.caseY0 (p := (getF a1 v8_1) = 0) (guard_yes rfl rfl) (Y0.eql rfl rfl) rfl (fun hb2 => ?_) (fun hb2 => ?_)
          · replace hr := hr.pos hb2
            refine WL.y0' (guard_yes rfl rfl) (Y0.move rfl) rfl ?_
            refine WL.skip (guard_noF rfl rfl) rfl ?_
            refine WL.skip (guard_noF rfl rfl) rfl ?_
            refine WL.skip (guard_noF rfl rfl) rfl ?_
            refine WL.skip (guard_noF rfl rfl) rfl ?_
            refine WL.skip (guard_noF rfl rfl) rfl ?_
            refine WL.y0' (guard_yes rfl rfl) (Y0.pickT rfl rfl) rfl ?_
            refine WL.y0' guard_none (Y0.pickT rfl rfl) rfl ?_
            refine WL.nil ?_
            refine WE.then ?_
            refine WC.condT rfl ?_
            refine WC.seq ?_
            refine WC.region ?_
            refine WL.y0' guard_none (Y0.assign rfl) rfl ?_
            refine WL.nil ?_
            refine WE.then ?_
            refine WC.ret ?_
            replace hr : _ = r := hr
            refine WE.inBlockRet ?_
            refine WE.thenRet ?_
            refine WE.thenRet ?_
            refine WE.inBlockRet ?_
            refine WE.endRet ?_
            refine WE.thenRet ?_
            subst hr
            exact WE.ret1 rfl rfl rfl
          · replace hr := hr.neg hb2
            refine WL.y0' (guard_yes rfl rfl) (Y0.move rfl) rfl ?_
            refine WL.y0' (guard_yes rfl rfl) (Y0.move rfl) rfl ?_
            obtain ⟨hi3, hr⟩ := hr
            refine WL.y0' (guard_yes rfl rfl) (Y0.idxA0 Try.underlying48 sz3 rfl rfl hi3) rfl ?_
            refine WL.y0' (guard_yes rfl rfl) (Y0.loadL 2 sc3 rfl rfl (vecG_at _ _ _ hi3)) rfl ?_
            refine WL.y0' (guard_yes rfl rfl) (Y0.move rfl) rfl ?_
            refine WL.y0' (guard_yes rfl rfl) (Y0.gtr rfl rfl) rfl ?_
            refine WL.y0' (guard_yes rfl rfl) (Y0.pickF rfl rfl) rfl ?_
            refine WL.y0' guard_none (Y0.pickT rfl rfl) rfl ?_
            refine WL.nil ?_
            refine WE.then ?_
            refine WC.condD (p := (getF b1 v8_1) < (getF a1 v8_1)) rfl (fun hc2 => ?_) (fun hc2 => ?_)
            · replace hr := hr.pos hc2
              refine WC.seq ?_
              refine WC.region ?_
              refine WL.y0' guard_none (Y0.assign rfl) rfl ?_
              refine WL.nil ?_
              refine WE.then ?_
              refine WC.ret ?_
              replace hr : _ = r := hr
              refine WE.inBlockRet ?_
              refine WE.thenRet ?_
              refine WE.thenRet ?_
              refine WE.inBlockRet ?_
              refine WE.endRet ?_
              refine WE.thenRet ?_
              subst hr
              exact WE.ret1 rfl rfl rfl
            · replace hr := hr.neg hc2
              refine WC.skip ?_
              refine WE.inBlock ?_
              refine WE.then ?_
              refine WC.region ?_
              refine WL.y0' guard_none (Y0.add rfl rfl) rfl ?_
              refine WL.y0' guard_none (Y0.move rfl) rfl ?_
              refine WL.nil ?_
              refine WE.backR ⟨IntKind.i64.wrap (v8_1 + 1), Gm2⟩ hr Gm2le (Fr.sub_cons rfl (Fr.sub_cons rfl (Fr.sub_cons rfl (Fr.sub_nil _)))) ?_
              · intro w hs
                exact hs.weaken (Lo.sub_cons rfl (Lo.sub_nil _))
        · replace hr := hr.neg hb1
          refine WL.y0' guard_none (Y0.move rfl) rfl ?_
          refine WL.skip (guard_noT rfl rfl) rfl ?_
          refine WL.skip (guard_noT rfl rfl) rfl ?_
          refine WL.skip (guard_noT rfl rfl) rfl ?_
          refine WL.skip (guard_noT rfl rfl) rfl ?_
          refine WL.skip (guard_noT rfl rfl) rfl ?_
          refine WL.skip (guard_undef rfl rfl) rfl ?_
          refine WL.skip (guard_undef rfl rfl) rfl ?_
          refine WL.skip (guard_undef rfl rfl) rfl ?_
          refine WL.skip (guard_undef rfl rfl) rfl ?_
          refine WL.skip (guard_undef rfl rfl) rfl ?_
          refine WL.skip (guard_noT rfl rfl) rfl ?_
          refine WL.y0' guard_none (Y0.pickF rfl rfl) rfl ?_
          refine WL.nil ?_
          refine WE.then ?_
          refine WC.condF rfl ?_
          refine WC.skip ?_
          refine WE.inBlock ?_
          refine WE.then ?_
          refine WC.region ?_
          refine WL.y0' guard_none (Y0.add rfl rfl) rfl ?_
          refine WL.y0' guard_none (Y0.move rfl) rfl ?_
          refine WL.nil ?_
          refine WE.backR ⟨IntKind.i64.wrap (v8_1 + 1), Gm2⟩ hr Gm2le (Fr.sub_cons rfl (Fr.sub_cons rfl (Fr.sub_cons rfl (Fr.sub_nil _)))) ?_
          · intro w hs
            exact hs.weaken (Lo.sub_cons rfl (Lo.sub_nil _))
      · replace hr := hr.neg hc1
        refine WC.exit ?_
        refine WE.thenExit ?_
        refine WE.thenExit ?_
        refine WE.exitHere ?_
        refine WE.endH Gm2 ⟨Gm2le, hr⟩ (Fr.sub_nil _) ?_
        · intro w hs
          exact hs.weaken (Lo.sub_nil _)
  · rintro Gm1 ⟨Gm1le, hr⟩
    refine WE.then ?_
    refine WC.seq ?_
    refine WC.region ?_
    refine WL.y0' guard_none (Y0.assign rfl) rfl ?_
    refine WL.nil ?_
    refine WE.then ?_
    refine WC.ret ?_
    replace hr : _ = r := hr
    subst hr
    exact WE.ret1 rfl rfl rfl
theorem collect67 : CollectsL Try.prog 67 #[] 86 ky48 (Rp.vec .i64 8) 48 :=
  collect (collects_of (fun hN hi hG => appA (ok := ky48.ok) (enc := fun m => (vecG (Value.int .i64) 8 m).toArray) (n := 8) Try.func85 rfl rfl rfl sc28 sz28 Try.underlying28 el48 rfl (by decide) z48 rfl ag48 sz48 (fun _ => by simp [vecG_length]) (fun x u hu => vecG_one (Value.int .i64) 8 x (fun _ => rfl) u (by simpa using hu)) (fun _ _ => rfl) (fun _ _ => by kernel_rfl) E86 hN hi hG) (fun h1 h2 h3 h4 => keysA (ok := ky48.ok) (enc := fun m => (vecG (Value.int .i64) 8 m).toArray) (n := 8) Try.func86 rfl rfl rfl sc82 Try.underlying82 z48 rfl ag48 sz48 (fun _ => by simp [vecG_length]) (fun x u hu => vecG_one (Value.int .i64) 8 x (fun _ => rfl) u (by simpa using hu)) h1 h2 h3 h4)) E85 Try.func67 rfl rfl rfl
theorem L_components_irreducible (a0_1 : (List (Fin 8 → Int))) (a0_1p : Option Addr) (a0_1c : Nat) (r : (List (Fin 8 → Int))) (hr : (components_irreducible a0_1).Ret r) : Ctr Try.prog 43 #[.slice a0_1p a0_1.length a0_1c] (fun G => SlR (Rp.vec .i64 8) G (.slice a0_1p a0_1.length a0_1c) a0_1) (fun G v => ∃ zp zc, v = .slice zp r.length zc ∧ SlR (Rp.vec .i64 8) G (.slice zp r.length zc) r) := by
  refine Ctr.enter (args := [_]) (N := 77) Try.func43 rfl rfl rfl (fun w0 G0 hL0 hpre => ?_)
  have a0_1h := hpre
  have hz : w0.L.zero := by rw [hL0]; intro p hp; simp at hp
  refine WC.seq ?_
  refine WC.region ?_
  refine WL.y0' guard_none (Y0.assign rfl) rfl ?_
  refine WL.nil ?_
  refine WE.then ?_
  refine WC.seq ?_
  refine WC.region ?_
  refine WL.y0' guard_none (Y0.build (vs := #[]) (v := .agg (vecG (Value.int .i64) 8 (fun _ => 0)).toArray) rfl rfl (fun _ => by kernel_rfl)) rfl ?_
  refine WL.litT (e := 48) (r := (Rp.vec .i64 8)) (vs := #[(0, .agg (vecG (Value.int .i64) 8 (fun _ => 0)).toArray)]) (cs := (vecG (Value.int .i64) 8 (fun _ => 0)) ++ ([])) ([(fun _ => 0)] : List (Fin 8 → Int)) 4017 guard_none rfl rfl rfl rfl (by decide) (fun _ => by kernel_rfl) ⟨vecG (Value.int .i64) 8 (fun _ => 0), [], rfl, rfl, rfl⟩ (fun p1 p1tk p1h => ?_)
  refine WL.y0' guard_none (Y0.assign rfl) rfl ?_
  refine WL.nil ?_
  refine WE.then ?_
  refine WC.seq ?_
  refine WC.seq ?_
  refine WC.region ?_
  refine WL.y0' guard_none (Y0.move rfl) rfl ?_
  obtain ⟨yv1, hyv1, hr⟩ := hr
  refine WL.call guard_none rfl (YC.of E55 rfl) (L_monomial_Minimal _ _ _ _ hyv1) rfl (a0_1h) (fun yv1v Gv1 Gv1le yv1post => ?_)
  obtain ⟨yv1p, yv1c, rfl, yv1h⟩ := yv1post
  refine WL.y0' guard_none (Y0.lenR Try.underlying28 yv1h rfl) rfl ?_
  refine WL.y0' guard_none (Y0.move rfl) rfl ?_
  refine WL.nil ?_
  refine WE.then ?_
  refine WC.meetH (fun (gx : (List (Fin 8 → Int)) × Option Addr × Nat × Option Ow × Mem) => match gx with | ⟨v3_1, v3_1p, v3_1c, v3_1tk, Gm1⟩ => [(3, .slice v3_1p v3_1.length v3_1c)]) (fun (gx : (List (Fin 8 → Int)) × Option Addr × Nat × Option Ow × Mem) => match gx with | ⟨v3_1, v3_1p, v3_1c, v3_1tk, Gm1⟩ => Mem.le Gv1 Gm1 ∧ RowR (Rp.vec .i64 8) 48 Gm1 (.slice v3_1p v3_1.length v3_1c) v3_1 v3_1tk ∧ (components_irreducible_k1 v3_1).Ret r) (fun (gx : (List (Fin 8 → Int)) × Option Addr × Nat × Option Ow × Mem) => match gx with | ⟨v3_1, v3_1p, v3_1c, v3_1tk, Gm1⟩ => St w0 G0 Gm1 [(4003, v3_1tk)]) ?_ ?_
  · refine WC.block ?_
    let Phi1 : (((List (Fin 8 → Int)))) → Prop := fun oo => ((fun ov => match ov with | v3_1 => components_irreducible_k1 v3_1 : (((List (Fin 8 → Int)))) → Comp ((List (Fin 8 → Int)))) oo).wp (fun a => a = r)
    replace hr : (Comp.loop _ _).wp Phi1 := hr
    refine WC.loopR (Φ := Phi1) (fun (gx : (List (Fin 8 → Int)) × Option Addr × Nat × Option Ow × Int × Mem) => match gx with | ⟨v3_2, v3_2p, v3_2c, v3_2tk, v21_1, Gm2⟩ => ((v3_2, v21_1) : (List (Fin 8 → Int)) × Int)) (fun (gx : (List (Fin 8 → Int)) × Option Addr × Nat × Option Ow × Int × Mem) => match gx with | ⟨v3_2, v3_2p, v3_2c, v3_2tk, v21_1, Gm2⟩ => [(3, .slice v3_2p v3_2.length v3_2c), (19, .slice yv1p yv1.length yv1c), (20, .int .i64 (yv1.length : Int)), (21, .int .i64 v21_1)]) (fun (gx : (List (Fin 8 → Int)) × Option Addr × Nat × Option Ow × Int × Mem) => match gx with | ⟨v3_2, v3_2p, v3_2c, v3_2tk, v21_1, Gm2⟩ => Mem.le Gv1 Gm2 ∧ RowR (Rp.vec .i64 8) 48 Gm2 (.slice v3_2p v3_2.length v3_2c) v3_2 v3_2tk) (fun (gx : (List (Fin 8 → Int)) × Option Addr × Nat × Option Ow × Int × Mem) => match gx with | ⟨v3_2, v3_2p, v3_2c, v3_2tk, v21_1, Gm2⟩ => St w0 G0 Gm2 [(4003, v3_2tk)]) ⟨[(fun _ => 0)], p1, 1, p1tk, 0, Gv1⟩ hr (Fr.sub_cons rfl (Fr.sub_cons rfl (Fr.sub_cons rfl (Fr.sub_cons rfl (Fr.sub_nil _))))) ⟨(Mem.le_refl _), (p1h.mono Gv1le)⟩ ?_ ?_
    · intro w hs
      have hs := hs.rekey (i := 4017) (j := 4003) rfl (by rw [hL0]; rfl)
      exact hs.weaken (Lo.sub_cons rfl (Lo.sub_nil _))
    · intro Aq1 gx hx hr
      obtain ⟨v3_2, v3_2p, v3_2c, v3_2tk, v21_1, Gm2⟩ := gx
      obtain ⟨Gm2le, v3_2h⟩ := hx
      refine WC.seq ?_
      refine WC.region ?_
      refine WL.y0' guard_none (Y0.lss rfl rfl) rfl ?_
      refine WL.nil ?_
      refine WE.then ?_
      refine WC.seq ?_
      refine WC.condD (p := v21_1 < (yv1.length : Int)) rfl (fun hc1 => ?_) (fun hc1 => ?_)
      · replace hr := hr.pos hc1
        refine WC.skip ?_
        refine WE.then ?_
        refine WC.seq ?_
        refine WC.block ?_
        refine WC.seq ?_
        refine WC.region ?_
        obtain ⟨x1, hx1, hr⟩ := hr
        refine WL.y0' guard_none (Y0.idxR Try.underlying28 sz48 (yv1h.mono Gm2le) rfl rfl hx1) rfl ?_
        refine WL.y0' guard_none (Y0.loadGA _ ag48 rfl (vecG_size _ _ _) (AtK.vec (At.mono (SlR.at yv1h hx1) Gm2le))) rfl ?_
        refine WL.alloc 5 guard_none z48 rfl (fun b1 => ?_)
        refine WL.storeLA 5 guard_none sz48 rfl rfl rfl (vecG_size _ _ _) (vecG_size _ _ _) (fun u hu => Rp.one (Rp.vec .i64 8) (G := Gm2) (x := x1) (cs := vecG (Value.int .i64) 8 x1) rfl u (by simpa using hu)) ?_
        refine WL.nil ?_
        refine WE.then ?_
        refine WC.scope ?_
        refine WC.seq ?_
        refine WC.region ?_
        refine WL.makeMap (ky := ky48) (Rv := RvS Rp.bool Gm2) 4025 guard_none rfl (fun mb1 mb1tk mb1h => ?_)
        refine WL.y0' guard_none (Y0.assign rfl) rfl ?_
        refine WL.nil ?_
        refine WE.then ?_
        refine WC.seq ?_
        refine WC.seq ?_
        refine WC.region ?_
        refine WL.y0' guard_none (Y0.move rfl) rfl ?_
        refine WL.y0' guard_none (Y0.lenRow Try.underlying28 v3_2h rfl) rfl ?_
        refine WL.y0' guard_none (Y0.move rfl) rfl ?_
        refine WL.nil ?_
        refine WE.then ?_
        refine WC.meetH (fun (gx : (List ((Fin 8 → Int) × Bool)) × Option Ow × Mem) => match gx with | ⟨mp1, mp1tk, Gm3⟩ => [(19, .slice yv1p yv1.length yv1c), (20, .int .i64 (yv1.length : Int)), (21, .int .i64 v21_1), (6, .map (some mb1))]) (fun (gx : (List ((Fin 8 → Int) × Bool)) × Option Ow × Mem) => match gx with | ⟨mp1, mp1tk, Gm3⟩ => Mem.le Gm2 Gm3 ∧ MapR ky48 (RvS Rp.bool Gm3) (.map (some mb1)) mp1 mp1tk ∧ (components_irreducible_k8 v21_1 mp1).wp (Out Aq1 Phi1)) (fun (gx : (List ((Fin 8 → Int) × Bool)) × Option Ow × Mem) => match gx with | ⟨mp1, mp1tk, Gm3⟩ => St w0 G0 Gm3 [(4025, mp1tk)]) ?_ ?_
        · refine WC.block ?_
          let Phi4 : (((List ((Fin 8 → Int) × Bool)))) → Prop := fun oo => ((fun ov => match ov with | mp1 => components_irreducible_k8 v21_1 mp1 : (((List ((Fin 8 → Int) × Bool)))) → Comp (((List (Fin 8 → Int)) × Int) ⊕ (((List (Fin 8 → Int)))))) oo).wp (Out Aq1 Phi1)
          replace hr : (Comp.loop _ _).wp Phi4 := hr
          refine WC.loopR (Φ := Phi4) (fun (gx : Int × (List ((Fin 8 → Int) × Bool)) × Option Ow × Mem) => match gx with | ⟨v28_1, mp2, mp2tk, Gm9⟩ => ((v28_1, mp2) : Int × (List ((Fin 8 → Int) × Bool)))) (fun (gx : Int × (List ((Fin 8 → Int) × Bool)) × Option Ow × Mem) => match gx with | ⟨v28_1, mp2, mp2tk, Gm9⟩ => [(5, .pointer (some ⟨b1, 0, none⟩)), (19, .slice yv1p yv1.length yv1c), (20, .int .i64 (yv1.length : Int)), (21, .int .i64 v21_1), (26, .slice v3_2p v3_2.length v3_2c), (27, .int .i64 (v3_2.length : Int)), (28, .int .i64 v28_1), (6, .map (some mb1))]) (fun (gx : Int × (List ((Fin 8 → Int) × Bool)) × Option Ow × Mem) => match gx with | ⟨v28_1, mp2, mp2tk, Gm9⟩ => Mem.le Gm2 Gm9 ∧ MapR ky48 (RvS Rp.bool Gm9) (.map (some mb1)) mp2 mp2tk) (fun (gx : Int × (List ((Fin 8 → Int) × Bool)) × Option Ow × Mem) => match gx with | ⟨v28_1, mp2, mp2tk, Gm9⟩ => St w0 G0 Gm9 [(5, some ⟨b1, .cells (vecG (Value.int .i64) 8 x1).toArray 48 (0, 0), 0⟩), (4003, v3_2tk), (4025, mp2tk)]) ⟨0, [], mb1tk, Gm2⟩ hr (Fr.sub_cons rfl (Fr.sub_cons rfl (Fr.sub_cons rfl (Fr.sub_cons rfl (Fr.sub_cons rfl (Fr.sub_cons rfl (Fr.sub_cons rfl (Fr.sub_cons rfl (Fr.sub_nil _))))))))) ⟨(Mem.le_refl _), mb1h⟩ ?_ ?_
          · intro w hs
            exact hs.weaken (Lo.sub_cons rfl (Lo.sub_cons rfl (Lo.sub_cons rfl (Lo.sub_nil _))))
          · intro Aq4 gx hx hr
            obtain ⟨v28_1, mp2, mp2tk, Gm9⟩ := gx
            obtain ⟨Gm9le, mp2h⟩ := hx
            refine WC.seq ?_
            refine WC.region ?_
            refine WL.y0' guard_none (Y0.lss rfl rfl) rfl ?_
            refine WL.nil ?_
            refine WE.then ?_
            refine WC.seq ?_
            refine WC.condD (p := v28_1 < (v3_2.length : Int)) rfl (fun hc5 => ?_) (fun hc5 => ?_)
            · replace hr := hr.pos hc5
              refine WC.skip ?_
              refine WE.then ?_
              refine WC.seq ?_
              refine WC.block ?_
              refine WC.seq ?_
              refine WC.region ?_
              obtain ⟨x4, hx4, hr⟩ := hr
              refine WL.y0' guard_none (Y0.idxRow Try.underlying28 sz48 (v3_2h.mono Gm9le) rfl rfl hx4) rfl ?_
              refine WL.y0' guard_none (Y0.loadTA _ ag48 (v3_2h.mono Gm9le) (key := 4003) rfl rfl (vecG_size _ _ _) (by decide) (AtK.vec (RowR.at v3_2h hx4))) rfl ?_
              refine WL.alloc 8 guard_none z48 rfl (fun b4 => ?_)
              refine WL.storeLA 8 guard_none sz48 rfl rfl rfl (vecG_size _ _ _) (vecG_size _ _ _) (fun u hu => Rp.one (Rp.vec .i64 8) (G := Gm9) (x := x4) (cs := vecG (Value.int .i64) 8 x4) rfl u (by simpa using hu)) ?_
              refine WL.nil ?_
              refine WE.then ?_
              refine WC.seq ?_
              refine WC.region ?_
              refine WL.y0' guard_none (Y0.loadLA 8 ag48 rfl rfl (vecG_size _ _ _)) rfl ?_
              refine WL.y0' guard_none (Y0.loadLA 5 ag48 rfl rfl (vecG_size _ _ _)) rfl ?_
              obtain ⟨yv4, hyv4, hr⟩ := hr
              refine WL.call guard_none rfl (YC.of E66 rfl) (L_components_split _ _ _ hyv4) rfl (trivial) (fun yv4v Gv9 Gv9le yv4post => ?_)
              obtain ⟨yv4p, yv4c, rfl, yv4h⟩ := yv4post
              refine WL.y0' guard_none (Y0.lenR Try.underlying28 yv4h rfl) rfl ?_
              refine WL.y0' guard_none (Y0.move rfl) rfl ?_
              refine WL.nil ?_
              refine WE.then ?_
              refine WC.meetH (fun (gx : (List ((Fin 8 → Int) × Bool)) × Option Ow × Mem) => match gx with | ⟨mp3, mp3tk, Gm10⟩ => [(5, .pointer (some ⟨b1, 0, none⟩)), (19, .slice yv1p yv1.length yv1c), (20, .int .i64 (yv1.length : Int)), (21, .int .i64 v21_1), (26, .slice v3_2p v3_2.length v3_2c), (27, .int .i64 (v3_2.length : Int)), (28, .int .i64 v28_1), (6, .map (some mb1))]) (fun (gx : (List ((Fin 8 → Int) × Bool)) × Option Ow × Mem) => match gx with | ⟨mp3, mp3tk, Gm10⟩ => Mem.le Gv9 Gm10 ∧ MapR ky48 (RvS Rp.bool Gm10) (.map (some mb1)) mp3 mp3tk ∧ (components_irreducible_k10 v28_1 mp3).wp (Out Aq4 Phi4)) (fun (gx : (List ((Fin 8 → Int) × Bool)) × Option Ow × Mem) => match gx with | ⟨mp3, mp3tk, Gm10⟩ => St w0 G0 Gm10 [(5, some ⟨b1, .cells (vecG (Value.int .i64) 8 x1).toArray 48 (0, 0), 0⟩), (4003, v3_2tk), (4025, mp3tk)]) ?_ ?_
              · refine WC.block ?_
                let Phi5 : (((List ((Fin 8 → Int) × Bool)))) → Prop := fun oo => ((fun ov => match ov with | mp3 => components_irreducible_k10 v28_1 mp3 : (((List ((Fin 8 → Int) × Bool)))) → Comp ((Int × (List ((Fin 8 → Int) × Bool))) ⊕ (((List ((Fin 8 → Int) × Bool)))))) oo).wp (Out Aq4 Phi4)
                replace hr : (Comp.loop _ _).wp Phi5 := hr
                refine WC.loopR (Φ := Phi5) (fun (gx : Int × (List ((Fin 8 → Int) × Bool)) × Option Ow × Mem) => match gx with | ⟨v36_1, mp4, mp4tk, Gm11⟩ => ((v36_1, mp4) : Int × (List ((Fin 8 → Int) × Bool)))) (fun (gx : Int × (List ((Fin 8 → Int) × Bool)) × Option Ow × Mem) => match gx with | ⟨v36_1, mp4, mp4tk, Gm11⟩ => [(5, .pointer (some ⟨b1, 0, none⟩)), (19, .slice yv1p yv1.length yv1c), (20, .int .i64 (yv1.length : Int)), (21, .int .i64 v21_1), (26, .slice v3_2p v3_2.length v3_2c), (27, .int .i64 (v3_2.length : Int)), (28, .int .i64 v28_1), (34, .slice yv4p yv4.length yv4c), (35, .int .i64 (yv4.length : Int)), (36, .int .i64 v36_1), (6, .map (some mb1))]) (fun (gx : Int × (List ((Fin 8 → Int) × Bool)) × Option Ow × Mem) => match gx with | ⟨v36_1, mp4, mp4tk, Gm11⟩ => Mem.le Gv9 Gm11 ∧ MapR ky48 (RvS Rp.bool Gm11) (.map (some mb1)) mp4 mp4tk) (fun (gx : Int × (List ((Fin 8 → Int) × Bool)) × Option Ow × Mem) => match gx with | ⟨v36_1, mp4, mp4tk, Gm11⟩ => St w0 G0 Gm11 [(5, some ⟨b1, .cells (vecG (Value.int .i64) 8 x1).toArray 48 (0, 0), 0⟩), (4003, v3_2tk), (4025, mp4tk)]) ⟨0, mp2, mp2tk, Gv9⟩ hr (Fr.sub_cons rfl (Fr.sub_cons rfl (Fr.sub_cons rfl (Fr.sub_cons rfl (Fr.sub_cons rfl (Fr.sub_cons rfl (Fr.sub_cons rfl (Fr.sub_cons rfl (Fr.sub_cons rfl (Fr.sub_cons rfl (Fr.sub_cons rfl (Fr.sub_nil _)))))))))))) ⟨(Mem.le_refl _), (MapR.mono mp2h Gv9le)⟩ ?_ ?_
                · intro w hs
                  exact hs.weaken (Lo.sub_cons rfl (Lo.sub_cons rfl (Lo.sub_cons rfl (Lo.sub_nil _))))
                · intro Aq5 gx hx hr
                  obtain ⟨v36_1, mp4, mp4tk, Gm11⟩ := gx
                  obtain ⟨Gm11le, mp4h⟩ := hx
                  refine WC.seq ?_
                  refine WC.region ?_
                  refine WL.y0' guard_none (Y0.lss rfl rfl) rfl ?_
                  refine WL.nil ?_
                  refine WE.then ?_
                  refine WC.seq ?_
                  refine WC.condD (p := v36_1 < (yv4.length : Int)) rfl (fun hc6 => ?_) (fun hc6 => ?_)
                  · replace hr := hr.pos hc6
                    refine WC.skip ?_
                    refine WE.then ?_
                    refine WC.seq ?_
                    refine WC.block ?_
                    refine WC.seq ?_
                    refine WC.region ?_
                    obtain ⟨x5, hx5, hr⟩ := hr
                    refine WL.y0' guard_none (Y0.idxR Try.underlying28 sz48 (yv4h.mono Gm11le) rfl rfl hx5) rfl ?_
                    refine WL.y0' guard_none (Y0.loadGA _ ag48 rfl (vecG_size _ _ _) (AtK.vec (At.mono (SlR.at yv4h hx5) Gm11le))) rfl ?_
                    refine WL.alloc 10 guard_none z48 rfl (fun b5 => ?_)
                    refine WL.storeLA 10 guard_none sz48 rfl rfl rfl (vecG_size _ _ _) (vecG_size _ _ _) (fun u hu => Rp.one (Rp.vec .i64 8) (G := Gm11) (x := x5) (cs := vecG (Value.int .i64) 8 x5) rfl u (by simpa using hu)) ?_
                    refine WL.nil ?_
                    refine WE.then ?_
                    refine WC.region ?_
                    refine WL.y0' guard_none (Y0.move rfl) rfl ?_
                    refine WL.y0' guard_none (Y0.loadLA 10 ag48 rfl rfl (vecG_size _ _ _)) rfl ?_
                    obtain ⟨⟨hk1, hk1s⟩, hr⟩ := hr
                    refine WL.mapPut (Rv' := RvS Rp.bool Gm11) (k := x5) (z := true) 4025 guard_none Try.underlying82 mp4h rfl rfl rfl rfl hk1 rfl (fun _ _ _ _ h => h) hk1s (fun tk3 tk3h => ?_)
                    refine WL.nil ?_
                    refine WE.inBlock ?_
                    refine WE.then ?_
                    refine WC.region ?_
                    refine WL.y0' guard_none (Y0.add rfl rfl) rfl ?_
                    refine WL.y0' guard_none (Y0.move rfl) rfl ?_
                    refine WL.nil ?_
                    refine WE.backR ⟨IntKind.i64.wrap (v36_1 + 1), (mput mp4 x5 true), tk3, Gm11⟩ hr ⟨Gm11le, tk3h⟩ (Fr.sub_cons rfl (Fr.sub_cons rfl (Fr.sub_cons rfl (Fr.sub_cons rfl (Fr.sub_cons rfl (Fr.sub_cons rfl (Fr.sub_cons rfl (Fr.sub_cons rfl (Fr.sub_cons rfl (Fr.sub_cons rfl (Fr.sub_cons rfl (Fr.sub_nil _)))))))))))) ?_
                    · intro w hs
                      exact hs.weaken (Lo.sub_cons rfl (Lo.sub_cons rfl (Lo.sub_cons rfl (Lo.sub_nil _))))
                  · replace hr := hr.neg hc6
                    refine WC.exit ?_
                    refine WE.thenExit ?_
                    refine WE.thenExit ?_
                    refine WE.exitHere ?_
                    refine WE.endH ⟨mp4, mp4tk, Gm11⟩ ⟨Gm11le, mp4h, hr⟩ (Fr.sub_cons rfl (Fr.sub_cons rfl (Fr.sub_cons rfl (Fr.sub_cons rfl (Fr.sub_cons rfl (Fr.sub_cons rfl (Fr.sub_cons rfl (Fr.sub_cons rfl (Fr.sub_nil _))))))))) ?_
                    · intro w hs
                      exact hs.weaken (Lo.sub_cons rfl (Lo.sub_cons rfl (Lo.sub_cons rfl (Lo.sub_nil _))))
              · rintro ⟨mp3, mp3tk, Gm10⟩ ⟨Gm10le, mp3h, hr⟩
                refine WE.inBlock ?_
                refine WE.then ?_
                refine WC.region ?_
                refine WL.y0' guard_none (Y0.add rfl rfl) rfl ?_
                refine WL.y0' guard_none (Y0.move rfl) rfl ?_
                refine WL.nil ?_
                refine WE.backR ⟨IntKind.i64.wrap (v28_1 + 1), mp3, mp3tk, Gm10⟩ hr ⟨(Mem.le_trans (Mem.le_trans Gm9le Gv9le) Gm10le), mp3h⟩ (Fr.sub_cons rfl (Fr.sub_cons rfl (Fr.sub_cons rfl (Fr.sub_cons rfl (Fr.sub_cons rfl (Fr.sub_cons rfl (Fr.sub_cons rfl (Fr.sub_cons rfl (Fr.sub_nil _))))))))) ?_
                · intro w hs
                  exact hs.weaken (Lo.sub_cons rfl (Lo.sub_cons rfl (Lo.sub_cons rfl (Lo.sub_nil _))))
            · replace hr := hr.neg hc5
              refine WC.exit ?_
              refine WE.thenExit ?_
              refine WE.thenExit ?_
              refine WE.exitHere ?_
              refine WE.endH ⟨mp2, mp2tk, Gm9⟩ ⟨Gm9le, mp2h, hr⟩ (Fr.sub_cons rfl (Fr.sub_cons rfl (Fr.sub_cons rfl (Fr.sub_cons rfl (Fr.sub_nil _))))) ?_
              · intro w hs
                exact hs.weaken (Lo.sub_cons rfl (Lo.sub_nil _))
        · rintro ⟨mp1, mp1tk, Gm3⟩ ⟨Gm3le, mp1h, hr⟩
          refine WE.then ?_
          refine WC.seq ?_
          refine WC.region ?_
          refine WL.y0' guard_none (Y0.move rfl) rfl ?_
          refine WL.call guard_none rfl (YC.of E68 rfl) (keysBox Try.func68 rfl rfl rfl (some mb1)) rfl trivial (fun kf1v Gv4 Gv4le kf1post => ?_)
          obtain ⟨kf1, rfl, kf1h⟩ := kf1post
          refine WL.callT guard_none rfl (YC.of E67 rfl) (collect67 _ _ _ _ _ 4025 (by decide) (MapR.mono mp1h Gv4le)) rfl kf1h (Lo.sub_cons rfl (Lo.sub_nil _)) hz (fun ks1v Gv5 Lks1 Gv5le ks1post => ?_)
          obtain ⟨ks1, ks1p, ks1c, ks1tk, rfl, rfl, ks1h, ks1perm⟩ := ks1post
          replace hr := hr ks1 ks1perm
          refine WL.conseq (fun w hs => hs.rekey (i := 7000) (j := 4046) rfl (by rw [hL0]; rfl)) ?_
          refine WL.freezeT (r := (Rp.vec .i64 8)) (e := 48) 4046 ks1h rfl (by rw [hL0]; rfl) (fun tk2 Gv6 Gv6le tk2h tk2ht => ?_)
          refine WL.y0' guard_none (Y0.assign rfl) rfl ?_
          refine WL.nil ?_
          refine WE.then ?_
          refine WC.seq ?_
          refine WC.region ?_
          refine WL.y0' guard_none (Y0.assign rfl) rfl ?_
          refine WL.nil ?_
          refine WE.then ?_
          refine WC.seq ?_
          refine WC.label ?_
          refine WE.then ?_
          refine WC.seq ?_
          refine WC.region ?_
          refine WL.y0' guard_none (Y0.move rfl) rfl ?_
          refine WL.y0' guard_none (Y0.lenR Try.underlying28 tk2h rfl) rfl ?_
          refine WL.y0' guard_none (Y0.move rfl) rfl ?_
          refine WL.nil ?_
          refine WE.then ?_
          refine WC.meetH (fun (gx : (List (Fin 8 → Int)) × Option Addr × Nat × Option Ow × Mem) => match gx with | ⟨v3_3, v3_3p, v3_3c, v3_3tk, Gm4⟩ => [(3, .slice v3_3p v3_3.length v3_3c), (19, .slice yv1p yv1.length yv1c), (20, .int .i64 (yv1.length : Int)), (21, .int .i64 v21_1)]) (fun (gx : (List (Fin 8 → Int)) × Option Addr × Nat × Option Ow × Mem) => match gx with | ⟨v3_3, v3_3p, v3_3c, v3_3tk, Gm4⟩ => Mem.le Gv6 Gm4 ∧ RowR (Rp.vec .i64 8) 48 Gm4 (.slice v3_3p v3_3.length v3_3c) v3_3 v3_3tk ∧ (components_irreducible_k3 v21_1 v3_3).wp (Out Aq1 Phi1)) (fun (gx : (List (Fin 8 → Int)) × Option Addr × Nat × Option Ow × Mem) => match gx with | ⟨v3_3, v3_3p, v3_3c, v3_3tk, Gm4⟩ => St w0 G0 Gm4 [(4003, v3_3tk)]) ?_ ?_
          · refine WC.block ?_
            let Phi2 : (((List (Fin 8 → Int)))) → Prop := fun oo => ((fun ov => match ov with | v3_3 => components_irreducible_k3 v21_1 v3_3 : (((List (Fin 8 → Int)))) → Comp (((List (Fin 8 → Int)) × Int) ⊕ (((List (Fin 8 → Int)))))) oo).wp (Out Aq1 Phi1)
            replace hr : (Comp.loop _ _).wp Phi2 := hr
            refine WC.loopR (Φ := Phi2) (fun (gx : (List (Fin 8 → Int)) × Option Addr × Nat × Option Ow × Int × Mem) => match gx with | ⟨v3_4, v3_4p, v3_4c, v3_4tk, v49_1, Gm5⟩ => ((v3_4, v49_1) : (List (Fin 8 → Int)) × Int)) (fun (gx : (List (Fin 8 → Int)) × Option Addr × Nat × Option Ow × Int × Mem) => match gx with | ⟨v3_4, v3_4p, v3_4c, v3_4tk, v49_1, Gm5⟩ => [(3, .slice v3_4p v3_4.length v3_4c), (11, .slice ks1p ks1.length ks1c), (19, .slice yv1p yv1.length yv1c), (20, .int .i64 (yv1.length : Int)), (21, .int .i64 v21_1), (47, .slice ks1p ks1.length ks1c), (48, .int .i64 (ks1.length : Int)), (49, .int .i64 v49_1)]) (fun (gx : (List (Fin 8 → Int)) × Option Addr × Nat × Option Ow × Int × Mem) => match gx with | ⟨v3_4, v3_4p, v3_4c, v3_4tk, v49_1, Gm5⟩ => Mem.le Gv6 Gm5 ∧ RowR (Rp.vec .i64 8) 48 Gm5 (.slice v3_4p v3_4.length v3_4c) v3_4 v3_4tk) (fun (gx : (List (Fin 8 → Int)) × Option Addr × Nat × Option Ow × Int × Mem) => match gx with | ⟨v3_4, v3_4p, v3_4c, v3_4tk, v49_1, Gm5⟩ => St w0 G0 Gm5 [(4046, tk2), (4003, v3_4tk)]) ⟨[], none, 0, none, 0, Gv6⟩ hr (Fr.sub_cons rfl (Fr.sub_cons rfl (Fr.sub_cons rfl (Fr.sub_cons rfl (Fr.sub_cons rfl (Fr.sub_cons rfl (Fr.sub_cons rfl (Fr.sub_cons rfl (Fr.sub_nil _))))))))) ⟨(Mem.le_refl _), RowR.nil⟩ ?_ ?_
            · intro w hs
              exact hs.weaken (Lo.sub_cons rfl (Lo.sub_no (Lo.sub_nil _)))
            · intro Aq2 gx hx hr
              obtain ⟨v3_4, v3_4p, v3_4c, v3_4tk, v49_1, Gm5⟩ := gx
              obtain ⟨Gm5le, v3_4h⟩ := hx
              refine WC.seq ?_
              refine WC.region ?_
              refine WL.y0' guard_none (Y0.lss rfl rfl) rfl ?_
              refine WL.nil ?_
              refine WE.then ?_
              refine WC.seq ?_
              refine WC.condD (p := v49_1 < (ks1.length : Int)) rfl (fun hc2 => ?_) (fun hc2 => ?_)
              · replace hr := hr.pos hc2
                refine WC.skip ?_
                refine WE.then ?_
                refine WC.seq ?_
                refine WC.meetH (fun (gx : (List (Fin 8 → Int)) × Option Addr × Nat × Option Ow × Mem) => match gx with | ⟨v3_5, v3_5p, v3_5c, v3_5tk, Gm6⟩ => [(3, .slice v3_5p v3_5.length v3_5c), (11, .slice ks1p ks1.length ks1c), (19, .slice yv1p yv1.length yv1c), (20, .int .i64 (yv1.length : Int)), (21, .int .i64 v21_1), (47, .slice ks1p ks1.length ks1c), (48, .int .i64 (ks1.length : Int)), (49, .int .i64 v49_1)]) (fun (gx : (List (Fin 8 → Int)) × Option Addr × Nat × Option Ow × Mem) => match gx with | ⟨v3_5, v3_5p, v3_5c, v3_5tk, Gm6⟩ => Mem.le Gm5 Gm6 ∧ RowR (Rp.vec .i64 8) 48 Gm6 (.slice v3_5p v3_5.length v3_5c) v3_5 v3_5tk ∧ (components_irreducible_k5 v49_1 v3_5).wp (Out Aq2 Phi2)) (fun (gx : (List (Fin 8 → Int)) × Option Addr × Nat × Option Ow × Mem) => match gx with | ⟨v3_5, v3_5p, v3_5c, v3_5tk, Gm6⟩ => St w0 G0 Gm6 [(4046, tk2), (4003, v3_5tk)]) ?_ ?_
                · refine WC.block ?_
                  refine WC.seq ?_
                  refine WC.region ?_
                  obtain ⟨x2, hx2, hr⟩ := hr
                  refine WL.y0' guard_none (Y0.idxR Try.underlying28 sz48 (tk2h.mono Gm5le) rfl rfl hx2) rfl ?_
                  refine WL.y0' guard_none (Y0.loadGA _ ag48 rfl (vecG_size _ _ _) (AtK.vec (At.mono (SlR.at tk2h hx2) Gm5le))) rfl ?_
                  refine WL.alloc 13 guard_none z48 rfl (fun b2 => ?_)
                  refine WL.storeLA 13 guard_none sz48 rfl rfl rfl (vecG_size _ _ _) (vecG_size _ _ _) (fun u hu => Rp.one (Rp.vec .i64 8) (G := Gm5) (x := x2) (cs := vecG (Value.int .i64) 8 x2) rfl u (by simpa using hu)) ?_
                  refine WL.nil ?_
                  refine WE.then ?_
                  refine WC.seq ?_
                  refine WC.seq ?_
                  refine WC.region ?_
                  refine WL.y0' guard_none (Y0.move rfl) rfl ?_
                  refine WL.y0' guard_none (Y0.lenR Try.underlying28 (tk2h.mono Gm5le) rfl) rfl ?_
                  refine WL.y0' guard_none (Y0.move rfl) rfl ?_
                  refine WL.nil ?_
                  refine WE.then ?_
                  refine WC.meetH (fun (gx : Mem) => match gx with | Gm7 => [(3, .slice v3_4p v3_4.length v3_4c), (11, .slice ks1p ks1.length ks1c), (13, .pointer (some ⟨b2, 0, none⟩)), (19, .slice yv1p yv1.length yv1c), (20, .int .i64 (yv1.length : Int)), (21, .int .i64 v21_1), (47, .slice ks1p ks1.length ks1c), (48, .int .i64 (ks1.length : Int)), (49, .int .i64 v49_1)]) (fun (gx : Mem) => match gx with | Gm7 => Mem.le Gm5 Gm7 ∧ (components_irreducible_k6 v3_4 v49_1 x2).wp (Out Aq2 Phi2)) (fun (gx : Mem) => match gx with | Gm7 => St w0 G0 Gm7 [(13, some ⟨b2, .cells (vecG (Value.int .i64) 8 x2).toArray 48 (0, 0), 0⟩), (4046, tk2), (4003, v3_4tk)]) ?_ ?_
                  · refine WC.block ?_
                    let Phi3 : (((List (Fin 8 → Int))) ⊕ Unit) → Prop := fun oo => ((fun ov => match ov with | .inl v3_5 => components_irreducible_k5 v49_1 v3_5 | .inr () => components_irreducible_k6 v3_4 v49_1 x2 : (((List (Fin 8 → Int))) ⊕ Unit) → Comp (((List (Fin 8 → Int)) × Int) ⊕ (((List (Fin 8 → Int)))))) oo).wp (Out Aq2 Phi2)
                    replace hr : (Comp.loop _ _).wp Phi3 := hr
                    refine WC.loopR (Φ := Phi3) (fun (gx : Int × Mem) => match gx with | ⟨v55_1, Gm8⟩ => (v55_1 : Int)) (fun (gx : Int × Mem) => match gx with | ⟨v55_1, Gm8⟩ => [(3, .slice v3_4p v3_4.length v3_4c), (11, .slice ks1p ks1.length ks1c), (13, .pointer (some ⟨b2, 0, none⟩)), (19, .slice yv1p yv1.length yv1c), (20, .int .i64 (yv1.length : Int)), (21, .int .i64 v21_1), (47, .slice ks1p ks1.length ks1c), (48, .int .i64 (ks1.length : Int)), (49, .int .i64 v49_1), (53, .slice ks1p ks1.length ks1c), (54, .int .i64 (ks1.length : Int)), (55, .int .i64 v55_1)]) (fun (gx : Int × Mem) => match gx with | ⟨v55_1, Gm8⟩ => Mem.le Gm5 Gm8) (fun (gx : Int × Mem) => match gx with | ⟨v55_1, Gm8⟩ => St w0 G0 Gm8 [(13, some ⟨b2, .cells (vecG (Value.int .i64) 8 x2).toArray 48 (0, 0), 0⟩), (4046, tk2), (4003, v3_4tk)]) ⟨0, Gm5⟩ hr (Fr.sub_cons rfl (Fr.sub_cons rfl (Fr.sub_cons rfl (Fr.sub_cons rfl (Fr.sub_cons rfl (Fr.sub_cons rfl (Fr.sub_cons rfl (Fr.sub_cons rfl (Fr.sub_cons rfl (Fr.sub_cons rfl (Fr.sub_cons rfl (Fr.sub_cons rfl (Fr.sub_nil _))))))))))))) (Mem.le_refl _) ?_ ?_
                    · intro w hs
                      exact hs.weaken (Lo.sub_cons rfl (Lo.sub_cons rfl (Lo.sub_cons rfl (Lo.sub_nil _))))
                    · intro Aq3 gx hx hr
                      obtain ⟨v55_1, Gm8⟩ := gx
                      have Gm8le := hx
                      refine WC.seq ?_
                      refine WC.region ?_
                      refine WL.y0' guard_none (Y0.lss rfl rfl) rfl ?_
                      refine WL.nil ?_
                      refine WE.then ?_
                      refine WC.seq ?_
                      refine WC.condD (p := v55_1 < (ks1.length : Int)) rfl (fun hc3 => ?_) (fun hc3 => ?_)
                      · replace hr := hr.pos hc3
                        refine WC.skip ?_
                        refine WE.then ?_
                        refine WC.seq ?_
                        refine WC.block ?_
                        refine WC.seq ?_
                        refine WC.region ?_
                        obtain ⟨x3, hx3, hr⟩ := hr
                        refine WL.y0' guard_none (Y0.idxR Try.underlying28 sz48 (tk2h.mono (Mem.le_trans Gm5le Gm8le)) rfl rfl hx3) rfl ?_
                        refine WL.y0' guard_none (Y0.loadGA _ ag48 rfl (vecG_size _ _ _) (AtK.vec (At.mono (SlR.at tk2h hx3) (Mem.le_trans Gm5le Gm8le)))) rfl ?_
                        refine WL.alloc 15 guard_none z48 rfl (fun b3 => ?_)
                        refine WL.storeLA 15 guard_none sz48 rfl rfl rfl (vecG_size _ _ _) (vecG_size _ _ _) (fun u hu => Rp.one (Rp.vec .i64 8) (G := Gm8) (x := x3) (cs := vecG (Value.int .i64) 8 x3) rfl u (by simpa using hu)) ?_
                        refine WL.nil ?_
                        refine WE.then ?_
                        refine WC.seq ?_
                        refine WC.region ?_
                        refine WL.y0' guard_none (Y0.loadLA 13 ag48 rfl rfl (vecG_size _ _ _)) rfl ?_
                        refine WL.y0' guard_none (Y0.loadLA 15 ag48 rfl rfl (vecG_size _ _ _)) rfl ?_
                        refine WL.caseY0 (p := ¬ x2 = x3) guard_none (Y0.neqV Try.underlying48 Try.underlying3 sc3 sz3 eg48 rfl rfl) rfl (fun hb1 => ?_) (fun hb1 => ?_)
                        · replace hr := hr.pos hb1
                          refine WL.y0' guard_none (Y0.move rfl) rfl ?_
                          refine WL.y0' (guard_yes rfl rfl) (Y0.loadLA 13 ag48 rfl rfl (vecG_size _ _ _)) rfl ?_
                          refine WL.y0' (guard_yes rfl rfl) (Y0.loadLA 15 ag48 rfl rfl (vecG_size _ _ _)) rfl ?_
                          obtain ⟨yv3, hyv3, hr⟩ := hr
                          refine WL.call0 (guard_yes rfl rfl) rfl (YC.of E69 rfl) (L_components_contains _ _ _ hyv3) rfl (trivial) ?_
                          refine WL.y0' guard_none (Y0.pickT rfl rfl) rfl ?_
                          refine WL.nil ?_
                          refine WE.then ?_
                          refine WC.cond (b := yv3) rfl (fun hc4 => ?_) (fun hc4 => ?_)
                          · replace hr := hr.pos hc4
                            refine WC.exit ?_
                            refine WE.exitOut rfl ?_
                            refine WE.thenExit ?_
                            refine WE.thenExit ?_
                            refine WE.exitOut rfl ?_
                            refine WE.endExit ?_
                            refine WE.thenExit ?_
                            refine WE.exitHere ?_
                            refine WE.endH ⟨v3_4, v3_4p, v3_4c, v3_4tk, Gm8⟩ ⟨Gm8le, (v3_4h.mono Gm8le), hr⟩ (Fr.sub_cons rfl (Fr.sub_cons rfl (Fr.sub_cons rfl (Fr.sub_cons rfl (Fr.sub_cons rfl (Fr.sub_cons rfl (Fr.sub_cons rfl (Fr.sub_cons rfl (Fr.sub_nil _))))))))) ?_
                            · intro w hs
                              exact hs.weaken (Lo.sub_cons rfl (Lo.sub_cons rfl (Lo.sub_nil _)))
                          · replace hr := hr.neg (Bool.eq_false_iff.1 hc4)
                            refine WC.skip ?_
                            refine WE.inBlock ?_
                            refine WE.then ?_
                            refine WC.region ?_
                            refine WL.y0' guard_none (Y0.add rfl rfl) rfl ?_
                            refine WL.y0' guard_none (Y0.move rfl) rfl ?_
                            refine WL.nil ?_
                            refine WE.backR ⟨IntKind.i64.wrap (v55_1 + 1), Gm8⟩ hr Gm8le (Fr.sub_cons rfl (Fr.sub_cons rfl (Fr.sub_cons rfl (Fr.sub_cons rfl (Fr.sub_cons rfl (Fr.sub_cons rfl (Fr.sub_cons rfl (Fr.sub_cons rfl (Fr.sub_cons rfl (Fr.sub_cons rfl (Fr.sub_cons rfl (Fr.sub_cons rfl (Fr.sub_nil _))))))))))))) ?_
                            · intro w hs
                              exact hs.weaken (Lo.sub_cons rfl (Lo.sub_cons rfl (Lo.sub_cons rfl (Lo.sub_nil _))))
                        · replace hr := hr.neg hb1
                          refine WL.y0' guard_none (Y0.move rfl) rfl ?_
                          refine WL.skip (guard_noT rfl rfl) rfl ?_
                          refine WL.skip (guard_noT rfl rfl) rfl ?_
                          refine WL.skip (guard_noT rfl rfl) rfl ?_
                          refine WL.y0' guard_none (Y0.pickF rfl rfl) rfl ?_
                          refine WL.nil ?_
                          refine WE.then ?_
                          refine WC.condF rfl ?_
                          refine WC.skip ?_
                          refine WE.inBlock ?_
                          refine WE.then ?_
                          refine WC.region ?_
                          refine WL.y0' guard_none (Y0.add rfl rfl) rfl ?_
                          refine WL.y0' guard_none (Y0.move rfl) rfl ?_
                          refine WL.nil ?_
                          refine WE.backR ⟨IntKind.i64.wrap (v55_1 + 1), Gm8⟩ hr Gm8le (Fr.sub_cons rfl (Fr.sub_cons rfl (Fr.sub_cons rfl (Fr.sub_cons rfl (Fr.sub_cons rfl (Fr.sub_cons rfl (Fr.sub_cons rfl (Fr.sub_cons rfl (Fr.sub_cons rfl (Fr.sub_cons rfl (Fr.sub_cons rfl (Fr.sub_cons rfl (Fr.sub_nil _))))))))))))) ?_
                          · intro w hs
                            exact hs.weaken (Lo.sub_cons rfl (Lo.sub_cons rfl (Lo.sub_cons rfl (Lo.sub_nil _))))
                      · replace hr := hr.neg hc3
                        refine WC.exit ?_
                        refine WE.thenExit ?_
                        refine WE.thenExit ?_
                        refine WE.exitHere ?_
                        refine WE.endH Gm8 ⟨Gm8le, hr⟩ (Fr.sub_cons rfl (Fr.sub_cons rfl (Fr.sub_cons rfl (Fr.sub_cons rfl (Fr.sub_cons rfl (Fr.sub_cons rfl (Fr.sub_cons rfl (Fr.sub_cons rfl (Fr.sub_cons rfl (Fr.sub_nil _)))))))))) ?_
                        · intro w hs
                          exact hs.weaken (Lo.sub_cons rfl (Lo.sub_cons rfl (Lo.sub_cons rfl (Lo.sub_nil _))))
                  · rintro Gm7 ⟨Gm7le, hr⟩
                    refine WE.then ?_
                    refine WC.region ?_
                    refine WL.y0' guard_none (Y0.move rfl) rfl ?_
                    refine WL.y0' guard_none (Y0.loadLA 13 ag48 rfl rfl (vecG_size _ _ _)) rfl ?_
                    refine WL.litR (e := 48) (r := (Rp.vec .i64 8)) (vs := #[(0, .agg (vecG (Value.int .i64) 8 x2).toArray)]) (cs := (vecG (Value.int .i64) 8 x2) ++ ([])) ([x2] : List (Fin 8 → Int)) guard_none rfl rfl rfl rfl (by decide) (fun _ => by kernel_rfl) ⟨vecG (Value.int .i64) 8 x2, [], rfl, rfl, rfl⟩ (key := 999) rfl (by rw [hL0]; rfl) (fun p2 Gv7 Gv7le p2h => ?_)
                    obtain ⟨hsm1, hr⟩ := hr
                    refine WL.appendT (r := (Rp.vec .i64 8)) (e := 48) 4003 guard_none rfl Try.underlying28 el48 rfl (by decide) rfl rfl (v3_4h.mono (Mem.le_trans Gm7le Gv7le)) rfl p2h hsm1 (fun p3 p3c p3tk p3h => ?_)
                    refine WL.y0' guard_none (Y0.assign rfl) rfl ?_
                    refine WL.nil ?_
                    refine WE.inBlock ?_
                    refine WE.endH ⟨(v3_4 ++ [x2]), p3, p3c, p3tk, Gv7⟩ ⟨(Mem.le_trans Gm7le Gv7le), p3h, hr⟩ (Fr.sub_cons rfl (Fr.sub_cons rfl (Fr.sub_cons rfl (Fr.sub_cons rfl (Fr.sub_cons rfl (Fr.sub_cons rfl (Fr.sub_cons rfl (Fr.sub_cons rfl (Fr.sub_nil _))))))))) ?_
                    · intro w hs
                      exact hs.weaken (Lo.sub_cons rfl (Lo.sub_cons rfl (Lo.sub_nil _)))
                · rintro ⟨v3_5, v3_5p, v3_5c, v3_5tk, Gm6⟩ ⟨Gm6le, v3_5h, hr⟩
                  refine WE.then ?_
                  refine WC.region ?_
                  refine WL.y0' guard_none (Y0.add rfl rfl) rfl ?_
                  refine WL.y0' guard_none (Y0.move rfl) rfl ?_
                  refine WL.nil ?_
                  refine WE.backR ⟨v3_5, v3_5p, v3_5c, v3_5tk, IntKind.i64.wrap (v49_1 + 1), Gm6⟩ hr ⟨(Mem.le_trans Gm5le Gm6le), v3_5h⟩ (Fr.sub_cons rfl (Fr.sub_cons rfl (Fr.sub_cons rfl (Fr.sub_cons rfl (Fr.sub_cons rfl (Fr.sub_cons rfl (Fr.sub_cons rfl (Fr.sub_cons rfl (Fr.sub_nil _))))))))) ?_
                  · intro w hs
                    exact hs.weaken (Lo.sub_cons rfl (Lo.sub_cons rfl (Lo.sub_nil _)))
              · replace hr := hr.neg hc2
                refine WC.exit ?_
                refine WE.thenExit ?_
                refine WE.thenExit ?_
                refine WE.exitHere ?_
                refine WE.endH ⟨v3_4, v3_4p, v3_4c, v3_4tk, Gm5⟩ ⟨Gm5le, v3_4h, hr⟩ (Fr.sub_cons rfl (Fr.sub_cons rfl (Fr.sub_cons rfl (Fr.sub_cons rfl (Fr.sub_nil _))))) ?_
                · intro w hs
                  exact hs.weaken (Lo.sub_cons rfl (Lo.sub_nil _))
          · rintro ⟨v3_3, v3_3p, v3_3c, v3_3tk, Gm4⟩ ⟨Gm4le, v3_3h, hr⟩
            refine WE.scopeN ?_
            refine WE.inBlock ?_
            refine WE.then ?_
            refine WC.region ?_
            refine WL.y0' guard_none (Y0.add rfl rfl) rfl ?_
            refine WL.y0' guard_none (Y0.move rfl) rfl ?_
            refine WL.nil ?_
            refine WE.backR ⟨v3_3, v3_3p, v3_3c, v3_3tk, IntKind.i64.wrap (v21_1 + 1), Gm4⟩ hr ⟨(Mem.le_trans (Mem.le_trans (Mem.le_trans (Mem.le_trans (Mem.le_trans Gm2le Gm3le) Gv4le) Gv5le) Gv6le) Gm4le), v3_3h⟩ (Fr.sub_cons rfl (Fr.sub_cons rfl (Fr.sub_cons rfl (Fr.sub_cons rfl (Fr.sub_nil _))))) ?_
            · intro w hs
              exact hs.weaken (Lo.sub_cons rfl (Lo.sub_nil _))
      · replace hr := hr.neg hc1
        refine WC.exit ?_
        refine WE.thenExit ?_
        refine WE.thenExit ?_
        refine WE.exitHere ?_
        refine WE.endH ⟨v3_2, v3_2p, v3_2c, v3_2tk, Gm2⟩ ⟨Gm2le, v3_2h, hr⟩ (Fr.sub_cons rfl (Fr.sub_nil _)) ?_
        · intro w hs
          exact hs.weaken (Lo.sub_cons rfl (Lo.sub_nil _))
  · rintro ⟨v3_1, v3_1p, v3_1c, v3_1tk, Gm1⟩ ⟨Gm1le, v3_1h, hr⟩
    refine WE.then ?_
    refine WC.seq ?_
    refine WC.region ?_
    refine WL.y0' guard_none (Y0.move rfl) rfl ?_
    obtain ⟨yv2, hyv2, hr⟩ := hr
    refine WL.conseq (fun w hs => hs.rekey (i := 4003) (j := 5000) rfl (by rw [hL0]; rfl)) ?_
    refine WL.callT guard_none rfl (YC.of E70 rfl) (H_sort2 _ _ _ _ _ _ hyv2) rfl (v3_1h) (Lo.sub_cons rfl (Lo.sub_nil _)) hz (fun yv2v Gv2 Lyv2 Gv2le yv2post => ?_)
    obtain ⟨yv2tk0, rfl, rfl, yv2rh0⟩ := yv2post
    refine WL.conseq (fun w hs => hs.rekey (i := 5000) (j := 4003) rfl (by rw [hL0]; rfl)) ?_
    refine WL.nil ?_
    refine WE.then ?_
    refine WC.seq ?_
    refine WC.region ?_
    refine WL.y0' guard_none (Y0.move rfl) rfl ?_
    refine WL.y0' guard_none (Y0.assign rfl) rfl ?_
    refine WL.nil ?_
    refine WE.then ?_
    refine WC.ret ?_
    replace hr : _ = r := hr
    subst hr
    refine WE.freezeT (r := (Rp.vec .i64 8)) (e := 48) 4003 yv2rh0 rfl (by rw [hL0]; rfl) (fun tk1 Gv3 Gv3le tk1h tk1ht => ?_)
    exact WE.ret1 rfl rfl ⟨_, _, (SlR.eqv tk1h), (SlR.std tk1h)⟩
theorem L_components_Irreducible (l1 : (List (Fin 8 → Int))) (n1 : Int) (l1p : Option Addr) (l1c : Nat) (r : (List (Fin 8 → Int)) × Int) (hr : (components_Irreducible l1 n1).Ret r) : Ctr Try.prog 14 #[.slice l1p l1.length l1c, .int .i64 n1] (fun G => SlR (Rp.vec .i64 8) G (.slice l1p l1.length l1c) l1) (fun G v => ∃ zr0p zr0c, v = .tuple #[.slice zr0p r.1.length zr0c, .int .i64 r.2] ∧ SlR (Rp.vec .i64 8) G (.slice zr0p r.1.length zr0c) r.1) := by
  refine Ctr.enter (args := [_, _]) (N := 15) Try.func14 rfl rfl rfl (fun w0 G0 hL0 hpre => ?_)
  have l1h := hpre
  refine WC.seq ?_
  refine WC.region ?_
  refine WL.y0' guard_none (Y0.assign rfl) rfl ?_
  refine WL.y0' guard_none (Y0.assign rfl) rfl ?_
  refine WL.nil ?_
  refine WE.then ?_
  refine WC.seq ?_
  refine WC.seq ?_
  refine WC.region ?_
  refine WL.y0' guard_none (Y0.move rfl) rfl ?_
  refine WL.y0' guard_none (Y0.move rfl) rfl ?_
  obtain ⟨yv1, hyv1, hr⟩ := hr
  refine WL.call0 guard_none rfl (YC.of E42 rfl) (L_components_check _ _ _ _ _ hyv1) rfl (l1h) ?_
  refine WL.y0' guard_none (Y0.assign rfl) rfl ?_
  refine WL.nil ?_
  refine WE.then ?_
  refine WC.seq ?_
  refine WC.region ?_
  refine WL.y0' guard_none (Y0.move rfl) rfl ?_
  refine WL.y0' guard_none (Y0.neq rfl rfl) rfl ?_
  refine WL.nil ?_
  refine WE.then ?_
  refine WC.condD (p := ¬ yv1 = 0) rfl (fun hc1 => ?_) (fun hc1 => ?_)
  · replace hr := hr.pos hc1
    refine WC.seq ?_
    refine WC.region ?_
    refine WL.y0' guard_none (Y0.move rfl) rfl ?_
    refine WL.y0' guard_none (Y0.assign rfl) rfl ?_
    refine WL.y0' guard_none (Y0.assign rfl) rfl ?_
    refine WL.nil ?_
    refine WE.then ?_
    refine WC.ret ?_
    replace hr : _ = r := hr
    refine WE.thenRet ?_
    subst hr
    exact WE.ret2 rfl rfl rfl ⟨_, _, rfl, (SlR.nil (Rp.vec .i64 8) _)⟩
  · replace hr := hr.neg hc1
    refine WC.skip ?_
    refine WE.then ?_
    refine WC.seq ?_
    refine WC.region ?_
    refine WL.y0' guard_none (Y0.move rfl) rfl ?_
    obtain ⟨yv2, hyv2, hr⟩ := hr
    refine WL.call guard_none rfl (YC.of E43 rfl) (L_components_irreducible _ _ _ _ hyv2) rfl (l1h) (fun yv2v Gv2 Gv2le yv2post => ?_)
    obtain ⟨yv2p, yv2c, rfl, yv2h⟩ := yv2post
    refine WL.y0' guard_none (Y0.assign rfl) rfl ?_
    refine WL.y0' guard_none (Y0.assign rfl) rfl ?_
    refine WL.nil ?_
    refine WE.then ?_
    refine WC.ret ?_
    replace hr : _ = r := hr
    subst hr
    exact WE.ret2 rfl rfl rfl ⟨_, _, rfl, yv2h⟩
theorem L_components_parts (l1 : (List (Fin 8 → Int))) (l1p : Option Addr) (l1c : Nat) (r : (List (Int × (List (List (Fin 8 → Int)))))) (hr : (components_parts l1).Ret r) : CtrL Try.prog 49 #[.slice l1p l1.length l1c] [] (fun G => SlR (Rp.vec .i64 8) G (.slice l1p l1.length l1c) l1) (fun G L v => ∃ zb ztk, L = [(7000, ztk)] ∧ v = .map (some zb) ∧ MapR ky5 (RvS (Rp.sl (Rp.sl (Rp.vec .i64 8))) G) (.map (some zb)) r ztk) := by
  refine CtrL.enter (args := [_]) (N := 46) Try.func49 rfl rfl rfl (fun w0 G0 hL0 hpre => ?_)
  have l1h := hpre
  refine WC.seq ?_
  refine WC.region ?_
  refine WL.y0' guard_none (Y0.assign rfl) rfl ?_
  refine WL.nil ?_
  refine WE.then ?_
  refine WC.seq ?_
  refine WC.region ?_
  refine WL.makeMapT (ky := ky5) (r := (Rp.sl (Rp.vec .i64 8))) (e := 28) 4011 guard_none rfl (fun mb1 mb1tk mb1h => ?_)
  refine WL.y0' guard_none (Y0.assign rfl) rfl ?_
  refine WL.nil ?_
  refine WE.then ?_
  refine WC.seq ?_
  refine WC.seq ?_
  refine WC.region ?_
  refine WL.y0' guard_none (Y0.move rfl) rfl ?_
  obtain ⟨yv1, hyv1, hr⟩ := hr
  refine WL.call guard_none rfl (YC.of E43 rfl) (L_components_irreducible _ _ _ _ hyv1) rfl (l1h) (fun yv1v Gv1 Gv1le yv1post => ?_)
  obtain ⟨yv1p, yv1c, rfl, yv1h⟩ := yv1post
  refine WL.y0' guard_none (Y0.lenR Try.underlying28 yv1h rfl) rfl ?_
  refine WL.y0' guard_none (Y0.move rfl) rfl ?_
  refine WL.nil ?_
  refine WE.then ?_
  refine WC.meetH (fun (gx : (List (Int × (List (List (Fin 8 → Int))))) × Option Ow × Lo × Mem) => match gx with | ⟨mp1, mp1tk, mp1T, Gm1⟩ => [(3, .map (some mb1))]) (fun (gx : (List (Int × (List (List (Fin 8 → Int))))) × Option Ow × Lo × Mem) => match gx with | ⟨mp1, mp1tk, mp1T, Gm1⟩ => Mem.le Gv1 Gm1 ∧ MapR ky5 (RvT (Rp.sl (Rp.vec .i64 8)) 28 mp1T Gm1) (.map (some mb1)) mp1 mp1tk ∧ TokM mp1T mp1 ∧ (components_parts_k1 mp1).Ret r) (fun (gx : (List (Int × (List (List (Fin 8 → Int))))) × Option Ow × Lo × Mem) => match gx with | ⟨mp1, mp1tk, mp1T, Gm1⟩ => St w0 G0 Gm1 ((4011, mp1tk) :: mp1T)) ?_ ?_
  · refine WC.block ?_
    let Phi1 : (((List (Int × (List (List (Fin 8 → Int))))))) → Prop := fun oo => ((fun ov => match ov with | mp1 => components_parts_k1 mp1 : (((List (Int × (List (List (Fin 8 → Int))))))) → Comp ((List (Int × (List (List (Fin 8 → Int))))))) oo).wp (fun a => a = r)
    replace hr : (Comp.loop _ _).wp Phi1 := hr
    refine WC.loopR (Φ := Phi1) (fun (gx : Int × (List (Int × (List (List (Fin 8 → Int))))) × Option Ow × Lo × Mem) => match gx with | ⟨v15_1, mp2, mp2tk, mp2T, Gm2⟩ => ((v15_1, mp2) : Int × (List (Int × (List (List (Fin 8 → Int))))))) (fun (gx : Int × (List (Int × (List (List (Fin 8 → Int))))) × Option Ow × Lo × Mem) => match gx with | ⟨v15_1, mp2, mp2tk, mp2T, Gm2⟩ => [(13, .slice yv1p yv1.length yv1c), (14, .int .i64 (yv1.length : Int)), (15, .int .i64 v15_1), (3, .map (some mb1))]) (fun (gx : Int × (List (Int × (List (List (Fin 8 → Int))))) × Option Ow × Lo × Mem) => match gx with | ⟨v15_1, mp2, mp2tk, mp2T, Gm2⟩ => Mem.le Gv1 Gm2 ∧ MapR ky5 (RvT (Rp.sl (Rp.vec .i64 8)) 28 mp2T Gm2) (.map (some mb1)) mp2 mp2tk ∧ TokM mp2T mp2) (fun (gx : Int × (List (Int × (List (List (Fin 8 → Int))))) × Option Ow × Lo × Mem) => match gx with | ⟨v15_1, mp2, mp2tk, mp2T, Gm2⟩ => St w0 G0 Gm2 ((4011, mp2tk) :: mp2T)) ⟨0, [], mb1tk, [], Gv1⟩ hr (Fr.sub_cons rfl (Fr.sub_cons rfl (Fr.sub_cons rfl (Fr.sub_cons rfl (Fr.sub_nil _))))) ⟨(Mem.le_refl _), (MapR.monoT mb1h Gv1le), TokM.nil⟩ ?_ ?_
    · intro w hs
      exact hs.weaken (Lo.sub_cons rfl (Lo.sub_nil _))
    · intro Aq1 gx hx hr
      obtain ⟨v15_1, mp2, mp2tk, mp2T, Gm2⟩ := gx
      obtain ⟨Gm2le, mp2h, mp2Th⟩ := hx
      refine WC.seq ?_
      refine WC.region ?_
      refine WL.y0' guard_none (Y0.lss rfl rfl) rfl ?_
      refine WL.nil ?_
      refine WE.then ?_
      refine WC.seq ?_
      refine WC.condD (p := v15_1 < (yv1.length : Int)) rfl (fun hc1 => ?_) (fun hc1 => ?_)
      · replace hr := hr.pos hc1
        refine WC.skip ?_
        refine WE.then ?_
        refine WC.seq ?_
        refine WC.block ?_
        refine WC.seq ?_
        refine WC.region ?_
        obtain ⟨x1, hx1, hr⟩ := hr
        refine WL.y0' guard_none (Y0.idxR Try.underlying28 sz48 (yv1h.mono Gm2le) rfl rfl hx1) rfl ?_
        refine WL.y0' guard_none (Y0.loadGA _ ag48 rfl (vecG_size _ _ _) (AtK.vec (At.mono (SlR.at yv1h hx1) Gm2le))) rfl ?_
        refine WL.alloc 5 guard_none z48 rfl (fun b1 => ?_)
        refine WL.storeLA 5 guard_none sz48 rfl rfl rfl (vecG_size _ _ _) (vecG_size _ _ _) (fun u hu => Rp.one (Rp.vec .i64 8) (G := Gm2) (x := x1) (cs := vecG (Value.int .i64) 8 x1) rfl u (by simpa using hu)) ?_
        refine WL.nil ?_
        refine WE.then ?_
        refine WC.seq ?_
        refine WC.region ?_
        refine WL.y0' guard_none (Y0.assign rfl) rfl ?_
        refine WL.nil ?_
        refine WE.then ?_
        refine WC.seq ?_
        refine WC.seq ?_
        refine WC.region ?_
        refine WL.y0' guard_none (Y0.loadLA 5 ag48 rfl rfl (vecG_size _ _ _)) rfl ?_
        refine WL.y0' guard_none (Y0.move rfl) rfl ?_
        refine WL.nil ?_
        refine WE.then ?_
        refine WC.meetH (fun (gx : (List (Fin 8 → Int)) × Option Addr × Nat × Option Ow × Mem) => match gx with | ⟨gens1, gens1p, gens1c, gens1tk, Gm3⟩ => [(5, .pointer (some ⟨b1, 0, none⟩)), (6, .slice gens1p gens1.length gens1c), (13, .slice yv1p yv1.length yv1c), (14, .int .i64 (yv1.length : Int)), (15, .int .i64 v15_1), (3, .map (some mb1))]) (fun (gx : (List (Fin 8 → Int)) × Option Addr × Nat × Option Ow × Mem) => match gx with | ⟨gens1, gens1p, gens1c, gens1tk, Gm3⟩ => Mem.le Gm2 Gm3 ∧ SlR (Rp.vec .i64 8) Gm3 (.slice gens1p gens1.length gens1c) gens1 ∧ Tok 8 48 (.slice gens1p gens1.length gens1c) gens1.length gens1tk ∧ (components_parts_k3 v15_1 mp2 x1 gens1).wp (Out Aq1 Phi1)) (fun (gx : (List (Fin 8 → Int)) × Option Addr × Nat × Option Ow × Mem) => match gx with | ⟨gens1, gens1p, gens1c, gens1tk, Gm3⟩ => St w0 G0 Gm3 ((5, some ⟨b1, .cells (vecG (Value.int .i64) 8 x1).toArray 48 (0, 0), 0⟩) :: (1006, gens1tk) :: (4011, mp2tk) :: mp2T)) ?_ ?_
        · refine WC.block ?_
          let Phi2 : (((List (Fin 8 → Int)))) → Prop := fun oo => ((fun ov => match ov with | gens1 => components_parts_k3 v15_1 mp2 x1 gens1 : (((List (Fin 8 → Int)))) → Comp ((Int × (List (Int × (List (List (Fin 8 → Int)))))) ⊕ (((List (Int × (List (List (Fin 8 → Int))))))))) oo).wp (Out Aq1 Phi1)
          replace hr : (Comp.loop _ _).wp Phi2 := hr
          refine WC.loopR (Φ := Phi2) (fun (gx : (List (Fin 8 → Int)) × Option Addr × Nat × Option Ow × Int × Mem) => match gx with | ⟨gens2, gens2p, gens2c, gens2tk, v20_1, Gm4⟩ => ((gens2, v20_1) : (List (Fin 8 → Int)) × Int)) (fun (gx : (List (Fin 8 → Int)) × Option Addr × Nat × Option Ow × Int × Mem) => match gx with | ⟨gens2, gens2p, gens2c, gens2tk, v20_1, Gm4⟩ => [(5, .pointer (some ⟨b1, 0, none⟩)), (6, .slice gens2p gens2.length gens2c), (13, .slice yv1p yv1.length yv1c), (14, .int .i64 (yv1.length : Int)), (15, .int .i64 v15_1), (19, .agg (vecG (Value.int .i64) 8 x1).toArray), (20, .int .i64 v20_1), (3, .map (some mb1))]) (fun (gx : (List (Fin 8 → Int)) × Option Addr × Nat × Option Ow × Int × Mem) => match gx with | ⟨gens2, gens2p, gens2c, gens2tk, v20_1, Gm4⟩ => Mem.le Gm2 Gm4 ∧ SlR (Rp.vec .i64 8) Gm4 (.slice gens2p gens2.length gens2c) gens2 ∧ Tok 8 48 (.slice gens2p gens2.length gens2c) gens2.length gens2tk) (fun (gx : (List (Fin 8 → Int)) × Option Addr × Nat × Option Ow × Int × Mem) => match gx with | ⟨gens2, gens2p, gens2c, gens2tk, v20_1, Gm4⟩ => St w0 G0 Gm4 ((5, some ⟨b1, .cells (vecG (Value.int .i64) 8 x1).toArray 48 (0, 0), 0⟩) :: (1006, gens2tk) :: (4011, mp2tk) :: mp2T)) ⟨[], none, 0, none, 0, Gm2⟩ hr (Fr.sub_cons rfl (Fr.sub_cons rfl (Fr.sub_cons rfl (Fr.sub_cons rfl (Fr.sub_cons rfl (Fr.sub_cons rfl (Fr.sub_cons rfl (Fr.sub_cons rfl (Fr.sub_nil _))))))))) ⟨(Mem.le_refl _), (SlR.nil _ _), Tok.full⟩ ?_ ?_
          · intro w hs
            exact hs.weaken (Lo.sub_cons rfl (Lo.sub_no (Lo.sub_cons rfl ((by (try simp only [List.cons_append, List.nil_append]); repeat (first | exact Lo.sub_refl _ | refine Lo.sub_low mp2Th.high (by decide) ?_))))))
          · intro Aq2 gx hx hr
            obtain ⟨gens2, gens2p, gens2c, gens2tk, v20_1, Gm4⟩ := gx
            obtain ⟨Gm4le, gens2h, gens2ht⟩ := hx
            refine WC.seq ?_
            refine WC.region ?_
            refine WL.y0' guard_none (Y0.lss rfl rfl) rfl ?_
            refine WL.nil ?_
            refine WE.then ?_
            refine WC.seq ?_
            refine WC.condD (p := v20_1 < 8) rfl (fun hc2 => ?_) (fun hc2 => ?_)
            · replace hr := hr.pos hc2
              refine WC.skip ?_
              refine WE.then ?_
              refine WC.seq ?_
              refine WC.block ?_
              refine WC.seq ?_
              refine WC.region ?_
              refine WL.y0' guard_none (Y0.move rfl) rfl ?_
              obtain ⟨hi1, hr⟩ := hr
              refine WL.y0' guard_none (Y0.index Try.underlying48 sc3 sz3 rfl rfl hi1 (vecG_at _ _ _ hi1)) rfl ?_
              refine WL.y0' guard_none (Y0.assign rfl) rfl ?_
              refine WL.y0' guard_none (Y0.assign rfl) rfl ?_
              refine WL.nil ?_
              refine WE.then ?_
              refine WC.seq ?_
              refine WC.region ?_
              refine WL.y0' guard_none (Y0.move rfl) rfl ?_
              refine WL.y0' guard_none (Y0.gtr rfl rfl) rfl ?_
              refine WL.nil ?_
              refine WE.then ?_
              refine WC.condD (p := 0 < (getF x1 v20_1)) rfl (fun hc3 => ?_) (fun hc3 => ?_)
              · replace hr := hr.pos hc3
                refine WC.seq ?_
                refine WC.region ?_
                refine WL.alloc 9 guard_none z48 rfl (fun b2 => ?_)
                refine WL.nil ?_
                refine WE.then ?_
                refine WC.seq ?_
                refine WC.region ?_
                refine WL.y0' guard_none (Y0.move rfl) rfl ?_
                refine WL.y0' guard_none (Y0.move rfl) rfl ?_
                obtain ⟨hi2, hr⟩ := hr
                refine WL.y0' guard_none (Y0.idxA0 Try.underlying48 sz3 rfl rfl hi2) rfl ?_
                refine WL.storeL 9 (vecG (Value.int .i64) 8 (setF (fun _ => 0) v20_1.toNat (getF x1 v20_1))).toArray guard_none sz3 rfl rfl rfl (by first | (rw [vecG_size]; omega) | (show _ < (vecG _ _ _).toArray.size; rw [vecG_size]; omega)) rfl (vecG_put _ _ _ _ _) ?_
                refine WL.nil ?_
                refine WE.then ?_
                refine WC.region ?_
                refine WL.y0' guard_none (Y0.move rfl) rfl ?_
                refine WL.y0' guard_none (Y0.loadLA 9 ag48 rfl rfl (vecG_size _ _ _)) rfl ?_
                refine WL.litR (e := 48) (r := (Rp.vec .i64 8)) (vs := #[(0, .agg (vecG (Value.int .i64) 8 (setF (fun _ => 0) v20_1.toNat (getF x1 v20_1))).toArray)]) (cs := (vecG (Value.int .i64) 8 (setF (fun _ => 0) v20_1.toNat (getF x1 v20_1))) ++ ([])) ([setF (fun _ => 0) v20_1.toNat (getF x1 v20_1)] : List (Fin 8 → Int)) guard_none rfl rfl rfl rfl (by decide) (fun _ => by kernel_rfl) ⟨vecG (Value.int .i64) 8 (setF (fun _ => 0) v20_1.toNat (getF x1 v20_1)), [], rfl, rfl, rfl⟩ (key := 999) (by repeat (first | exact Lo.none_low mp2Th.high (by decide) | rw [Lo.get_cons, if_neg (by decide)])) (by rw [hL0]; rfl) (fun p4 Gv5 Gv5le p4h => ?_)
                obtain ⟨hsm2, hr⟩ := hr
                refine WL.appendR (r := (Rp.vec .i64 8)) 1006 guard_none rfl Try.underlying28 el48 rfl (by decide) rfl rfl (gens2h.mono Gv5le) rfl (by rw [hL0]; rfl) gens2ht p4h hsm2 (fun p5 p5c p5tk Gv6 Gv6le p5h p5ht => ?_)
                refine WL.y0' guard_none (Y0.assign rfl) rfl ?_
                refine WL.nil ?_
                refine WE.inBlock ?_
                refine WE.then ?_
                refine WC.region ?_
                refine WL.y0' guard_none (Y0.add rfl rfl) rfl ?_
                refine WL.y0' guard_none (Y0.move rfl) rfl ?_
                refine WL.nil ?_
                refine WE.backR ⟨(gens2 ++ [setF (fun _ => 0) v20_1.toNat (getF x1 v20_1)]), p5, p5c, p5tk, IntKind.i64.wrap (v20_1 + 1), Gv6⟩ hr ⟨(Mem.le_trans (Mem.le_trans Gm4le Gv5le) Gv6le), p5h, p5ht⟩ (Fr.sub_cons rfl (Fr.sub_cons rfl (Fr.sub_cons rfl (Fr.sub_cons rfl (Fr.sub_cons rfl (Fr.sub_cons rfl (Fr.sub_cons rfl (Fr.sub_cons rfl (Fr.sub_nil _))))))))) ?_
                · intro w hs
                  exact hs.weaken (Lo.sub_cons rfl (Lo.sub_cons rfl (Lo.sub_cons rfl ((by (try simp only [List.cons_append, List.nil_append]); repeat (first | exact Lo.sub_refl _ | refine Lo.sub_low mp2Th.high (by decide) ?_))))))
              · replace hr := hr.neg hc3
                refine WC.skip ?_
                refine WE.inBlock ?_
                refine WE.then ?_
                refine WC.region ?_
                refine WL.y0' guard_none (Y0.add rfl rfl) rfl ?_
                refine WL.y0' guard_none (Y0.move rfl) rfl ?_
                refine WL.nil ?_
                refine WE.backR ⟨gens2, gens2p, gens2c, gens2tk, IntKind.i64.wrap (v20_1 + 1), Gm4⟩ hr ⟨Gm4le, gens2h, gens2ht⟩ (Fr.sub_cons rfl (Fr.sub_cons rfl (Fr.sub_cons rfl (Fr.sub_cons rfl (Fr.sub_cons rfl (Fr.sub_cons rfl (Fr.sub_cons rfl (Fr.sub_cons rfl (Fr.sub_nil _))))))))) ?_
                · intro w hs
                  exact hs.weaken (Lo.sub_cons rfl (Lo.sub_cons rfl (Lo.sub_cons rfl ((by (try simp only [List.cons_append, List.nil_append]); repeat (first | exact Lo.sub_refl _ | refine Lo.sub_low mp2Th.high (by decide) ?_))))))
            · replace hr := hr.neg hc2
              refine WC.exit ?_
              refine WE.thenExit ?_
              refine WE.thenExit ?_
              refine WE.exitHere ?_
              refine WE.endH ⟨gens2, gens2p, gens2c, gens2tk, Gm4⟩ ⟨Gm4le, gens2h, gens2ht, hr⟩ (Fr.sub_cons rfl (Fr.sub_cons rfl (Fr.sub_cons rfl (Fr.sub_cons rfl (Fr.sub_cons rfl (Fr.sub_cons rfl (Fr.sub_nil _))))))) ?_
              · intro w hs
                exact hs.weaken (Lo.sub_cons rfl (Lo.sub_cons rfl (Lo.sub_cons rfl ((by (try simp only [List.cons_append, List.nil_append]); repeat (first | exact Lo.sub_refl _ | refine Lo.sub_low mp2Th.high (by decide) ?_))))))
        · rintro ⟨gens1, gens1p, gens1c, gens1tk, Gm3⟩ ⟨Gm3le, gens1h, gens1ht, hr⟩
          refine WE.then ?_
          refine WC.seq ?_
          refine WC.region ?_
          refine WL.y0' guard_none (Y0.loadLA 5 ag48 rfl rfl (vecG_size _ _ _)) rfl ?_
          obtain ⟨yv2, hyv2, hr⟩ := hr
          refine WL.call0 guard_none rfl (YC.of E65 rfl) (L_monomial_Support _ _ hyv2) rfl (trivial) ?_
          refine WL.y0' guard_none (Y0.assign rfl) rfl ?_
          refine WL.nil ?_
          refine WE.then ?_
          refine WC.region ?_
          refine WL.y0' guard_none (Y0.move rfl) rfl ?_
          refine WL.y0' guard_none (Y0.move rfl) rfl ?_
          refine WL.y0' guard_none (Y0.move rfl) rfl ?_
          refine WL.y0' guard_none (Y0.move rfl) rfl ?_
          obtain ⟨hk1, hr⟩ := hr
          refine WL.mapGetT (k := yv2) 4011 guard_none rfl Try.underlying69 zv74 (MapR.monoT mp2h Gm3le) mp2Th rfl rfl rfl hk1 (fun p1 p1c p1h p1t => ?_)
          refine WL.y0' guard_none (Y0.move rfl) rfl ?_
          refine WL.litR (e := 28) (r := (Rp.sl (Rp.vec .i64 8))) (vs := #[(0, .slice gens1p gens1.length gens1c)]) (cs := [.slice gens1p gens1.length gens1c] ++ ([])) ([gens1] : List (List (Fin 8 → Int))) guard_none rfl rfl rfl rfl (by decide) (fun _ => by kernel_rfl) ⟨[.slice gens1p gens1.length gens1c], [], rfl, ⟨_, rfl, gens1h⟩, rfl⟩ (key := 999) (by repeat (first | exact Lo.none_low mp2Th.high (by decide) | rw [Lo.get_cons, if_neg (by decide)])) (by rw [hL0]; rfl) (fun p2 Gv3 Gv3le p2h => ?_)
          obtain ⟨hsm1, hr⟩ := hr
          refine WL.conseq (S' := St w0 G0 Gv3 ((5, some ⟨b1, .cells (vecG (Value.int .i64) 8 x1).toArray 48 (0, 0), 0⟩) :: (1006, gens1tk) :: (4011, mp2tk) :: mp2T)) (fun w hs => hs.weaken (Lo.sub_cons rfl (Lo.sub_cons rfl (Lo.sub_cons rfl ((by (try simp only [List.cons_append, List.nil_append]); repeat (first | exact Lo.sub_refl _ | refine Lo.sub_low mp2Th.high (by decide) ?_))))))) ?_
          refine WL.appendD (r := (Rp.sl (Rp.vec .i64 8))) (A := [(5, some ⟨b1, .cells (vecG (Value.int .i64) 8 x1).toArray 48 (0, 0), 0⟩), (1006, gens1tk), (4011, mp2tk)]) (T := mp2T) (k := yv2) guard_none rfl rfl mp2Th.high Try.underlying74 el28 rfl (by decide) rfl rfl (p1h.mono Gv3le) hL0 p1t p2h hsm1 (fun p3 p3c p3tk Gv4 Gv4le p3h p3ht => ?_)
          obtain ⟨⟨hk2, hk2s⟩, hr⟩ := hr
          refine WL.mapPutT (tk' := p3tk) (k := yv2) (z := (((mget mp2 yv2).getD []) ++ [gens1])) 4011 guard_none Try.underlying69 (MapR.monoT mp2h (Mem.le_trans (Mem.le_trans Gm3le Gv3le) Gv4le)) rfl rfl rfl rfl hk2 p3h p3ht hk2s (fun tk1 tk1h => ?_)
          refine WL.nil ?_
          refine WE.inBlock ?_
          refine WE.then ?_
          refine WC.region ?_
          refine WL.y0' guard_none (Y0.add rfl rfl) rfl ?_
          refine WL.y0' guard_none (Y0.move rfl) rfl ?_
          refine WL.nil ?_
          refine WE.backR ⟨IntKind.i64.wrap (v15_1 + 1), (mput mp2 yv2 (((mget mp2 yv2).getD []) ++ [gens1])), tk1, ((kcode yv2, p3tk) :: mp2T), Gv4⟩ hr ⟨(Mem.le_trans (Mem.le_trans (Mem.le_trans Gm2le Gm3le) Gv3le) Gv4le), tk1h, (TokM.put (k := yv2) (tk' := p3tk) (y := (((mget mp2 yv2).getD []) ++ [gens1])) mp2Th)⟩ (Fr.sub_cons rfl (Fr.sub_cons rfl (Fr.sub_cons rfl (Fr.sub_cons rfl (Fr.sub_nil _))))) ?_
          · intro w hs
            exact hs.weaken (Lo.sub_cons rfl ((by (try simp only [List.cons_append, List.nil_append]); repeat (first | exact Lo.sub_refl _ | refine Lo.sub_low (TokM.put (k := yv2) (tk' := p3tk) (y := (((mget mp2 yv2).getD []) ++ [gens1])) mp2Th).high (by decide) ?_))))
      · replace hr := hr.neg hc1
        refine WC.exit ?_
        refine WE.thenExit ?_
        refine WE.thenExit ?_
        refine WE.exitHere ?_
        refine WE.endH ⟨mp2, mp2tk, mp2T, Gm2⟩ ⟨Gm2le, mp2h, mp2Th, hr⟩ (Fr.sub_cons rfl (Fr.sub_nil _)) ?_
        · intro w hs
          exact hs.weaken (Lo.sub_cons rfl ((by (try simp only [List.cons_append, List.nil_append]); repeat (first | exact Lo.sub_refl _ | refine Lo.sub_low mp2Th.high (by decide) ?_))))
  · rintro ⟨mp1, mp1tk, mp1T, Gm1⟩ ⟨Gm1le, mp1h, mp1Th, hr⟩
    refine WE.then ?_
    refine WC.seq ?_
    refine WC.region ?_
    refine WL.y0' guard_none (Y0.move rfl) rfl ?_
    refine WL.y0' guard_none (Y0.assign rfl) rfl ?_
    refine WL.nil ?_
    refine WE.then ?_
    refine WC.ret ?_
    replace hr : _ = r := hr
    subst hr
    refine WE.conseq (S' := St w0 G0 Gm1 [(7000, mp1tk)]) ?_ ?_
    · intro w hs
      have hs := hs.rekey (i := 4011) (j := 7000) rfl (by rw [hL0]; rfl)
      exact hs.weaken (Lo.sub_cons rfl (Lo.sub_nil _))
    exact WE.ret1 rfl rfl ⟨_, _, rfl, rfl, (MapR.drop mp1h)⟩
theorem collect89 : CollectsL Try.prog 89 #[] 91 ky5 (Rp.int .u8) 5 :=
  collect (collects_of (fun hN hi hG => appS (ok := ky5.ok) (enc := fun x => (Value.int .u8) x) Try.func105 rfl rfl rfl sc33 sz33 Try.underlying33 el5 rfl (by decide) (fun _ _ => rfl) (fun _ _ => by kernel_rfl) E91 hN hi hG) (fun h1 h2 h3 h4 => keysS (ok := ky5.ok) (enc := fun x => (Value.int .u8) x) Try.func91 rfl rfl rfl sc69 Try.underlying69 h1 h2 h3 h4)) E105 Try.func89 rfl rfl rfl
theorem L_slices_Sort_uint8_uint8 (x1 : (List Int)) (x1p : Option Addr) (x1c : Nat) (x1n : Nat) (x1tk : Option Ow) (r : (List Int)) (hr : (slices_Sort_uint8_uint8 x1).Ret r) : CtrL Try.prog 90 #[.slice x1p x1n x1c] [(5000, x1tk)] (fun G => RowR (Rp.int .u8) 5 G (.slice x1p x1n x1c) x1 x1tk) (fun G L v => ∃ zk0, L = [(5000, zk0)] ∧ v = .tuple #[] ∧ RowR (Rp.int .u8) 5 G (.slice x1p x1n x1c) r zk0) := by
  refine CtrL.enter (args := [_]) (N := 11) Try.func90 rfl rfl rfl (fun w0 G0 hL0 hpre => ?_)
  have x1h := hpre
  have hz : w0.L.zero := by
    rw [hL0]; intro p hp x hx
    simp only [List.mem_cons, List.not_mem_nil, or_false] at hp
    subst hp; exact RowR.zero x1h hx
  refine WC.seq ?_
  refine WC.region ?_
  refine WL.y0' guard_none (Y0.move rfl) rfl ?_
  refine WL.y0' guard_none (Y0.lenRow Try.underlying33 x1h rfl) rfl ?_
  refine WL.y0' guard_none (Y0.assign rfl) rfl ?_
  refine WL.nil ?_
  refine WE.then ?_
  refine WC.region ?_
  refine WL.y0' guard_none (Y0.move rfl) rfl ?_
  refine WL.y0' guard_none (Y0.move rfl) rfl ?_
  refine WL.y0' guard_none (Y0.move rfl) rfl ?_
  refine WL.y0' guard_none (Y0.conv Try.underlying3 Try.underlying100 rfl) rfl ?_
  obtain ⟨yv1, hyv1, hr⟩ := hr
  refine WL.call0 guard_none rfl (YC.of E88 rfl) (L_math_bits_Len _ _ hyv1) rfl (trivial) ?_
  obtain ⟨yv2, hyv2, hr⟩ := hr
  refine WL.callT guard_none rfl (YC.of E106 rfl) (L_slices_pdqsortOrdered_uint8_2 _ _ _ _ _ _ _ _ _ hyv2) rfl (x1h) (Lo.sub_cons rfl (Lo.sub_nil _)) hz (fun yv2v Gv2 Lyv2 Gv2le yv2post => ?_)
  obtain ⟨yv2tk0, rfl, rfl, yv2rh0⟩ := yv2post
  refine WL.nil ?_
  refine WE.retN ?_
  replace hr : _ = r := hr
  subst hr
  refine WE.conseq (S' := St w0 G0 Gv2 [(5000, yv2tk0)]) ?_ ?_
  · intro w hs
    exact hs.weaken (Lo.sub_cons rfl (Lo.sub_nil _))
  exact WE.ret0 rfl  ⟨_, rfl, rfl, yv2rh0⟩
theorem sorted74 : SortedL Try.prog 74 91 ky5 (Rp.int .u8) 5 slices_Sort_uint8_uint8 :=
  sorted collect89 (fun xs p c tk y h => L_slices_Sort_uint8_uint8 xs p c xs.length tk y h) E89 E90 Try.func74 rfl rfl rfl
theorem L_components_primes (byv1 : (List (Int × (List (List (Fin 8 → Int)))))) (byv1b : Nat) (byv1tk : Option Ow) (r : (List Int)) (hr : (components_primes byv1).Ret r) : CtrL Try.prog 48 #[.map (some byv1b)] [(5500, byv1tk)] (fun G => MapR ky5 (RvS (Rp.sl (Rp.sl (Rp.vec .i64 8))) G) (.map (some byv1b)) byv1 byv1tk) (fun G L v => L = [(5500, byv1tk)] ∧ (∃ zp zc, v = .slice zp r.length zc ∧ SlR (Rp.int .u8) G (.slice zp r.length zc) r)) := by
  refine CtrL.enter (args := [_]) (N := 6) Try.func48 rfl rfl rfl (fun w0 G0 hL0 hpre => ?_)
  have byv1h := hpre
  have hz : w0.L.zero := by
    rw [hL0]; intro p hp x hx
    simp only [List.mem_cons, List.not_mem_nil, or_false] at hp
    subst hp; exact MapR.zero byv1h hx
  refine WC.seq ?_
  refine WC.region ?_
  refine WL.y0' guard_none (Y0.assign rfl) rfl ?_
  refine WL.nil ?_
  refine WE.then ?_
  refine WC.seq ?_
  refine WC.region ?_
  refine WL.y0' guard_none (Y0.move rfl) rfl ?_
  refine WL.call guard_none rfl (YC.of E75 rfl) (keysBox Try.func75 rfl rfl rfl (some byv1b)) rfl trivial (fun kf1v Gv1 Gv1le kf1post => ?_)
  obtain ⟨kf1, rfl, kf1h⟩ := kf1post
  refine WL.callT guard_none rfl (YC.of E74 rfl) (sorted74 _ _ _ _ _ 5500 _ (by decide) (MapR.mono byv1h Gv1le) hr) rfl kf1h (Lo.sub_cons rfl (Lo.sub_nil _)) hz (fun ks1v Gv2 Lks1 Gv2le ks1post => ?_)
  clear hr
  obtain ⟨ks1, ks1p, ks1c, ks1tk, rfl, rfl, ks1h, hr⟩ := ks1post
  refine WL.conseq (fun w hs => hs.rekey (i := 7000) (j := 4005) rfl (by rw [hL0]; rfl)) ?_
  refine WL.freezeT (r := (Rp.int .u8)) (e := 5) 4005 ks1h rfl (by rw [hL0]; rfl) (fun tk1 Gv3 Gv3le tk1h tk1ht => ?_)
  refine WL.y0' guard_none (Y0.assign rfl) rfl ?_
  refine WL.nil ?_
  refine WE.then ?_
  refine WC.ret ?_
  replace hr : _ = r := hr
  subst hr
  refine WE.conseq (S' := St w0 G0 Gv3 [(5500, byv1tk)]) ?_ ?_
  · intro w hs
    exact hs.weaken (Lo.sub_cons rfl (Lo.sub_nil _))
  exact WE.ret1 rfl rfl ⟨rfl, ⟨_, _, (SlR.eqv tk1h), (SlR.std tk1h)⟩⟩
theorem L_components_Primes (l1 : (List (Fin 8 → Int))) (n1 : Int) (l1p : Option Addr) (l1c : Nat) (r : (List Int) × Int) (hr : (components_Primes l1 n1).Ret r) : Ctr Try.prog 16 #[.slice l1p l1.length l1c, .int .i64 n1] (fun G => SlR (Rp.vec .i64 8) G (.slice l1p l1.length l1c) l1) (fun G v => ∃ zr0p zr0c, v = .tuple #[.slice zr0p r.1.length zr0c, .int .i64 r.2] ∧ SlR (Rp.int .u8) G (.slice zr0p r.1.length zr0c) r.1) := by
  refine Ctr.enter (args := [_, _]) (N := 16) Try.func16 rfl rfl rfl (fun w0 G0 hL0 hpre => ?_)
  have l1h := hpre
  have hz : w0.L.zero := by rw [hL0]; intro p hp; simp at hp
  refine WC.seq ?_
  refine WC.region ?_
  refine WL.y0' guard_none (Y0.assign rfl) rfl ?_
  refine WL.y0' guard_none (Y0.assign rfl) rfl ?_
  refine WL.nil ?_
  refine WE.then ?_
  refine WC.seq ?_
  refine WC.seq ?_
  refine WC.region ?_
  refine WL.y0' guard_none (Y0.move rfl) rfl ?_
  refine WL.y0' guard_none (Y0.move rfl) rfl ?_
  obtain ⟨yv1, hyv1, hr⟩ := hr
  refine WL.call0 guard_none rfl (YC.of E42 rfl) (L_components_check _ _ _ _ _ hyv1) rfl (l1h) ?_
  refine WL.y0' guard_none (Y0.assign rfl) rfl ?_
  refine WL.nil ?_
  refine WE.then ?_
  refine WC.seq ?_
  refine WC.region ?_
  refine WL.y0' guard_none (Y0.move rfl) rfl ?_
  refine WL.y0' guard_none (Y0.neq rfl rfl) rfl ?_
  refine WL.nil ?_
  refine WE.then ?_
  refine WC.condD (p := ¬ yv1 = 0) rfl (fun hc1 => ?_) (fun hc1 => ?_)
  · replace hr := hr.pos hc1
    refine WC.seq ?_
    refine WC.region ?_
    refine WL.y0' guard_none (Y0.move rfl) rfl ?_
    refine WL.y0' guard_none (Y0.assign rfl) rfl ?_
    refine WL.y0' guard_none (Y0.assign rfl) rfl ?_
    refine WL.nil ?_
    refine WE.then ?_
    refine WC.ret ?_
    replace hr : _ = r := hr
    refine WE.thenRet ?_
    subst hr
    exact WE.ret2 rfl rfl rfl ⟨_, _, rfl, (SlR.nil (Rp.int .u8) _)⟩
  · replace hr := hr.neg hc1
    refine WC.skip ?_
    refine WE.then ?_
    refine WC.seq ?_
    refine WC.region ?_
    refine WL.y0' guard_none (Y0.move rfl) rfl ?_
    obtain ⟨yv2, hyv2, hr⟩ := hr
    refine WL.callT guard_none rfl (YC.of E49 rfl) (L_components_parts _ _ _ _ hyv2) rfl (l1h) (Lo.sub_nil _) hz (fun yv2v Gv2 Lyv2 Gv2le yv2post => ?_)
    obtain ⟨yv2b, yv2tk, rfl, rfl, yv2h⟩ := yv2post
    refine WL.conseq (fun w hs => hs.rekey (i := 7000) (j := 4014) rfl (by rw [hL0]; rfl)) ?_
    obtain ⟨yv3, hyv3, hr⟩ := hr
    refine WL.conseq (fun w hs => hs.rekey (i := 4014) (j := 5500) rfl (by rw [hL0]; rfl)) ?_
    refine WL.callRO guard_none rfl (YC.of E48 rfl) (L_components_primes _ _ _ _ hyv3) rfl (yv2h) (Lo.sub_cons rfl (Lo.sub_nil _)) (fun i hi => by simp only [List.map_cons, List.map_nil, List.mem_cons, List.not_mem_nil, or_false] at hi; subst hi; exact rfl) hz (fun yv3v Gv3 Gv3le yv3post => ?_)
    obtain ⟨yv3p, yv3c, rfl, yv3h⟩ := yv3post
    refine WL.conseq (fun w hs => hs.rekey (i := 5500) (j := 4014) rfl (by rw [hL0]; rfl)) ?_
    refine WL.y0' guard_none (Y0.assign rfl) rfl ?_
    refine WL.y0' guard_none (Y0.assign rfl) rfl ?_
    refine WL.nil ?_
    refine WE.then ?_
    refine WC.ret ?_
    replace hr : _ = r := hr
    subst hr
    exact WE.ret2 rfl rfl rfl ⟨_, _, rfl, yv3h⟩
theorem L_components_Embedded_c1 (q1 : Int) (cap1 : Int) (b1 : Nat) (r : Bool) (hr : (components_Embedded_c1 q1 cap1).Ret r) : CtrL Try.prog 51 #[.int .u8 q1, .pointer (some ⟨b1, 0, none⟩)] [(103610, some ⟨b1, .cells ([.int .u8 cap1]).toArray 5 (0, 0), 0⟩)] (fun G => True) (fun G L v => L = [(103610, some ⟨b1, .cells ([.int .u8 cap1]).toArray 5 (0, 0), 0⟩)] ∧ v = .bool r) := by
  refine CtrL.enter (args := [_, _]) (N := 13) Try.func51 rfl rfl rfl (fun w0 G0 hL0 hpre => ?_)
  refine WC.seq ?_
  refine WC.region ?_
  refine WL.y0' guard_none (Y0.assign rfl) rfl ?_
  refine WL.nil ?_
  refine WE.then ?_
  refine WC.seq ?_
  refine WC.region ?_
  refine WL.y0' guard_none (Y0.move rfl) rfl ?_
  refine WL.y0' guard_none (Y0.loadL 103610 sc5 rfl rfl rfl) rfl ?_
  refine WL.caseY0 (p := ¬ q1 = cap1) guard_none (Y0.neq rfl rfl) rfl (fun hb1 => ?_) (fun hb1 => ?_)
  · replace hr := hr.pos hb1
    refine WL.y0' guard_none (Y0.move rfl) rfl ?_
    refine WL.y0' (guard_yes rfl rfl) (Y0.move rfl) rfl ?_
    refine WL.y0' (guard_yes rfl rfl) (Y0.loadL 103610 sc5 rfl rfl rfl) rfl ?_
    refine WL.y0' (guard_yes rfl rfl) (Y0.andNot rfl rfl) rfl ?_
    refine WL.y0' (guard_yes rfl rfl) (Y0.eql rfl rfl) rfl ?_
    refine WL.y0' guard_none (Y0.pickT rfl rfl) rfl ?_
    refine WL.y0' guard_none (Y0.assign rfl) rfl ?_
    refine WL.nil ?_
    refine WE.then ?_
    refine WC.ret ?_
    replace hr : _ = r := hr
    subst hr
    refine WE.conseq (S' := St w0 G0 G0 [(103610, some ⟨b1, .cells ([.int .u8 cap1]).toArray 5 (0, 0), 0⟩)]) ?_ ?_
    · intro w hs
      exact hs.weaken (Lo.sub_cons rfl (Lo.sub_nil _))
    exact WE.ret1 rfl rfl ⟨rfl, rfl⟩
  · replace hr := hr.neg hb1
    refine WL.y0' guard_none (Y0.move rfl) rfl ?_
    refine WL.skip (guard_noT rfl rfl) rfl ?_
    refine WL.skip (guard_noT rfl rfl) rfl ?_
    refine WL.skip (guard_noT rfl rfl) rfl ?_
    refine WL.skip (guard_noT rfl rfl) rfl ?_
    refine WL.y0' guard_none (Y0.pickF rfl rfl) rfl ?_
    refine WL.y0' guard_none (Y0.assign rfl) rfl ?_
    refine WL.nil ?_
    refine WE.then ?_
    refine WC.ret ?_
    replace hr : _ = r := hr
    subst hr
    refine WE.conseq (S' := St w0 G0 G0 [(103610, some ⟨b1, .cells ([.int .u8 cap1]).toArray 5 (0, 0), 0⟩)]) ?_ ?_
    · intro w hs
      exact hs.weaken (Lo.sub_cons rfl (Lo.sub_nil _))
    exact WE.ret1 rfl rfl ⟨rfl, rfl⟩
theorem L_slices_IndexFunc_uint8_uint8_components_Embedded_c1 (s1 : (List Int)) (cap1 : Int) (s1p : Option Addr) (s1c : Nat) (b1 : Nat) (r : Int) (hr : (slices_IndexFunc_uint8_uint8_components_Embedded_c1 s1 cap1).Ret r) : CtrL Try.prog 76 #[.slice s1p s1.length s1c, .func (.func 51) #[] #[.pointer (some ⟨b1, 0, none⟩)]] [(103610, some ⟨b1, .cells ([.int .u8 cap1]).toArray 5 (0, 0), 0⟩)] (fun G => SlR (Rp.int .u8) G (.slice s1p s1.length s1c) s1) (fun G L v => L = [(103610, some ⟨b1, .cells ([.int .u8 cap1]).toArray 5 (0, 0), 0⟩)] ∧ v = .int .i64 r) := by
  refine CtrL.enter (args := [_, _]) (N := 19) Try.func76 rfl rfl rfl (fun w0 G0 hL0 hpre => ?_)
  have s1h := hpre
  have hz : w0.L.zero := by
    rw [hL0]; intro p hp x hx
    simp only [List.mem_cons, List.not_mem_nil, or_false] at hp
    subst hp; cases hx; rfl
  refine WC.seq ?_
  refine WC.region ?_
  refine WL.y0' guard_none (Y0.assign rfl) rfl ?_
  refine WL.nil ?_
  refine WE.then ?_
  refine WC.seq ?_
  refine WC.seq ?_
  refine WC.region ?_
  refine WL.y0' guard_none (Y0.move rfl) rfl ?_
  refine WL.y0' guard_none (Y0.lenR Try.underlying33 s1h rfl) rfl ?_
  refine WL.y0' guard_none (Y0.move rfl) rfl ?_
  refine WL.nil ?_
  refine WE.then ?_
  refine WC.meetH (fun (gx : Mem) => match gx with | Gm1 => []) (fun (gx : Mem) => match gx with | Gm1 => Mem.le G0 Gm1 ∧ (slices_IndexFunc_uint8_uint8_components_Embedded_c1_k1).Ret r) (fun (gx : Mem) => match gx with | Gm1 => St w0 G0 Gm1 [(103610, some ⟨b1, .cells ([.int .u8 cap1]).toArray 5 (0, 0), 0⟩)]) ?_ ?_
  · refine WC.block ?_
    let Phi1 : (Int ⊕ Unit) → Prop := fun oo => ((fun ov => match ov with | .inl rv1 => Comp.ret rv1 | .inr () => slices_IndexFunc_uint8_uint8_components_Embedded_c1_k1 : (Int ⊕ Unit) → Comp Int) oo).wp (fun a => a = r)
    replace hr : (Comp.loop _ _).wp Phi1 := hr
    refine WC.loopR (Φ := Phi1) (fun (gx : Int × Mem) => match gx with | ⟨v8_1, Gm2⟩ => (v8_1 : Int)) (fun (gx : Int × Mem) => match gx with | ⟨v8_1, Gm2⟩ => [(0, .slice s1p s1.length s1c), (1, .func (.func 51) #[] #[.pointer (some ⟨b1, 0, none⟩)]), (7, .int .i64 (s1.length : Int)), (8, .int .i64 v8_1)]) (fun (gx : Int × Mem) => match gx with | ⟨v8_1, Gm2⟩ => Mem.le G0 Gm2) (fun (gx : Int × Mem) => match gx with | ⟨v8_1, Gm2⟩ => St w0 G0 Gm2 [(103610, some ⟨b1, .cells ([.int .u8 cap1]).toArray 5 (0, 0), 0⟩)]) ⟨0, G0⟩ hr (Fr.sub_cons rfl (Fr.sub_cons rfl (Fr.sub_cons rfl (Fr.sub_cons rfl (Fr.sub_nil _))))) (Mem.le_refl _) ?_ ?_
    · intro w hs
      exact hs.weaken (Lo.sub_cons rfl (Lo.sub_nil _))
    · intro Aq1 gx hx hr
      obtain ⟨v8_1, Gm2⟩ := gx
      have Gm2le := hx
      refine WC.seq ?_
      refine WC.region ?_
      refine WL.y0' guard_none (Y0.lss rfl rfl) rfl ?_
      refine WL.nil ?_
      refine WE.then ?_
      refine WC.seq ?_
      refine WC.condD (p := v8_1 < (s1.length : Int)) rfl (fun hc1 => ?_) (fun hc1 => ?_)
      · replace hr := hr.pos hc1
        refine WC.skip ?_
        refine WE.then ?_
        refine WC.seq ?_
        refine WC.block ?_
        refine WC.seq ?_
        refine WC.region ?_
        refine WL.y0' guard_none (Y0.move rfl) rfl ?_
        refine WL.y0' guard_none (Y0.assign rfl) rfl ?_
        refine WL.nil ?_
        refine WE.then ?_
        refine WC.seq ?_
        refine WC.region ?_
        refine WL.y0' guard_none (Y0.move rfl) rfl ?_
        refine WL.y0' guard_none (Y0.move rfl) rfl ?_
        refine WL.y0' guard_none (Y0.move rfl) rfl ?_
        obtain ⟨x1, hx1, hr⟩ := hr
        refine WL.y0' guard_none (Y0.idxR Try.underlying33 sz5 (s1h.mono Gm2le) rfl rfl hx1) rfl ?_
        refine WL.y0' guard_none (Y0.loadG sc5 rfl (AtK.int (At.mono (SlR.at s1h hx1) Gm2le))) rfl ?_
        obtain ⟨yv1, hyv1, hr⟩ := hr
        refine WL.callRO guard_none rfl (YC.ofV E51 rfl rfl) (L_components_Embedded_c1 _ _ _ _ hyv1) rfl (trivial) (Lo.sub_cons rfl (Lo.sub_nil _)) (fun i hi => by simp only [List.map_cons, List.map_nil, List.mem_cons, List.not_mem_nil, or_false] at hi; subst hi; exact rfl) hz (fun yv1v Gv1 Gv1le yv1post => ?_)
        subst yv1post
        refine WL.nil ?_
        refine WE.then ?_
        refine WC.cond (b := yv1) rfl (fun hc2 => ?_) (fun hc2 => ?_)
        · replace hr := hr.pos hc2
          refine WC.seq ?_
          refine WC.region ?_
          refine WL.y0' guard_none (Y0.move rfl) rfl ?_
          refine WL.y0' guard_none (Y0.assign rfl) rfl ?_
          refine WL.nil ?_
          refine WE.then ?_
          refine WC.ret ?_
          replace hr : _ = r := hr
          refine WE.inBlockRet ?_
          refine WE.thenRet ?_
          refine WE.thenRet ?_
          refine WE.inBlockRet ?_
          refine WE.endRet ?_
          refine WE.thenRet ?_
          subst hr
          refine WE.conseq (S' := St w0 G0 Gv1 [(103610, some ⟨b1, .cells ([.int .u8 cap1]).toArray 5 (0, 0), 0⟩)]) ?_ ?_
          · intro w hs
            exact hs.weaken (Lo.sub_cons rfl (Lo.sub_nil _))
          exact WE.ret1 rfl rfl ⟨rfl, rfl⟩
        · replace hr := hr.neg (Bool.eq_false_iff.1 hc2)
          refine WC.skip ?_
          refine WE.inBlock ?_
          refine WE.then ?_
          refine WC.region ?_
          refine WL.y0' guard_none (Y0.add rfl rfl) rfl ?_
          refine WL.y0' guard_none (Y0.move rfl) rfl ?_
          refine WL.nil ?_
          refine WE.backR ⟨IntKind.i64.wrap (v8_1 + 1), Gv1⟩ hr (Mem.le_trans Gm2le Gv1le) (Fr.sub_cons rfl (Fr.sub_cons rfl (Fr.sub_cons rfl (Fr.sub_cons rfl (Fr.sub_nil _))))) ?_
          · intro w hs
            exact hs.weaken (Lo.sub_cons rfl (Lo.sub_nil _))
      · replace hr := hr.neg hc1
        refine WC.exit ?_
        refine WE.thenExit ?_
        refine WE.thenExit ?_
        refine WE.exitHere ?_
        refine WE.endH Gm2 ⟨Gm2le, hr⟩ (Fr.sub_nil _) ?_
        · intro w hs
          exact hs.weaken (Lo.sub_cons rfl (Lo.sub_nil _))
  · rintro Gm1 ⟨Gm1le, hr⟩
    refine WE.then ?_
    refine WC.seq ?_
    refine WC.region ?_
    refine WL.y0' guard_none (Y0.assign rfl) rfl ?_
    refine WL.nil ?_
    refine WE.then ?_
    refine WC.ret ?_
    replace hr : _ = r := hr
    subst hr
    refine WE.conseq (S' := St w0 G0 Gm1 [(103610, some ⟨b1, .cells ([.int .u8 cap1]).toArray 5 (0, 0), 0⟩)]) ?_ ?_
    · intro w hs
      exact hs.weaken (Lo.sub_cons rfl (Lo.sub_nil _))
    exact WE.ret1 rfl rfl ⟨rfl, rfl⟩
theorem L_slices_ContainsFunc_uint8_uint8_components_Embedded_c1 (s1 : (List Int)) (cap1 : Int) (s1p : Option Addr) (s1c : Nat) (b1 : Nat) (r : Bool) (hr : (slices_ContainsFunc_uint8_uint8_components_Embedded_c1 s1 cap1).Ret r) : CtrL Try.prog 50 #[.slice s1p s1.length s1c, .func (.func 51) #[] #[.pointer (some ⟨b1, 0, none⟩)]] [(103610, some ⟨b1, .cells ([.int .u8 cap1]).toArray 5 (0, 0), 0⟩)] (fun G => SlR (Rp.int .u8) G (.slice s1p s1.length s1c) s1) (fun G L v => L = [(103610, some ⟨b1, .cells ([.int .u8 cap1]).toArray 5 (0, 0), 0⟩)] ∧ v = .bool r) := by
  refine CtrL.enter (args := [_, _]) (N := 9) Try.func50 rfl rfl rfl (fun w0 G0 hL0 hpre => ?_)
  have s1h := hpre
  have hz : w0.L.zero := by
    rw [hL0]; intro p hp x hx
    simp only [List.mem_cons, List.not_mem_nil, or_false] at hp
    subst hp; cases hx; rfl
  refine WC.seq ?_
  refine WC.region ?_
  refine WL.y0' guard_none (Y0.assign rfl) rfl ?_
  refine WL.nil ?_
  refine WE.then ?_
  refine WC.seq ?_
  refine WC.region ?_
  refine WL.y0' guard_none (Y0.move rfl) rfl ?_
  refine WL.y0' guard_none (Y0.move rfl) rfl ?_
  obtain ⟨yv1, hyv1, hr⟩ := hr
  refine WL.callRO guard_none rfl (YC.of E76 rfl) (L_slices_IndexFunc_uint8_uint8_components_Embedded_c1 _ _ _ _ _ _ hyv1) rfl (s1h) (Lo.sub_cons rfl (Lo.sub_nil _)) (fun i hi => by simp only [List.map_cons, List.map_nil, List.mem_cons, List.not_mem_nil, or_false] at hi; subst hi; exact rfl) hz (fun yv1v Gv1 Gv1le yv1post => ?_)
  subst yv1post
  refine WL.y0' guard_none (Y0.geq rfl rfl) rfl ?_
  refine WL.y0' guard_none (Y0.assign rfl) rfl ?_
  refine WL.nil ?_
  refine WE.then ?_
  refine WC.ret ?_
  replace hr : _ = r := hr
  subst hr
  refine WE.conseq (S' := St w0 G0 Gv1 [(103610, some ⟨b1, .cells ([.int .u8 cap1]).toArray 5 (0, 0), 0⟩)]) ?_ ?_
  · intro w hs
    exact hs.weaken (Lo.sub_cons rfl (Lo.sub_nil _))
  exact WE.ret1 rfl rfl ⟨rfl, rfl⟩
theorem L_components_Embedded (l1 : (List (Fin 8 → Int))) (n1 : Int) (l1p : Option Addr) (l1c : Nat) (r : (List Int) × Int) (hr : (components_Embedded l1 n1).Ret r) : Ctr Try.prog 18 #[.slice l1p l1.length l1c, .int .i64 n1] (fun G => SlR (Rp.vec .i64 8) G (.slice l1p l1.length l1c) l1) (fun G v => ∃ zr0p zr0c, v = .tuple #[.slice zr0p r.1.length zr0c, .int .i64 r.2] ∧ SlR (Rp.int .u8) G (.slice zr0p r.1.length zr0c) r.1) := by
  refine Ctr.enter (args := [_, _]) (N := 35) Try.func18 rfl rfl rfl (fun w0 G0 hL0 hpre => ?_)
  have l1h := hpre
  have hz : w0.L.zero := by rw [hL0]; intro p hp; simp at hp
  refine WC.seq ?_
  refine WC.region ?_
  refine WL.y0' guard_none (Y0.assign rfl) rfl ?_
  refine WL.y0' guard_none (Y0.assign rfl) rfl ?_
  refine WL.nil ?_
  refine WE.then ?_
  refine WC.seq ?_
  refine WC.seq ?_
  refine WC.region ?_
  refine WL.y0' guard_none (Y0.move rfl) rfl ?_
  refine WL.y0' guard_none (Y0.move rfl) rfl ?_
  obtain ⟨yv1, hyv1, hr⟩ := hr
  refine WL.call0 guard_none rfl (YC.of E42 rfl) (L_components_check _ _ _ _ _ hyv1) rfl (l1h) ?_
  refine WL.y0' guard_none (Y0.assign rfl) rfl ?_
  refine WL.nil ?_
  refine WE.then ?_
  refine WC.seq ?_
  refine WC.region ?_
  refine WL.y0' guard_none (Y0.move rfl) rfl ?_
  refine WL.y0' guard_none (Y0.neq rfl rfl) rfl ?_
  refine WL.nil ?_
  refine WE.then ?_
  refine WC.condD (p := ¬ yv1 = 0) rfl (fun hc1 => ?_) (fun hc1 => ?_)
  · replace hr := hr.pos hc1
    refine WC.seq ?_
    refine WC.region ?_
    refine WL.y0' guard_none (Y0.move rfl) rfl ?_
    refine WL.y0' guard_none (Y0.assign rfl) rfl ?_
    refine WL.y0' guard_none (Y0.assign rfl) rfl ?_
    refine WL.nil ?_
    refine WE.then ?_
    refine WC.ret ?_
    replace hr : _ = r := hr
    refine WE.thenRet ?_
    subst hr
    exact WE.ret2 rfl rfl rfl ⟨_, _, rfl, (SlR.nil (Rp.int .u8) _)⟩
  · replace hr := hr.neg hc1
    refine WC.skip ?_
    refine WE.then ?_
    refine WC.seq ?_
    refine WC.region ?_
    refine WL.y0' guard_none (Y0.move rfl) rfl ?_
    obtain ⟨yv2, hyv2, hr⟩ := hr
    refine WL.callT guard_none rfl (YC.of E49 rfl) (L_components_parts _ _ _ _ hyv2) rfl (l1h) (Lo.sub_nil _) hz (fun yv2v Gv2 Lyv2 Gv2le yv2post => ?_)
    obtain ⟨yv2b, yv2tk, rfl, rfl, yv2h⟩ := yv2post
    refine WL.conseq (fun w hs => hs.rekey (i := 7000) (j := 4018) rfl (by rw [hL0]; rfl)) ?_
    obtain ⟨yv3, hyv3, hr⟩ := hr
    refine WL.conseq (fun w hs => hs.rekey (i := 4018) (j := 5500) rfl (by rw [hL0]; rfl)) ?_
    refine WL.callRO guard_none rfl (YC.of E48 rfl) (L_components_primes _ _ _ _ hyv3) rfl (yv2h) (Lo.sub_cons rfl (Lo.sub_nil _)) (fun i hi => by simp only [List.map_cons, List.map_nil, List.mem_cons, List.not_mem_nil, or_false] at hi; subst hi; exact rfl) hz (fun yv3v Gv3 Gv3le yv3post => ?_)
    obtain ⟨yv3p, yv3c, rfl, yv3h⟩ := yv3post
    refine WL.conseq (fun w hs => hs.rekey (i := 5500) (j := 4018) rfl (by rw [hL0]; rfl)) ?_
    refine WL.y0' guard_none (Y0.assign rfl) rfl ?_
    refine WL.nil ?_
    refine WE.then ?_
    refine WC.seq ?_
    refine WC.region ?_
    refine WL.y0' guard_none (Y0.assign rfl) rfl ?_
    refine WL.nil ?_
    refine WE.then ?_
    refine WC.seq ?_
    refine WC.seq ?_
    refine WC.region ?_
    refine WL.y0' guard_none (Y0.move rfl) rfl ?_
    refine WL.y0' guard_none (Y0.lenR Try.underlying33 yv3h rfl) rfl ?_
    refine WL.y0' guard_none (Y0.move rfl) rfl ?_
    refine WL.nil ?_
    refine WE.then ?_
    refine WC.meetH (fun (gx : (List Int) × Option Addr × Nat × Option Ow × Mem) => match gx with | ⟨result1, result1p, result1c, result1tk, Gm1⟩ => [(8, .slice result1p result1.length result1c)]) (fun (gx : (List Int) × Option Addr × Nat × Option Ow × Mem) => match gx with | ⟨result1, result1p, result1c, result1tk, Gm1⟩ => Mem.le Gv3 Gm1 ∧ SlR (Rp.int .u8) Gm1 (.slice result1p result1.length result1c) result1 ∧ Tok 1 5 (.slice result1p result1.length result1c) result1.length result1tk ∧ (components_Embedded_k1 result1).Ret r) (fun (gx : (List Int) × Option Addr × Nat × Option Ow × Mem) => match gx with | ⟨result1, result1p, result1c, result1tk, Gm1⟩ => St w0 G0 Gm1 [(1008, result1tk)]) ?_ ?_
    · refine WC.block ?_
      let Phi1 : (List Int) → Prop := fun oo => ((fun ov => match ov with | result1 => components_Embedded_k1 result1 : (List Int) → Comp ((List Int) × Int)) oo).wp (fun a => a = r)
      replace hr : (Comp.loop _ _).wp Phi1 := hr
      refine WC.loopR (Φ := Phi1) (fun (gx : (List Int) × Option Addr × Nat × Option Ow × Int × Mem) => match gx with | ⟨result2, result2p, result2c, result2tk, v22_1, Gm2⟩ => ((result2, v22_1) : (List Int) × Int)) (fun (gx : (List Int) × Option Addr × Nat × Option Ow × Int × Mem) => match gx with | ⟨result2, result2p, result2c, result2tk, v22_1, Gm2⟩ => [(7, .slice yv3p yv3.length yv3c), (8, .slice result2p result2.length result2c), (20, .slice yv3p yv3.length yv3c), (21, .int .i64 (yv3.length : Int)), (22, .int .i64 v22_1)]) (fun (gx : (List Int) × Option Addr × Nat × Option Ow × Int × Mem) => match gx with | ⟨result2, result2p, result2c, result2tk, v22_1, Gm2⟩ => Mem.le Gv3 Gm2 ∧ SlR (Rp.int .u8) Gm2 (.slice result2p result2.length result2c) result2 ∧ Tok 1 5 (.slice result2p result2.length result2c) result2.length result2tk) (fun (gx : (List Int) × Option Addr × Nat × Option Ow × Int × Mem) => match gx with | ⟨result2, result2p, result2c, result2tk, v22_1, Gm2⟩ => St w0 G0 Gm2 [(1008, result2tk)]) ⟨[], none, 0, none, 0, Gv3⟩ hr (Fr.sub_cons rfl (Fr.sub_cons rfl (Fr.sub_cons rfl (Fr.sub_cons rfl (Fr.sub_cons rfl (Fr.sub_nil _)))))) ⟨(Mem.le_refl _), (SlR.nil _ _), Tok.full⟩ ?_ ?_
      · intro w hs
        exact hs.weaken (Lo.sub_no (Lo.sub_nil _))
      · intro Aq1 gx hx hr
        obtain ⟨result2, result2p, result2c, result2tk, v22_1, Gm2⟩ := gx
        obtain ⟨Gm2le, result2h, result2ht⟩ := hx
        refine WC.seq ?_
        refine WC.region ?_
        refine WL.y0' guard_none (Y0.lss rfl rfl) rfl ?_
        refine WL.nil ?_
        refine WE.then ?_
        refine WC.seq ?_
        refine WC.condD (p := v22_1 < (yv3.length : Int)) rfl (fun hc2 => ?_) (fun hc2 => ?_)
        · replace hr := hr.pos hc2
          refine WC.skip ?_
          refine WE.then ?_
          refine WC.seq ?_
          refine WC.block ?_
          refine WC.seq ?_
          refine WC.region ?_
          obtain ⟨x1, hx1, hr⟩ := hr
          refine WL.y0' guard_none (Y0.idxR Try.underlying33 sz5 (yv3h.mono Gm2le) rfl rfl hx1) rfl ?_
          refine WL.y0' guard_none (Y0.loadG sc5 rfl (AtK.int (At.mono (SlR.at yv3h hx1) Gm2le))) rfl ?_
          refine WL.alloc 103610 guard_none z5 rfl (fun b1 => ?_)
          refine WL.storeL 103610 ([.int .u8 x1]).toArray guard_none sz5 rfl rfl rfl (by first | decide | simp) rfl rfl ?_
          refine WL.nil ?_
          refine WE.then ?_
          refine WC.seq ?_
          refine WC.region ?_
          refine WL.y0' guard_none (Y0.move rfl) rfl ?_
          refine WL.y0' guard_none (Y0.makeFunc rfl rfl) rfl ?_
          obtain ⟨yv4, hyv4, hr⟩ := hr
          refine WL.callRO guard_none rfl (YC.of E50 rfl) (L_slices_ContainsFunc_uint8_uint8_components_Embedded_c1 _ _ _ _ _ _ hyv4) rfl ((yv3h.mono Gm2le)) (Lo.sub_cons rfl (Lo.sub_nil _)) (fun i hi => by simp only [List.map_cons, List.map_nil, List.mem_cons, List.not_mem_nil, or_false] at hi; subst hi; exact rfl) hz (fun yv4v Gv4 Gv4le yv4post => ?_)
          subst yv4post
          refine WL.nil ?_
          refine WE.then ?_
          refine WC.cond (b := yv4) rfl (fun hc3 => ?_) (fun hc3 => ?_)
          · replace hr := hr.pos hc3
            refine WC.region ?_
            refine WL.y0' guard_none (Y0.move rfl) rfl ?_
            refine WL.y0' guard_none (Y0.loadL 103610 sc5 rfl rfl rfl) rfl ?_
            refine WL.litR (e := 5) (r := (Rp.int .u8)) (vs := #[(0, .int .u8 x1)]) (cs := [.int .u8 x1] ++ ([])) ([x1] : List Int) guard_none rfl rfl rfl rfl (by decide) (fun _ => by kernel_rfl) ⟨[.int .u8 x1], [], rfl, rfl, rfl⟩ (key := 999) rfl (by rw [hL0]; rfl) (fun p1 Gv5 Gv5le p1h => ?_)
            obtain ⟨hsm1, hr⟩ := hr
            refine WL.appendR (r := (Rp.int .u8)) 1008 guard_none rfl Try.underlying33 el5 rfl (by decide) rfl rfl (result2h.mono (Mem.le_trans Gv4le Gv5le)) rfl (by rw [hL0]; rfl) result2ht p1h hsm1 (fun p2 p2c p2tk Gv6 Gv6le p2h p2ht => ?_)
            refine WL.y0' guard_none (Y0.assign rfl) rfl ?_
            refine WL.nil ?_
            refine WE.inBlock ?_
            refine WE.then ?_
            refine WC.region ?_
            refine WL.y0' guard_none (Y0.add rfl rfl) rfl ?_
            refine WL.y0' guard_none (Y0.move rfl) rfl ?_
            refine WL.nil ?_
            refine WE.backR ⟨(result2 ++ [x1]), p2, p2c, p2tk, IntKind.i64.wrap (v22_1 + 1), Gv6⟩ hr ⟨(Mem.le_trans (Mem.le_trans (Mem.le_trans Gm2le Gv4le) Gv5le) Gv6le), p2h, p2ht⟩ (Fr.sub_cons rfl (Fr.sub_cons rfl (Fr.sub_cons rfl (Fr.sub_cons rfl (Fr.sub_cons rfl (Fr.sub_nil _)))))) ?_
            · intro w hs
              exact hs.weaken (Lo.sub_cons rfl (Lo.sub_nil _))
          · replace hr := hr.neg (Bool.eq_false_iff.1 hc3)
            refine WC.skip ?_
            refine WE.inBlock ?_
            refine WE.then ?_
            refine WC.region ?_
            refine WL.y0' guard_none (Y0.add rfl rfl) rfl ?_
            refine WL.y0' guard_none (Y0.move rfl) rfl ?_
            refine WL.nil ?_
            refine WE.backR ⟨result2, result2p, result2c, result2tk, IntKind.i64.wrap (v22_1 + 1), Gv4⟩ hr ⟨(Mem.le_trans Gm2le Gv4le), (result2h.mono Gv4le), result2ht⟩ (Fr.sub_cons rfl (Fr.sub_cons rfl (Fr.sub_cons rfl (Fr.sub_cons rfl (Fr.sub_cons rfl (Fr.sub_nil _)))))) ?_
            · intro w hs
              exact hs.weaken (Lo.sub_cons rfl (Lo.sub_nil _))
        · replace hr := hr.neg hc2
          refine WC.exit ?_
          refine WE.thenExit ?_
          refine WE.thenExit ?_
          refine WE.exitHere ?_
          refine WE.endH ⟨result2, result2p, result2c, result2tk, Gm2⟩ ⟨Gm2le, result2h, result2ht, hr⟩ (Fr.sub_cons rfl (Fr.sub_nil _)) ?_
          · intro w hs
            exact hs.weaken (Lo.sub_cons rfl (Lo.sub_nil _))
    · rintro ⟨result1, result1p, result1c, result1tk, Gm1⟩ ⟨Gm1le, result1h, result1ht, hr⟩
      refine WE.then ?_
      refine WC.seq ?_
      refine WC.region ?_
      refine WL.y0' guard_none (Y0.move rfl) rfl ?_
      refine WL.y0' guard_none (Y0.assign rfl) rfl ?_
      refine WL.y0' guard_none (Y0.assign rfl) rfl ?_
      refine WL.nil ?_
      refine WE.then ?_
      refine WC.ret ?_
      replace hr : _ = r := hr
      subst hr
      exact WE.ret2 rfl rfl rfl ⟨_, _, rfl, result1h⟩
theorem L_monomial_Lcm (a1 : (Fin 8 → Int)) (b1 : (Fin 8 → Int)) (r : (Fin 8 → Int)) (hr : (monomial_Lcm a1 b1).Ret r) : Ctr Try.prog 77 #[.agg (vecG (Value.int .i64) 8 a1).toArray, .agg (vecG (Value.int .i64) 8 b1).toArray] (fun G => True) (fun G v => v = .agg (vecG (Value.int .i64) 8 r).toArray) := by
  refine Ctr.enter (args := [_, _]) (N := 20) Try.func77 rfl rfl rfl (fun w0 G0 hL0 hpre => ?_)
  refine WC.seq ?_
  refine WC.region ?_
  refine WL.box 2 guard_none rfl rfl (fun b2 => ?_)
  refine WL.box 3 guard_none rfl rfl (fun b3 => ?_)
  refine WL.alloc 4 guard_none z48 rfl (fun b4 => ?_)
  refine WL.nil ?_
  refine WE.then ?_
  refine WC.seq ?_
  refine WC.seq ?_
  refine WC.region ?_
  refine WL.y0' guard_none (Y0.move rfl) rfl ?_
  refine WL.nil ?_
  refine WE.then ?_
  refine WC.meetH (fun (gx : (Fin 8 → Int) × Mem) => match gx with | ⟨bx1, Gm1⟩ => [(2, .pointer (some ⟨b2, 0, none⟩)), (4, .pointer (some ⟨b4, 0, none⟩))]) (fun (gx : (Fin 8 → Int) × Mem) => match gx with | ⟨bx1, Gm1⟩ => Mem.le G0 Gm1 ∧ (monomial_Lcm_k1 bx1).Ret r) (fun (gx : (Fin 8 → Int) × Mem) => match gx with | ⟨bx1, Gm1⟩ => St w0 G0 Gm1 [(2, some ⟨b2, .cells (vecG (Value.int .i64) 8 bx1).toArray 48 (0, 0), 0⟩), (4, some ⟨b4, .cells (vecG (Value.int .i64) 8 (fun _ => 0)).toArray 48 (0, 0), 0⟩)]) ?_ ?_
  · refine WC.block ?_
    let Phi1 : (Fin 8 → Int) → Prop := fun oo => ((fun ov => match ov with | bx1 => monomial_Lcm_k1 bx1 : (Fin 8 → Int) → Comp (Fin 8 → Int)) oo).wp (fun a => a = r)
    replace hr : (Comp.loop _ _).wp Phi1 := hr
    refine WC.loopR (Φ := Phi1) (fun (gx : Int × (Fin 8 → Int) × Mem) => match gx with | ⟨v6_1, bx2, Gm2⟩ => ((v6_1, bx2) : Int × (Fin 8 → Int))) (fun (gx : Int × (Fin 8 → Int) × Mem) => match gx with | ⟨v6_1, bx2, Gm2⟩ => [(2, .pointer (some ⟨b2, 0, none⟩)), (3, .pointer (some ⟨b3, 0, none⟩)), (4, .pointer (some ⟨b4, 0, none⟩)), (6, .int .i64 v6_1)]) (fun (gx : Int × (Fin 8 → Int) × Mem) => match gx with | ⟨v6_1, bx2, Gm2⟩ => Mem.le G0 Gm2) (fun (gx : Int × (Fin 8 → Int) × Mem) => match gx with | ⟨v6_1, bx2, Gm2⟩ => St w0 G0 Gm2 [(2, some ⟨b2, .cells (vecG (Value.int .i64) 8 bx2).toArray 48 (0, 0), 0⟩), (3, some ⟨b3, .cells (vecG (Value.int .i64) 8 b1).toArray 48 (0, 0), 0⟩), (4, some ⟨b4, .cells (vecG (Value.int .i64) 8 (fun _ => 0)).toArray 48 (0, 0), 0⟩)]) ⟨0, a1, G0⟩ hr (Fr.sub_cons rfl (Fr.sub_cons rfl (Fr.sub_cons rfl (Fr.sub_cons rfl (Fr.sub_nil _))))) (Mem.le_refl _) ?_ ?_
    · intro w hs
      exact hs.weaken (Lo.sub_cons rfl (Lo.sub_cons rfl (Lo.sub_cons rfl (Lo.sub_nil _))))
    · intro Aq1 gx hx hr
      obtain ⟨v6_1, bx2, Gm2⟩ := gx
      have Gm2le := hx
      refine WC.seq ?_
      refine WC.region ?_
      refine WL.y0' guard_none (Y0.lss rfl rfl) rfl ?_
      refine WL.nil ?_
      refine WE.then ?_
      refine WC.seq ?_
      refine WC.condD (p := v6_1 < 8) rfl (fun hc1 => ?_) (fun hc1 => ?_)
      · replace hr := hr.pos hc1
        refine WC.skip ?_
        refine WE.then ?_
        refine WC.seq ?_
        refine WC.block ?_
        refine WC.seq ?_
        refine WC.region ?_
        refine WL.y0' guard_none (Y0.move rfl) rfl ?_
        refine WL.y0' guard_none (Y0.assign rfl) rfl ?_
        refine WL.nil ?_
        refine WE.then ?_
        refine WC.drawn [false, false, false, false, false, false, false, false, false] mix (by kernel_rfl) (fun hb => ?_)
        refine Chain.y0 guard_none (fun _ hle => Y0.move rfl) ?_
        refine Chain.y0 guard_none (fun _ hle => Y0.move rfl) ?_
        obtain ⟨hi1, hr⟩ := hr
        refine Chain.y0 guard_none (fun _ hle => Y0.idxA0 Try.underlying48 sz3 rfl rfl hi1) ?_
        refine Chain.y0 guard_none (fun _ hle => Y0.loadL 2 sc3 rfl rfl (vecG_at _ _ _ hi1)) ?_
        refine Chain.y0 guard_none (fun _ hle => Y0.move rfl) ?_
        obtain ⟨hi2, hr⟩ := hr
        refine Chain.y0 guard_none (fun _ hle => Y0.idxA0 Try.underlying48 sz3 rfl rfl hi2) ?_
        refine Chain.y0 guard_none (fun _ hle => Y0.loadL 3 sc3 rfl rfl (vecG_at _ _ _ hi2)) ?_
        refine Chain.y0 guard_none (fun _ hle => Y0.max2 rfl rfl) ?_
        obtain ⟨hi3, hr⟩ := hr
        refine Chain.y0 guard_none (fun _ hle => Y0.idxA0 Try.underlying48 sz3 rfl rfl hi3) ?_
        refine Chain.tail0 hb ?_
        refine WL.storeL 2 (vecG (Value.int .i64) 8 (setF bx2 v6_1.toNat (if (getF bx2 v6_1) < (getF b1 v6_1) then (getF b1 v6_1) else (getF bx2 v6_1)))).toArray guard_none sz3 rfl rfl rfl (by first | (rw [vecG_size]; omega) | (show _ < (vecG _ _ _).toArray.size; rw [vecG_size]; omega)) rfl (vecG_put _ _ _ _ _) ?_
        refine WL.nil ?_
        refine WE.nx ?_
        refine WE.inBlock ?_
        refine WE.then ?_
        refine WC.region ?_
        refine WL.y0' guard_none (Y0.add rfl rfl) rfl ?_
        refine WL.y0' guard_none (Y0.move rfl) rfl ?_
        refine WL.nil ?_
        refine WE.backR ⟨IntKind.i64.wrap (v6_1 + 1), setF bx2 v6_1.toNat (if (getF bx2 v6_1) < (getF b1 v6_1) then (getF b1 v6_1) else (getF bx2 v6_1)), Gm2⟩ hr Gm2le (Fr.sub_cons rfl (Fr.sub_cons rfl (Fr.sub_cons rfl (Fr.sub_cons rfl (Fr.sub_nil _))))) ?_
        · intro w hs
          exact hs.weaken (Lo.sub_cons rfl (Lo.sub_cons rfl (Lo.sub_cons rfl (Lo.sub_nil _))))
      · replace hr := hr.neg hc1
        refine WC.exit ?_
        refine WE.thenExit ?_
        refine WE.thenExit ?_
        refine WE.exitHere ?_
        refine WE.endH ⟨bx2, Gm2⟩ ⟨Gm2le, hr⟩ (Fr.sub_cons rfl (Fr.sub_cons rfl (Fr.sub_nil _))) ?_
        · intro w hs
          exact hs.weaken (Lo.sub_cons rfl (Lo.sub_cons rfl (Lo.sub_nil _)))
  · rintro ⟨bx1, Gm1⟩ ⟨Gm1le, hr⟩
    refine WE.then ?_
    refine WC.seq ?_
    refine WC.region ?_
    refine WL.y0' guard_none (Y0.loadLA 2 ag48 rfl rfl (vecG_size _ _ _)) rfl ?_
    refine WL.storeLA 4 guard_none sz48 rfl rfl rfl (vecG_size _ _ _) (vecG_size _ _ _) (fun u hu => Rp.one (Rp.vec .i64 8) (G := Gm1) (x := bx1) (cs := vecG (Value.int .i64) 8 bx1) rfl u (by simpa using hu)) ?_
    refine WL.nil ?_
    refine WE.then ?_
    refine WC.ret ?_
    replace hr : _ = r := hr
    subst hr
    exact WE.ret1 rfl (RV.cellA (i := 4) ag48 rfl rfl (vecG_size _ _ _)) rfl
theorem L_components_meet (ideals1 : (List (List (Fin 8 → Int)))) (ideals1p : Option Addr) (ideals1c : Nat) (r : (List (Fin 8 → Int))) (hr : (components_meet ideals1).Ret r) : Ctr Try.prog 52 #[.slice ideals1p ideals1.length ideals1c] (fun G => SlR (Rp.sl (Rp.vec .i64 8)) G (.slice ideals1p ideals1.length ideals1c) ideals1) (fun G v => ∃ zp zc, v = .slice zp r.length zc ∧ SlR (Rp.vec .i64 8) G (.slice zp r.length zc) r) := by
  refine Ctr.enter (args := [_]) (N := 46) Try.func52 rfl rfl rfl (fun w0 G0 hL0 hpre => ?_)
  have ideals1h := hpre
  refine WC.seq ?_
  refine WC.region ?_
  refine WL.y0' guard_none (Y0.assign rfl) rfl ?_
  refine WL.nil ?_
  refine WE.then ?_
  refine WC.seq ?_
  refine WC.region ?_
  refine WL.y0' guard_none (Y0.move rfl) rfl ?_
  obtain ⟨x1, hx1, hr⟩ := hr
  refine WL.y0' guard_none (Y0.idxR Try.underlying74 sz28 ideals1h rfl rfl hx1) rfl ?_
  obtain ⟨p1, p1c, p1e, p1h⟩ := AtK.sl (SlR.at ideals1h hx1)
  refine WL.y0' guard_none (Y0.loadG sc28 rfl (p1e)) rfl ?_
  obtain ⟨yv1, hyv1, hr⟩ := hr
  refine WL.call guard_none rfl (YC.of E55 rfl) (L_monomial_Minimal _ _ _ _ hyv1) rfl (p1h) (fun yv1v Gv1 Gv1le yv1post => ?_)
  obtain ⟨yv1p, yv1c, rfl, yv1h⟩ := yv1post
  refine WL.y0' guard_none (Y0.assign rfl) rfl ?_
  refine WL.nil ?_
  refine WE.then ?_
  refine WC.seq ?_
  refine WC.seq ?_
  refine WC.region ?_
  refine WL.y0' guard_none (Y0.move rfl) rfl ?_
  obtain ⟨hs1, hr⟩ := hr
  refine WL.sliceRL (r := (Rp.sl (Rp.vec .i64 8))) guard_none rfl Try.underlying74 sz28 rfl (ideals1h.mono Gv1le) rfl rfl hs1 (fun p2 p2c p2h => ?_)
  refine WL.y0' guard_none (Y0.lenR Try.underlying74 p2h rfl) rfl ?_
  refine WL.y0' guard_none (Y0.move rfl) rfl ?_
  refine WL.nil ?_
  refine WE.then ?_
  refine WC.meetH (fun (gx : (List (Fin 8 → Int)) × Option Addr × Nat × Mem) => match gx with | ⟨result1, result1p, result1c, Gm1⟩ => [(3, .slice result1p result1.length result1c)]) (fun (gx : (List (Fin 8 → Int)) × Option Addr × Nat × Mem) => match gx with | ⟨result1, result1p, result1c, Gm1⟩ => Mem.le Gv1 Gm1 ∧ SlR (Rp.vec .i64 8) Gm1 (.slice result1p result1.length result1c) result1 ∧ (components_meet_k1 result1).Ret r) (fun (gx : (List (Fin 8 → Int)) × Option Addr × Nat × Mem) => match gx with | ⟨result1, result1p, result1c, Gm1⟩ => St w0 G0 Gm1 []) ?_ ?_
  · refine WC.block ?_
    let Phi1 : (((List (Fin 8 → Int)))) → Prop := fun oo => ((fun ov => match ov with | result1 => components_meet_k1 result1 : (((List (Fin 8 → Int)))) → Comp ((List (Fin 8 → Int)))) oo).wp (fun a => a = r)
    replace hr : (Comp.loop _ _).wp Phi1 := hr
    refine WC.loopR (Φ := Phi1) (fun (gx : (List (Fin 8 → Int)) × Option Addr × Nat × Int × Mem) => match gx with | ⟨result2, result2p, result2c, v18_1, Gm2⟩ => ((result2, v18_1) : (List (Fin 8 → Int)) × Int)) (fun (gx : (List (Fin 8 → Int)) × Option Addr × Nat × Int × Mem) => match gx with | ⟨result2, result2p, result2c, v18_1, Gm2⟩ => [(3, .slice result2p result2.length result2c), (16, .slice p2 ((ideals1.take (ideals1.length : Int).toNat).drop (1 : Int).toNat).length p2c), (17, .int .i64 (((ideals1.take (ideals1.length : Int).toNat).drop (1 : Int).toNat).length : Int)), (18, .int .i64 v18_1)]) (fun (gx : (List (Fin 8 → Int)) × Option Addr × Nat × Int × Mem) => match gx with | ⟨result2, result2p, result2c, v18_1, Gm2⟩ => Mem.le Gv1 Gm2 ∧ SlR (Rp.vec .i64 8) Gm2 (.slice result2p result2.length result2c) result2) (fun (gx : (List (Fin 8 → Int)) × Option Addr × Nat × Int × Mem) => match gx with | ⟨result2, result2p, result2c, v18_1, Gm2⟩ => St w0 G0 Gm2 []) ⟨yv1, yv1p, yv1c, 0, Gv1⟩ hr (Fr.sub_cons rfl (Fr.sub_cons rfl (Fr.sub_cons rfl (Fr.sub_cons rfl (Fr.sub_nil _))))) ⟨(Mem.le_refl _), yv1h⟩ ?_ ?_
    · intro w hs
      exact hs.weaken (Lo.sub_nil _)
    · intro Aq1 gx hx hr
      obtain ⟨result2, result2p, result2c, v18_1, Gm2⟩ := gx
      obtain ⟨Gm2le, result2h⟩ := hx
      refine WC.seq ?_
      refine WC.region ?_
      refine WL.y0' guard_none (Y0.lss rfl rfl) rfl ?_
      refine WL.nil ?_
      refine WE.then ?_
      refine WC.seq ?_
      refine WC.condD (p := v18_1 < (((ideals1.take (ideals1.length : Int).toNat).drop (1 : Int).toNat).length : Int)) rfl (fun hc1 => ?_) (fun hc1 => ?_)
      · replace hr := hr.pos hc1
        refine WC.skip ?_
        refine WE.then ?_
        refine WC.seq ?_
        refine WC.block ?_
        refine WC.seq ?_
        refine WC.region ?_
        obtain ⟨x2, hx2, hr⟩ := hr
        refine WL.y0' guard_none (Y0.idxR Try.underlying74 sz28 (p2h.mono Gm2le) rfl rfl hx2) rfl ?_
        obtain ⟨p3, p3c, p3e, p3h⟩ := AtK.sl (At.mono (SlR.at p2h hx2) Gm2le)
        refine WL.y0' guard_none (Y0.loadG sc28 rfl (p3e)) rfl ?_
        refine WL.y0' guard_none (Y0.assign rfl) rfl ?_
        refine WL.nil ?_
        refine WE.then ?_
        refine WC.seq ?_
        refine WC.region ?_
        refine WL.y0' guard_none (Y0.assign rfl) rfl ?_
        refine WL.nil ?_
        refine WE.then ?_
        refine WC.seq ?_
        refine WC.seq ?_
        refine WC.region ?_
        refine WL.y0' guard_none (Y0.move rfl) rfl ?_
        refine WL.y0' guard_none (Y0.lenR Try.underlying28 result2h rfl) rfl ?_
        refine WL.y0' guard_none (Y0.move rfl) rfl ?_
        refine WL.nil ?_
        refine WE.then ?_
        refine WC.meetH (fun (gx : (List (Fin 8 → Int)) × Option Addr × Nat × Option Ow × Mem) => match gx with | ⟨all1, all1p, all1c, all1tk, Gm3⟩ => [(6, .slice all1p all1.length all1c), (16, .slice p2 ((ideals1.take (ideals1.length : Int).toNat).drop (1 : Int).toNat).length p2c), (17, .int .i64 (((ideals1.take (ideals1.length : Int).toNat).drop (1 : Int).toNat).length : Int)), (18, .int .i64 v18_1)]) (fun (gx : (List (Fin 8 → Int)) × Option Addr × Nat × Option Ow × Mem) => match gx with | ⟨all1, all1p, all1c, all1tk, Gm3⟩ => Mem.le Gm2 Gm3 ∧ SlR (Rp.vec .i64 8) Gm3 (.slice all1p all1.length all1c) all1 ∧ Tok 8 48 (.slice all1p all1.length all1c) all1.length all1tk ∧ (components_meet_k3 v18_1 all1).wp (Out Aq1 Phi1)) (fun (gx : (List (Fin 8 → Int)) × Option Addr × Nat × Option Ow × Mem) => match gx with | ⟨all1, all1p, all1c, all1tk, Gm3⟩ => St w0 G0 Gm3 [(1006, all1tk)]) ?_ ?_
        · refine WC.block ?_
          let Phi2 : (((List (Fin 8 → Int)))) → Prop := fun oo => ((fun ov => match ov with | all1 => components_meet_k3 v18_1 all1 : (((List (Fin 8 → Int)))) → Comp (((List (Fin 8 → Int)) × Int) ⊕ (((List (Fin 8 → Int)))))) oo).wp (Out Aq1 Phi1)
          replace hr : (Comp.loop _ _).wp Phi2 := hr
          refine WC.loopR (Φ := Phi2) (fun (gx : (List (Fin 8 → Int)) × Option Addr × Nat × Option Ow × Int × Mem) => match gx with | ⟨all2, all2p, all2c, all2tk, v24_1, Gm4⟩ => ((all2, v24_1) : (List (Fin 8 → Int)) × Int)) (fun (gx : (List (Fin 8 → Int)) × Option Addr × Nat × Option Ow × Int × Mem) => match gx with | ⟨all2, all2p, all2c, all2tk, v24_1, Gm4⟩ => [(5, .slice p3 x2.length p3c), (6, .slice all2p all2.length all2c), (16, .slice p2 ((ideals1.take (ideals1.length : Int).toNat).drop (1 : Int).toNat).length p2c), (17, .int .i64 (((ideals1.take (ideals1.length : Int).toNat).drop (1 : Int).toNat).length : Int)), (18, .int .i64 v18_1), (22, .slice result2p result2.length result2c), (23, .int .i64 (result2.length : Int)), (24, .int .i64 v24_1)]) (fun (gx : (List (Fin 8 → Int)) × Option Addr × Nat × Option Ow × Int × Mem) => match gx with | ⟨all2, all2p, all2c, all2tk, v24_1, Gm4⟩ => Mem.le Gm2 Gm4 ∧ SlR (Rp.vec .i64 8) Gm4 (.slice all2p all2.length all2c) all2 ∧ Tok 8 48 (.slice all2p all2.length all2c) all2.length all2tk) (fun (gx : (List (Fin 8 → Int)) × Option Addr × Nat × Option Ow × Int × Mem) => match gx with | ⟨all2, all2p, all2c, all2tk, v24_1, Gm4⟩ => St w0 G0 Gm4 [(1006, all2tk)]) ⟨[], none, 0, none, 0, Gm2⟩ hr (Fr.sub_cons rfl (Fr.sub_cons rfl (Fr.sub_cons rfl (Fr.sub_cons rfl (Fr.sub_cons rfl (Fr.sub_cons rfl (Fr.sub_cons rfl (Fr.sub_cons rfl (Fr.sub_nil _))))))))) ⟨(Mem.le_refl _), (SlR.nil _ _), Tok.full⟩ ?_ ?_
          · intro w hs
            exact hs.weaken (Lo.sub_no (Lo.sub_nil _))
          · intro Aq2 gx hx hr
            obtain ⟨all2, all2p, all2c, all2tk, v24_1, Gm4⟩ := gx
            obtain ⟨Gm4le, all2h, all2ht⟩ := hx
            refine WC.seq ?_
            refine WC.region ?_
            refine WL.y0' guard_none (Y0.lss rfl rfl) rfl ?_
            refine WL.nil ?_
            refine WE.then ?_
            refine WC.seq ?_
            refine WC.condD (p := v24_1 < (result2.length : Int)) rfl (fun hc2 => ?_) (fun hc2 => ?_)
            · replace hr := hr.pos hc2
              refine WC.skip ?_
              refine WE.then ?_
              refine WC.seq ?_
              refine WC.block ?_
              refine WC.seq ?_
              refine WC.region ?_
              obtain ⟨x3, hx3, hr⟩ := hr
              refine WL.y0' guard_none (Y0.idxR Try.underlying28 sz48 (result2h.mono Gm4le) rfl rfl hx3) rfl ?_
              refine WL.y0' guard_none (Y0.loadGA _ ag48 rfl (vecG_size _ _ _) (AtK.vec (At.mono (SlR.at result2h hx3) Gm4le))) rfl ?_
              refine WL.alloc 8 guard_none z48 rfl (fun b1 => ?_)
              refine WL.storeLA 8 guard_none sz48 rfl rfl rfl (vecG_size _ _ _) (vecG_size _ _ _) (fun u hu => Rp.one (Rp.vec .i64 8) (G := Gm4) (x := x3) (cs := vecG (Value.int .i64) 8 x3) rfl u (by simpa using hu)) ?_
              refine WL.nil ?_
              refine WE.then ?_
              refine WC.seq ?_
              refine WC.region ?_
              refine WL.y0' guard_none (Y0.move rfl) rfl ?_
              refine WL.y0' guard_none (Y0.lenR Try.underlying28 (p3h.mono Gm4le) rfl) rfl ?_
              refine WL.y0' guard_none (Y0.move rfl) rfl ?_
              refine WL.nil ?_
              refine WE.then ?_
              refine WC.meetH (fun (gx : (List (Fin 8 → Int)) × Option Addr × Nat × Option Ow × Mem) => match gx with | ⟨all3, all3p, all3c, all3tk, Gm5⟩ => [(5, .slice p3 x2.length p3c), (6, .slice all3p all3.length all3c), (16, .slice p2 ((ideals1.take (ideals1.length : Int).toNat).drop (1 : Int).toNat).length p2c), (17, .int .i64 (((ideals1.take (ideals1.length : Int).toNat).drop (1 : Int).toNat).length : Int)), (18, .int .i64 v18_1), (22, .slice result2p result2.length result2c), (23, .int .i64 (result2.length : Int)), (24, .int .i64 v24_1)]) (fun (gx : (List (Fin 8 → Int)) × Option Addr × Nat × Option Ow × Mem) => match gx with | ⟨all3, all3p, all3c, all3tk, Gm5⟩ => Mem.le Gm4 Gm5 ∧ SlR (Rp.vec .i64 8) Gm5 (.slice all3p all3.length all3c) all3 ∧ Tok 8 48 (.slice all3p all3.length all3c) all3.length all3tk ∧ (components_meet_k5 v24_1 all3).wp (Out Aq2 Phi2)) (fun (gx : (List (Fin 8 → Int)) × Option Addr × Nat × Option Ow × Mem) => match gx with | ⟨all3, all3p, all3c, all3tk, Gm5⟩ => St w0 G0 Gm5 [(1006, all3tk)]) ?_ ?_
              · refine WC.block ?_
                let Phi3 : (((List (Fin 8 → Int)))) → Prop := fun oo => ((fun ov => match ov with | all3 => components_meet_k5 v24_1 all3 : (((List (Fin 8 → Int)))) → Comp (((List (Fin 8 → Int)) × Int) ⊕ (((List (Fin 8 → Int)))))) oo).wp (Out Aq2 Phi2)
                replace hr : (Comp.loop _ _).wp Phi3 := hr
                refine WC.loopR (Φ := Phi3) (fun (gx : (List (Fin 8 → Int)) × Option Addr × Nat × Option Ow × Int × Mem) => match gx with | ⟨all4, all4p, all4c, all4tk, v30_1, Gm6⟩ => ((all4, v30_1) : (List (Fin 8 → Int)) × Int)) (fun (gx : (List (Fin 8 → Int)) × Option Addr × Nat × Option Ow × Int × Mem) => match gx with | ⟨all4, all4p, all4c, all4tk, v30_1, Gm6⟩ => [(5, .slice p3 x2.length p3c), (6, .slice all4p all4.length all4c), (8, .pointer (some ⟨b1, 0, none⟩)), (16, .slice p2 ((ideals1.take (ideals1.length : Int).toNat).drop (1 : Int).toNat).length p2c), (17, .int .i64 (((ideals1.take (ideals1.length : Int).toNat).drop (1 : Int).toNat).length : Int)), (18, .int .i64 v18_1), (22, .slice result2p result2.length result2c), (23, .int .i64 (result2.length : Int)), (24, .int .i64 v24_1), (28, .slice p3 x2.length p3c), (29, .int .i64 (x2.length : Int)), (30, .int .i64 v30_1)]) (fun (gx : (List (Fin 8 → Int)) × Option Addr × Nat × Option Ow × Int × Mem) => match gx with | ⟨all4, all4p, all4c, all4tk, v30_1, Gm6⟩ => Mem.le Gm4 Gm6 ∧ SlR (Rp.vec .i64 8) Gm6 (.slice all4p all4.length all4c) all4 ∧ Tok 8 48 (.slice all4p all4.length all4c) all4.length all4tk) (fun (gx : (List (Fin 8 → Int)) × Option Addr × Nat × Option Ow × Int × Mem) => match gx with | ⟨all4, all4p, all4c, all4tk, v30_1, Gm6⟩ => St w0 G0 Gm6 [(8, some ⟨b1, .cells (vecG (Value.int .i64) 8 x3).toArray 48 (0, 0), 0⟩), (1006, all4tk)]) ⟨all2, all2p, all2c, all2tk, 0, Gm4⟩ hr (Fr.sub_cons rfl (Fr.sub_cons rfl (Fr.sub_cons rfl (Fr.sub_cons rfl (Fr.sub_cons rfl (Fr.sub_cons rfl (Fr.sub_cons rfl (Fr.sub_cons rfl (Fr.sub_cons rfl (Fr.sub_cons rfl (Fr.sub_cons rfl (Fr.sub_cons rfl (Fr.sub_nil _))))))))))))) ⟨(Mem.le_refl _), all2h, all2ht⟩ ?_ ?_
                · intro w hs
                  exact hs.weaken (Lo.sub_cons rfl (Lo.sub_cons rfl (Lo.sub_nil _)))
                · intro Aq3 gx hx hr
                  obtain ⟨all4, all4p, all4c, all4tk, v30_1, Gm6⟩ := gx
                  obtain ⟨Gm6le, all4h, all4ht⟩ := hx
                  refine WC.seq ?_
                  refine WC.region ?_
                  refine WL.y0' guard_none (Y0.lss rfl rfl) rfl ?_
                  refine WL.nil ?_
                  refine WE.then ?_
                  refine WC.seq ?_
                  refine WC.condD (p := v30_1 < (x2.length : Int)) rfl (fun hc3 => ?_) (fun hc3 => ?_)
                  · replace hr := hr.pos hc3
                    refine WC.skip ?_
                    refine WE.then ?_
                    refine WC.seq ?_
                    refine WC.block ?_
                    refine WC.seq ?_
                    refine WC.region ?_
                    obtain ⟨x4, hx4, hr⟩ := hr
                    refine WL.y0' guard_none (Y0.idxR Try.underlying28 sz48 (p3h.mono (Mem.le_trans Gm4le Gm6le)) rfl rfl hx4) rfl ?_
                    refine WL.y0' guard_none (Y0.loadGA _ ag48 rfl (vecG_size _ _ _) (AtK.vec (At.mono (SlR.at p3h hx4) (Mem.le_trans Gm4le Gm6le)))) rfl ?_
                    refine WL.alloc 10 guard_none z48 rfl (fun b2 => ?_)
                    refine WL.storeLA 10 guard_none sz48 rfl rfl rfl (vecG_size _ _ _) (vecG_size _ _ _) (fun u hu => Rp.one (Rp.vec .i64 8) (G := Gm6) (x := x4) (cs := vecG (Value.int .i64) 8 x4) rfl u (by simpa using hu)) ?_
                    refine WL.nil ?_
                    refine WE.then ?_
                    refine WC.region ?_
                    refine WL.y0' guard_none (Y0.move rfl) rfl ?_
                    refine WL.y0' guard_none (Y0.loadLA 8 ag48 rfl rfl (vecG_size _ _ _)) rfl ?_
                    refine WL.y0' guard_none (Y0.loadLA 10 ag48 rfl rfl (vecG_size _ _ _)) rfl ?_
                    obtain ⟨yv3, hyv3, hr⟩ := hr
                    refine WL.call0 guard_none rfl (YC.of E77 rfl) (L_monomial_Lcm _ _ _ hyv3) rfl (trivial) ?_
                    refine WL.litR (e := 48) (r := (Rp.vec .i64 8)) (vs := #[(0, .agg (vecG (Value.int .i64) 8 yv3).toArray)]) (cs := (vecG (Value.int .i64) 8 yv3) ++ ([])) ([yv3] : List (Fin 8 → Int)) guard_none rfl rfl rfl rfl (by decide) (fun _ => by kernel_rfl) ⟨vecG (Value.int .i64) 8 yv3, [], rfl, rfl, rfl⟩ (key := 999) rfl (by rw [hL0]; rfl) (fun p4 Gv4 Gv4le p4h => ?_)
                    obtain ⟨hsm1, hr⟩ := hr
                    refine WL.appendR (r := (Rp.vec .i64 8)) 1006 guard_none rfl Try.underlying28 el48 rfl (by decide) rfl rfl (all4h.mono Gv4le) rfl (by rw [hL0]; rfl) all4ht p4h hsm1 (fun p5 p5c p5tk Gv5 Gv5le p5h p5ht => ?_)
                    refine WL.y0' guard_none (Y0.assign rfl) rfl ?_
                    refine WL.nil ?_
                    refine WE.inBlock ?_
                    refine WE.then ?_
                    refine WC.region ?_
                    refine WL.y0' guard_none (Y0.add rfl rfl) rfl ?_
                    refine WL.y0' guard_none (Y0.move rfl) rfl ?_
                    refine WL.nil ?_
                    refine WE.backR ⟨(all4 ++ [yv3]), p5, p5c, p5tk, IntKind.i64.wrap (v30_1 + 1), Gv5⟩ hr ⟨(Mem.le_trans (Mem.le_trans Gm6le Gv4le) Gv5le), p5h, p5ht⟩ (Fr.sub_cons rfl (Fr.sub_cons rfl (Fr.sub_cons rfl (Fr.sub_cons rfl (Fr.sub_cons rfl (Fr.sub_cons rfl (Fr.sub_cons rfl (Fr.sub_cons rfl (Fr.sub_cons rfl (Fr.sub_cons rfl (Fr.sub_cons rfl (Fr.sub_cons rfl (Fr.sub_nil _))))))))))))) ?_
                    · intro w hs
                      exact hs.weaken (Lo.sub_cons rfl (Lo.sub_cons rfl (Lo.sub_nil _)))
                  · replace hr := hr.neg hc3
                    refine WC.exit ?_
                    refine WE.thenExit ?_
                    refine WE.thenExit ?_
                    refine WE.exitHere ?_
                    refine WE.endH ⟨all4, all4p, all4c, all4tk, Gm6⟩ ⟨Gm6le, all4h, all4ht, hr⟩ (Fr.sub_cons rfl (Fr.sub_cons rfl (Fr.sub_cons rfl (Fr.sub_cons rfl (Fr.sub_cons rfl (Fr.sub_cons rfl (Fr.sub_cons rfl (Fr.sub_cons rfl (Fr.sub_nil _))))))))) ?_
                    · intro w hs
                      exact hs.weaken (Lo.sub_cons rfl (Lo.sub_nil _))
              · rintro ⟨all3, all3p, all3c, all3tk, Gm5⟩ ⟨Gm5le, all3h, all3ht, hr⟩
                refine WE.inBlock ?_
                refine WE.then ?_
                refine WC.region ?_
                refine WL.y0' guard_none (Y0.add rfl rfl) rfl ?_
                refine WL.y0' guard_none (Y0.move rfl) rfl ?_
                refine WL.nil ?_
                refine WE.backR ⟨all3, all3p, all3c, all3tk, IntKind.i64.wrap (v24_1 + 1), Gm5⟩ hr ⟨(Mem.le_trans Gm4le Gm5le), all3h, all3ht⟩ (Fr.sub_cons rfl (Fr.sub_cons rfl (Fr.sub_cons rfl (Fr.sub_cons rfl (Fr.sub_cons rfl (Fr.sub_cons rfl (Fr.sub_cons rfl (Fr.sub_cons rfl (Fr.sub_nil _))))))))) ?_
                · intro w hs
                  exact hs.weaken (Lo.sub_cons rfl (Lo.sub_nil _))
            · replace hr := hr.neg hc2
              refine WC.exit ?_
              refine WE.thenExit ?_
              refine WE.thenExit ?_
              refine WE.exitHere ?_
              refine WE.endH ⟨all2, all2p, all2c, all2tk, Gm4⟩ ⟨Gm4le, all2h, all2ht, hr⟩ (Fr.sub_cons rfl (Fr.sub_cons rfl (Fr.sub_cons rfl (Fr.sub_cons rfl (Fr.sub_nil _))))) ?_
              · intro w hs
                exact hs.weaken (Lo.sub_cons rfl (Lo.sub_nil _))
        · rintro ⟨all1, all1p, all1c, all1tk, Gm3⟩ ⟨Gm3le, all1h, all1ht, hr⟩
          refine WE.then ?_
          refine WC.region ?_
          refine WL.y0' guard_none (Y0.move rfl) rfl ?_
          obtain ⟨yv2, hyv2, hr⟩ := hr
          refine WL.call guard_none rfl (YC.of E55 rfl) (L_monomial_Minimal _ _ _ _ hyv2) rfl (all1h) (fun yv2v Gv2 Gv2le yv2post => ?_)
          obtain ⟨yv2p, yv2c, rfl, yv2h⟩ := yv2post
          refine WL.y0' guard_none (Y0.assign rfl) rfl ?_
          refine WL.nil ?_
          refine WE.inBlock ?_
          refine WE.then ?_
          refine WC.region ?_
          refine WL.y0' guard_none (Y0.add rfl rfl) rfl ?_
          refine WL.y0' guard_none (Y0.move rfl) rfl ?_
          refine WL.nil ?_
          refine WE.backR ⟨yv2, yv2p, yv2c, IntKind.i64.wrap (v18_1 + 1), Gv2⟩ hr ⟨(Mem.le_trans (Mem.le_trans Gm2le Gm3le) Gv2le), yv2h⟩ (Fr.sub_cons rfl (Fr.sub_cons rfl (Fr.sub_cons rfl (Fr.sub_cons rfl (Fr.sub_nil _))))) ?_
          · intro w hs
            exact hs.weaken (Lo.sub_nil _)
      · replace hr := hr.neg hc1
        refine WC.exit ?_
        refine WE.thenExit ?_
        refine WE.thenExit ?_
        refine WE.exitHere ?_
        refine WE.endH ⟨result2, result2p, result2c, Gm2⟩ ⟨Gm2le, result2h, hr⟩ (Fr.sub_cons rfl (Fr.sub_nil _)) ?_
        · intro w hs
          exact hs.weaken (Lo.sub_nil _)
  · rintro ⟨result1, result1p, result1c, Gm1⟩ ⟨Gm1le, result1h, hr⟩
    refine WE.then ?_
    refine WC.seq ?_
    refine WC.region ?_
    refine WL.y0' guard_none (Y0.move rfl) rfl ?_
    refine WL.y0' guard_none (Y0.assign rfl) rfl ?_
    refine WL.nil ?_
    refine WE.then ?_
    refine WC.ret ?_
    replace hr : _ = r := hr
    subst hr
    exact WE.ret1 rfl rfl ⟨_, _, rfl, result1h⟩
theorem L_components_Primary (l1 : (List (Fin 8 → Int))) (n1 : Int) (l1p : Option Addr) (l1c : Nat) (r : (List T_api_Part) × Int) (hr : (components_Primary l1 n1).Ret r) : Ctr Try.prog 20 #[.slice l1p l1.length l1c, .int .i64 n1] (fun G => SlR (Rp.vec .i64 8) G (.slice l1p l1.length l1c) l1) (fun G v => ∃ zr0p zr0c, v = .tuple #[.slice zr0p r.1.length zr0c, .int .i64 r.2] ∧ SlR rp_api_Part G (.slice zr0p r.1.length zr0c) r.1) := by
  refine Ctr.enter (args := [_, _]) (N := 37) Try.func20 rfl rfl rfl (fun w0 G0 hL0 hpre => ?_)
  have l1h := hpre
  have hz : w0.L.zero := by rw [hL0]; intro p hp; simp at hp
  refine WC.seq ?_
  refine WC.region ?_
  refine WL.y0' guard_none (Y0.assign rfl) rfl ?_
  refine WL.y0' guard_none (Y0.assign rfl) rfl ?_
  refine WL.nil ?_
  refine WE.then ?_
  refine WC.seq ?_
  refine WC.seq ?_
  refine WC.region ?_
  refine WL.y0' guard_none (Y0.move rfl) rfl ?_
  refine WL.y0' guard_none (Y0.move rfl) rfl ?_
  obtain ⟨yv1, hyv1, hr⟩ := hr
  refine WL.call0 guard_none rfl (YC.of E42 rfl) (L_components_check _ _ _ _ _ hyv1) rfl (l1h) ?_
  refine WL.y0' guard_none (Y0.assign rfl) rfl ?_
  refine WL.nil ?_
  refine WE.then ?_
  refine WC.seq ?_
  refine WC.region ?_
  refine WL.y0' guard_none (Y0.move rfl) rfl ?_
  refine WL.y0' guard_none (Y0.neq rfl rfl) rfl ?_
  refine WL.nil ?_
  refine WE.then ?_
  refine WC.condD (p := ¬ yv1 = 0) rfl (fun hc1 => ?_) (fun hc1 => ?_)
  · replace hr := hr.pos hc1
    refine WC.seq ?_
    refine WC.region ?_
    refine WL.y0' guard_none (Y0.move rfl) rfl ?_
    refine WL.y0' guard_none (Y0.assign rfl) rfl ?_
    refine WL.y0' guard_none (Y0.assign rfl) rfl ?_
    refine WL.nil ?_
    refine WE.then ?_
    refine WC.ret ?_
    replace hr : _ = r := hr
    refine WE.thenRet ?_
    subst hr
    exact WE.ret2 rfl rfl rfl ⟨_, _, rfl, (SlR.nil rp_api_Part _)⟩
  · replace hr := hr.neg hc1
    refine WC.skip ?_
    refine WE.then ?_
    refine WC.seq ?_
    refine WC.region ?_
    refine WL.y0' guard_none (Y0.move rfl) rfl ?_
    obtain ⟨yv2, hyv2, hr⟩ := hr
    refine WL.callT guard_none rfl (YC.of E49 rfl) (L_components_parts _ _ _ _ hyv2) rfl (l1h) (Lo.sub_nil _) hz (fun yv2v Gv2 Lyv2 Gv2le yv2post => ?_)
    obtain ⟨yv2b, yv2tk, rfl, rfl, yv2h⟩ := yv2post
    refine WL.conseq (fun w hs => hs.rekey (i := 7000) (j := 4018) rfl (by rw [hL0]; rfl)) ?_
    refine WL.y0' guard_none (Y0.assign rfl) rfl ?_
    refine WL.nil ?_
    refine WE.then ?_
    refine WC.seq ?_
    refine WC.region ?_
    refine WL.y0' guard_none (Y0.assign rfl) rfl ?_
    refine WL.nil ?_
    refine WE.then ?_
    refine WC.seq ?_
    refine WC.seq ?_
    refine WC.region ?_
    refine WL.y0' guard_none (Y0.move rfl) rfl ?_
    obtain ⟨yv3, hyv3, hr⟩ := hr
    refine WL.conseq (fun w hs => hs.rekey (i := 4018) (j := 5500) rfl (by rw [hL0]; rfl)) ?_
    refine WL.callRO guard_none rfl (YC.of E48 rfl) (L_components_primes _ _ _ _ hyv3) rfl (yv2h) (Lo.sub_cons rfl (Lo.sub_nil _)) (fun i hi => by simp only [List.map_cons, List.map_nil, List.mem_cons, List.not_mem_nil, or_false] at hi; subst hi; exact rfl) hz (fun yv3v Gv3 Gv3le yv3post => ?_)
    obtain ⟨yv3p, yv3c, rfl, yv3h⟩ := yv3post
    refine WL.conseq (fun w hs => hs.rekey (i := 5500) (j := 4018) rfl (by rw [hL0]; rfl)) ?_
    refine WL.y0' guard_none (Y0.lenR Try.underlying33 yv3h rfl) rfl ?_
    refine WL.y0' guard_none (Y0.move rfl) rfl ?_
    refine WL.nil ?_
    refine WE.then ?_
    refine WC.meetH (fun (gx : (List T_api_Part) × Option Addr × Nat × Option Ow × Mem) => match gx with | ⟨result1, result1p, result1c, result1tk, Gm1⟩ => [(8, .slice result1p result1.length result1c)]) (fun (gx : (List T_api_Part) × Option Addr × Nat × Option Ow × Mem) => match gx with | ⟨result1, result1p, result1c, result1tk, Gm1⟩ => Mem.le Gv3 Gm1 ∧ SlR rp_api_Part Gm1 (.slice result1p result1.length result1c) result1 ∧ Tok 2 60 (.slice result1p result1.length result1c) result1.length result1tk ∧ (components_Primary_k1 result1).Ret r) (fun (gx : (List T_api_Part) × Option Addr × Nat × Option Ow × Mem) => match gx with | ⟨result1, result1p, result1c, result1tk, Gm1⟩ => St w0 G0 Gm1 [(1008, result1tk)]) ?_ ?_
    · refine WC.block ?_
      let Phi1 : (List T_api_Part) → Prop := fun oo => ((fun ov => match ov with | result1 => components_Primary_k1 result1 : (List T_api_Part) → Comp ((List T_api_Part) × Int)) oo).wp (fun a => a = r)
      replace hr : (Comp.loop _ _).wp Phi1 := hr
      refine WC.loopR (Φ := Phi1) (fun (gx : (List T_api_Part) × Option Addr × Nat × Option Ow × Int × Mem) => match gx with | ⟨result2, result2p, result2c, result2tk, v22_1, Gm2⟩ => ((result2, v22_1) : (List T_api_Part) × Int)) (fun (gx : (List T_api_Part) × Option Addr × Nat × Option Ow × Int × Mem) => match gx with | ⟨result2, result2p, result2c, result2tk, v22_1, Gm2⟩ => [(8, .slice result2p result2.length result2c), (20, .slice yv3p yv3.length yv3c), (21, .int .i64 (yv3.length : Int)), (22, .int .i64 v22_1), (7, .map (some yv2b))]) (fun (gx : (List T_api_Part) × Option Addr × Nat × Option Ow × Int × Mem) => match gx with | ⟨result2, result2p, result2c, result2tk, v22_1, Gm2⟩ => Mem.le Gv3 Gm2 ∧ SlR rp_api_Part Gm2 (.slice result2p result2.length result2c) result2 ∧ Tok 2 60 (.slice result2p result2.length result2c) result2.length result2tk) (fun (gx : (List T_api_Part) × Option Addr × Nat × Option Ow × Int × Mem) => match gx with | ⟨result2, result2p, result2c, result2tk, v22_1, Gm2⟩ => St w0 G0 Gm2 [(1008, result2tk), (4018, yv2tk)]) ⟨[], none, 0, none, 0, Gv3⟩ hr (Fr.sub_cons rfl (Fr.sub_cons rfl (Fr.sub_cons rfl (Fr.sub_cons rfl (Fr.sub_cons rfl (Fr.sub_nil _)))))) ⟨(Mem.le_refl _), (SlR.nil _ _), Tok.full⟩ ?_ ?_
      · intro w hs
        exact hs.weaken (Lo.sub_no (Lo.sub_cons rfl (Lo.sub_nil _)))
      · intro Aq1 gx hx hr
        obtain ⟨result2, result2p, result2c, result2tk, v22_1, Gm2⟩ := gx
        obtain ⟨Gm2le, result2h, result2ht⟩ := hx
        refine WC.seq ?_
        refine WC.region ?_
        refine WL.y0' guard_none (Y0.lss rfl rfl) rfl ?_
        refine WL.nil ?_
        refine WE.then ?_
        refine WC.seq ?_
        refine WC.condD (p := v22_1 < (yv3.length : Int)) rfl (fun hc2 => ?_) (fun hc2 => ?_)
        · replace hr := hr.pos hc2
          refine WC.skip ?_
          refine WE.then ?_
          refine WC.seq ?_
          refine WC.block ?_
          refine WC.seq ?_
          refine WC.region ?_
          obtain ⟨x1, hx1, hr⟩ := hr
          refine WL.y0' guard_none (Y0.idxR Try.underlying33 sz5 (yv3h.mono Gm2le) rfl rfl hx1) rfl ?_
          refine WL.y0' guard_none (Y0.loadG sc5 rfl (AtK.int (At.mono (SlR.at yv3h hx1) Gm2le))) rfl ?_
          refine WL.y0' guard_none (Y0.assign rfl) rfl ?_
          refine WL.nil ?_
          refine WE.then ?_
          refine WC.region ?_
          refine WL.y0' guard_none (Y0.move rfl) rfl ?_
          refine WL.y0' guard_none (Y0.move rfl) rfl ?_
          refine WL.y0' guard_none (Y0.move rfl) rfl ?_
          refine WL.y0' guard_none (Y0.move rfl) rfl ?_
          obtain ⟨hk1, hr⟩ := hr
          refine WL.mapGetS (k := x1) 4018 guard_none rfl Try.underlying69 zv74 (MapR.mono yv2h (Mem.le_trans Gv3le Gm2le)) rfl rfl rfl hk1 (fun p1 p1c p1h => ?_)
          obtain ⟨yv4, hyv4, hr⟩ := hr
          refine WL.call guard_none rfl (YC.of E52 rfl) (L_components_meet _ _ _ _ hyv4) rfl (p1h) (fun yv4v Gv4 Gv4le yv4post => ?_)
          obtain ⟨yv4p, yv4c, rfl, yv4h⟩ := yv4post
          refine WL.y0' guard_none (Y0.build (vs := #[(0, .int .u8 x1), (1, .slice yv4p yv4.length yv4c)]) (v := .agg ([.int .u8 x1, .slice yv4p yv4.length yv4c]).toArray) rfl rfl (fun _ => by kernel_rfl)) rfl ?_
          refine WL.litR (e := 60) (r := rp_api_Part) (vs := #[(0, .agg ([.int .u8 x1, .slice yv4p yv4.length yv4c]).toArray)]) (cs := [.int .u8 x1, .slice yv4p yv4.length yv4c] ++ ([])) ([(T_api_Part.mk x1 yv4)] : List T_api_Part) guard_none rfl rfl rfl rfl (by decide) (fun _ => by kernel_rfl) ⟨[.int .u8 x1, .slice yv4p yv4.length yv4c], [], rfl, ⟨[.int .u8 x1], [.slice yv4p yv4.length yv4c], rfl, rfl, ⟨_, rfl, yv4h⟩⟩, rfl⟩ (key := 999) rfl (by rw [hL0]; rfl) (fun p2 Gv5 Gv5le p2h => ?_)
          obtain ⟨hsm1, hr⟩ := hr
          refine WL.appendR (r := rp_api_Part) 1008 guard_none rfl Try.underlying36 el60 rfl (by decide) rfl rfl (result2h.mono (Mem.le_trans Gv4le Gv5le)) rfl (by rw [hL0]; rfl) result2ht p2h hsm1 (fun p3 p3c p3tk Gv6 Gv6le p3h p3ht => ?_)
          refine WL.y0' guard_none (Y0.assign rfl) rfl ?_
          refine WL.nil ?_
          refine WE.inBlock ?_
          refine WE.then ?_
          refine WC.region ?_
          refine WL.y0' guard_none (Y0.add rfl rfl) rfl ?_
          refine WL.y0' guard_none (Y0.move rfl) rfl ?_
          refine WL.nil ?_
          refine WE.backR ⟨(result2 ++ [(T_api_Part.mk x1 yv4)]), p3, p3c, p3tk, IntKind.i64.wrap (v22_1 + 1), Gv6⟩ hr ⟨(Mem.le_trans (Mem.le_trans (Mem.le_trans Gm2le Gv4le) Gv5le) Gv6le), p3h, p3ht⟩ (Fr.sub_cons rfl (Fr.sub_cons rfl (Fr.sub_cons rfl (Fr.sub_cons rfl (Fr.sub_cons rfl (Fr.sub_nil _)))))) ?_
          · intro w hs
            exact hs.weaken (Lo.sub_cons rfl (Lo.sub_cons rfl (Lo.sub_nil _)))
        · replace hr := hr.neg hc2
          refine WC.exit ?_
          refine WE.thenExit ?_
          refine WE.thenExit ?_
          refine WE.exitHere ?_
          refine WE.endH ⟨result2, result2p, result2c, result2tk, Gm2⟩ ⟨Gm2le, result2h, result2ht, hr⟩ (Fr.sub_cons rfl (Fr.sub_nil _)) ?_
          · intro w hs
            exact hs.weaken (Lo.sub_cons rfl (Lo.sub_nil _))
    · rintro ⟨result1, result1p, result1c, result1tk, Gm1⟩ ⟨Gm1le, result1h, result1ht, hr⟩
      refine WE.then ?_
      refine WC.seq ?_
      refine WC.region ?_
      refine WL.y0' guard_none (Y0.move rfl) rfl ?_
      refine WL.y0' guard_none (Y0.assign rfl) rfl ?_
      refine WL.y0' guard_none (Y0.assign rfl) rfl ?_
      refine WL.nil ?_
      refine WE.then ?_
      refine WC.ret ?_
      replace hr : _ = r := hr
      subst hr
      exact WE.ret2 rfl rfl rfl ⟨_, _, rfl, result1h⟩
theorem L_R04_Same (a1 : (List (Fin 8 → Int))) (b1 : (List (Fin 8 → Int))) (a1p : Option Addr) (a1c : Nat) (b1p : Option Addr) (b1c : Nat) (r : Bool) (hr : (R04_Same a1 b1).Ret r) : Ctr Try.prog 22 #[.slice a1p a1.length a1c, .slice b1p b1.length b1c] (fun G => SlR (Rp.vec .i64 8) G (.slice a1p a1.length a1c) a1 ∧ SlR (Rp.vec .i64 8) G (.slice b1p b1.length b1c) b1) (fun G v => v = .bool r) := by
  refine Ctr.enter (args := [_, _]) (N := 26) Try.func22 rfl rfl rfl (fun w0 G0 hL0 hpre => ?_)
  obtain ⟨a1h, b1h⟩ := hpre
  refine WC.seq ?_
  refine WC.region ?_
  refine WL.y0' guard_none (Y0.assign rfl) rfl ?_
  refine WL.nil ?_
  refine WE.then ?_
  refine WC.seq ?_
  refine WC.seq ?_
  refine WC.region ?_
  refine WL.y0' guard_none (Y0.move rfl) rfl ?_
  refine WL.y0' guard_none (Y0.lenR Try.underlying28 a1h rfl) rfl ?_
  refine WL.y0' guard_none (Y0.move rfl) rfl ?_
  refine WL.y0' guard_none (Y0.lenR Try.underlying28 b1h rfl) rfl ?_
  refine WL.y0' guard_none (Y0.neq rfl rfl) rfl ?_
  refine WL.nil ?_
  refine WE.then ?_
  refine WC.condD (p := ¬ (a1.length : Int) = (b1.length : Int)) rfl (fun hc1 => ?_) (fun hc1 => ?_)
  · replace hr := hr.pos hc1
    refine WC.seq ?_
    refine WC.region ?_
    refine WL.y0' guard_none (Y0.assign rfl) rfl ?_
    refine WL.nil ?_
    refine WE.then ?_
    refine WC.ret ?_
    replace hr : _ = r := hr
    refine WE.thenRet ?_
    subst hr
    exact WE.ret1 rfl rfl rfl
  · replace hr := hr.neg hc1
    refine WC.skip ?_
    refine WE.then ?_
    refine WC.seq ?_
    refine WC.seq ?_
    refine WC.region ?_
    refine WL.y0' guard_none (Y0.assign rfl) rfl ?_
    refine WL.nil ?_
    refine WE.then ?_
    refine WC.meetH (fun (gx : Mem) => match gx with | Gm1 => []) (fun (gx : Mem) => match gx with | Gm1 => Mem.le G0 Gm1 ∧ (R04_Same_k1).Ret r) (fun (gx : Mem) => match gx with | Gm1 => St w0 G0 Gm1 []) ?_ ?_
    · refine WC.block ?_
      let Phi1 : (Bool ⊕ Unit) → Prop := fun oo => ((fun ov => match ov with | .inl rv1 => Comp.ret rv1 | .inr () => R04_Same_k1 : (Bool ⊕ Unit) → Comp Bool) oo).wp (fun a => a = r)
      replace hr : (Comp.loop _ _).wp Phi1 := hr
      refine WC.loopR (Φ := Phi1) (fun (gx : Int × Mem) => match gx with | ⟨i1, Gm2⟩ => (i1 : Int)) (fun (gx : Int × Mem) => match gx with | ⟨i1, Gm2⟩ => [(0, .slice a1p a1.length a1c), (1, .slice b1p b1.length b1c), (5, .int .i64 i1)]) (fun (gx : Int × Mem) => match gx with | ⟨i1, Gm2⟩ => Mem.le G0 Gm2) (fun (gx : Int × Mem) => match gx with | ⟨i1, Gm2⟩ => St w0 G0 Gm2 []) ⟨0, G0⟩ hr (Fr.sub_cons rfl (Fr.sub_cons rfl (Fr.sub_cons rfl (Fr.sub_nil _)))) (Mem.le_refl _) ?_ ?_
      · intro w hs
        exact hs.weaken (Lo.sub_nil _)
      · intro Aq1 gx hx hr
        obtain ⟨i1, Gm2⟩ := gx
        have Gm2le := hx
        refine WC.seq ?_
        refine WC.seq ?_
        refine WC.region ?_
        refine WL.y0' guard_none (Y0.move rfl) rfl ?_
        refine WL.y0' guard_none (Y0.move rfl) rfl ?_
        refine WL.y0' guard_none (Y0.lenR Try.underlying28 (a1h.mono Gm2le) rfl) rfl ?_
        refine WL.y0' guard_none (Y0.lss rfl rfl) rfl ?_
        refine WL.nil ?_
        refine WE.then ?_
        refine WC.condD (p := i1 < (a1.length : Int)) rfl (fun hc2 => ?_) (fun hc2 => ?_)
        · replace hr := hr.pos hc2
          refine WC.skip ?_
          refine WE.then ?_
          refine WC.seq ?_
          refine WC.block ?_
          refine WC.seq ?_
          refine WC.drawn [false, false, false, false, false, false, false, false, false] mix (by kernel_rfl) (fun hb => ?_)
          refine Chain.y0 guard_none (fun _ hle => Y0.move rfl) ?_
          refine Chain.y0 guard_none (fun _ hle => Y0.move rfl) ?_
          obtain ⟨x1, hx1, hr⟩ := hr
          refine Chain.y0 guard_none (fun _ hle => Y0.idxR Try.underlying28 sz48 ((a1h.mono Gm2le).mono hle) rfl rfl hx1) ?_
          refine Chain.y0 guard_none (fun _ hle => Y0.loadGA _ ag48 rfl (vecG_size _ _ _) (AtK.vec (At.mono (At.mono (SlR.at a1h hx1) Gm2le) hle))) ?_
          refine Chain.y0 guard_none (fun _ hle => Y0.move rfl) ?_
          refine Chain.y0 guard_none (fun _ hle => Y0.move rfl) ?_
          obtain ⟨x2, hx2, hr⟩ := hr
          refine Chain.y0 guard_none (fun _ hle => Y0.idxR Try.underlying28 sz48 ((b1h.mono Gm2le).mono hle) rfl rfl hx2) ?_
          refine Chain.y0 guard_none (fun _ hle => Y0.loadGA _ ag48 rfl (vecG_size _ _ _) (AtK.vec (At.mono (At.mono (SlR.at b1h hx2) Gm2le) hle))) ?_
          refine Chain.y0 guard_none (fun _ hle => Y0.neqV Try.underlying48 Try.underlying3 sc3 sz3 eg48 rfl rfl) ?_
          refine Chain.tail0 hb ?_
          refine WL.nil ?_
          refine WE.nx ?_
          refine WE.then ?_
          refine WC.condD (p := ¬ x1 = x2) rfl (fun hc3 => ?_) (fun hc3 => ?_)
          · replace hr := hr.pos hc3
            refine WC.seq ?_
            refine WC.region ?_
            refine WL.y0' guard_none (Y0.assign rfl) rfl ?_
            refine WL.nil ?_
            refine WE.then ?_
            refine WC.ret ?_
            replace hr : _ = r := hr
            refine WE.inBlockRet ?_
            refine WE.thenRet ?_
            refine WE.thenRet ?_
            refine WE.inBlockRet ?_
            refine WE.endRet ?_
            refine WE.thenRet ?_
            subst hr
            exact WE.ret1 rfl rfl rfl
          · replace hr := hr.neg hc3
            refine WC.skip ?_
            refine WE.inBlock ?_
            refine WE.then ?_
            refine WC.region ?_
            refine WL.y0' guard_none (Y0.move rfl) rfl ?_
            refine WL.y0' guard_none (Y0.add rfl rfl) rfl ?_
            refine WL.y0' guard_none (Y0.assign rfl) rfl ?_
            refine WL.nil ?_
            refine WE.backR ⟨IntKind.i64.wrap (i1 + 1), Gm2⟩ hr Gm2le (Fr.sub_cons rfl (Fr.sub_cons rfl (Fr.sub_cons rfl (Fr.sub_nil _)))) ?_
            · intro w hs
              exact hs.weaken (Lo.sub_nil _)
        · replace hr := hr.neg hc2
          refine WC.exit ?_
          refine WE.thenExit ?_
          refine WE.thenExit ?_
          refine WE.exitHere ?_
          refine WE.endH Gm2 ⟨Gm2le, hr⟩ (Fr.sub_nil _) ?_
          · intro w hs
            exact hs.weaken (Lo.sub_nil _)
    · rintro Gm1 ⟨Gm1le, hr⟩
      refine WE.then ?_
      refine WC.seq ?_
      refine WC.region ?_
      refine WL.y0' guard_none (Y0.assign rfl) rfl ?_
      refine WL.nil ?_
      refine WE.then ?_
      refine WC.ret ?_
      replace hr : _ = r := hr
      subst hr
      exact WE.ret1 rfl rfl rfl
theorem L_R18_SameSets (a1 : (List Int)) (b1 : (List Int)) (a1p : Option Addr) (a1c : Nat) (b1p : Option Addr) (b1c : Nat) (r : Bool) (hr : (R18_SameSets a1 b1).Ret r) : Ctr Try.prog 23 #[.slice a1p a1.length a1c, .slice b1p b1.length b1c] (fun G => SlR (Rp.int .u8) G (.slice a1p a1.length a1c) a1 ∧ SlR (Rp.int .u8) G (.slice b1p b1.length b1c) b1) (fun G v => v = .bool r) := by
  refine Ctr.enter (args := [_, _]) (N := 10) Try.func23 rfl rfl rfl (fun w0 G0 hL0 hpre => ?_)
  obtain ⟨a1h, b1h⟩ := hpre
  refine WC.seq ?_
  refine WC.region ?_
  refine WL.y0' guard_none (Y0.assign rfl) rfl ?_
  refine WL.nil ?_
  refine WE.then ?_
  refine WC.seq ?_
  refine WC.region ?_
  refine WL.y0' guard_none (Y0.move rfl) rfl ?_
  refine WL.y0' guard_none (Y0.convBS Try.underlying33 Try.underlying5 Try.underlying9 a1h rfl) rfl ?_
  refine WL.y0' guard_none (Y0.move rfl) rfl ?_
  refine WL.y0' guard_none (Y0.convBS Try.underlying33 Try.underlying5 Try.underlying9 b1h rfl) rfl ?_
  refine WL.y0' guard_none (Y0.eqlS Try.underlying9 rfl rfl) rfl ?_
  refine WL.y0' guard_none (Y0.assign rfl) rfl ?_
  refine WL.nil ?_
  refine WE.then ?_
  refine WC.ret ?_
  replace hr : _ = r := hr
  subst hr
  exact WE.ret1 rfl rfl rfl
theorem L_R21_SameParts (a1 : (List T_api_Part)) (b1 : (List T_api_Part)) (a1p : Option Addr) (a1c : Nat) (b1p : Option Addr) (b1c : Nat) (r : Bool) (hr : (R21_SameParts a1 b1).Ret r) : Ctr Try.prog 24 #[.slice a1p a1.length a1c, .slice b1p b1.length b1c] (fun G => SlR rp_api_Part G (.slice a1p a1.length a1c) a1 ∧ SlR rp_api_Part G (.slice b1p b1.length b1c) b1) (fun G v => v = .bool r) := by
  refine Ctr.enter (args := [_, _]) (N := 42) Try.func24 rfl rfl rfl (fun w0 G0 hL0 hpre => ?_)
  obtain ⟨a1h, b1h⟩ := hpre
  refine WC.seq ?_
  refine WC.region ?_
  refine WL.y0' guard_none (Y0.assign rfl) rfl ?_
  refine WL.nil ?_
  refine WE.then ?_
  refine WC.seq ?_
  refine WC.seq ?_
  refine WC.region ?_
  refine WL.y0' guard_none (Y0.move rfl) rfl ?_
  refine WL.y0' guard_none (Y0.lenR Try.underlying36 a1h rfl) rfl ?_
  refine WL.y0' guard_none (Y0.move rfl) rfl ?_
  refine WL.y0' guard_none (Y0.lenR Try.underlying36 b1h rfl) rfl ?_
  refine WL.y0' guard_none (Y0.neq rfl rfl) rfl ?_
  refine WL.nil ?_
  refine WE.then ?_
  refine WC.condD (p := ¬ (a1.length : Int) = (b1.length : Int)) rfl (fun hc1 => ?_) (fun hc1 => ?_)
  · replace hr := hr.pos hc1
    refine WC.seq ?_
    refine WC.region ?_
    refine WL.y0' guard_none (Y0.assign rfl) rfl ?_
    refine WL.nil ?_
    refine WE.then ?_
    refine WC.ret ?_
    replace hr : _ = r := hr
    refine WE.thenRet ?_
    subst hr
    exact WE.ret1 rfl rfl rfl
  · replace hr := hr.neg hc1
    refine WC.skip ?_
    refine WE.then ?_
    refine WC.seq ?_
    refine WC.seq ?_
    refine WC.region ?_
    refine WL.y0' guard_none (Y0.assign rfl) rfl ?_
    refine WL.nil ?_
    refine WE.then ?_
    refine WC.meetH (fun (gx : Mem) => match gx with | Gm1 => []) (fun (gx : Mem) => match gx with | Gm1 => Mem.le G0 Gm1 ∧ (R21_SameParts_k1).Ret r) (fun (gx : Mem) => match gx with | Gm1 => St w0 G0 Gm1 []) ?_ ?_
    · refine WC.block ?_
      let Phi1 : (Bool ⊕ Unit) → Prop := fun oo => ((fun ov => match ov with | .inl rv1 => Comp.ret rv1 | .inr () => R21_SameParts_k1 : (Bool ⊕ Unit) → Comp Bool) oo).wp (fun a => a = r)
      replace hr : (Comp.loop _ _).wp Phi1 := hr
      refine WC.loopR (Φ := Phi1) (fun (gx : Int × Mem) => match gx with | ⟨i1, Gm2⟩ => (i1 : Int)) (fun (gx : Int × Mem) => match gx with | ⟨i1, Gm2⟩ => [(0, .slice a1p a1.length a1c), (1, .slice b1p b1.length b1c), (5, .int .i64 i1)]) (fun (gx : Int × Mem) => match gx with | ⟨i1, Gm2⟩ => Mem.le G0 Gm2) (fun (gx : Int × Mem) => match gx with | ⟨i1, Gm2⟩ => St w0 G0 Gm2 []) ⟨0, G0⟩ hr (Fr.sub_cons rfl (Fr.sub_cons rfl (Fr.sub_cons rfl (Fr.sub_nil _)))) (Mem.le_refl _) ?_ ?_
      · intro w hs
        exact hs.weaken (Lo.sub_nil _)
      · intro Aq1 gx hx hr
        obtain ⟨i1, Gm2⟩ := gx
        have Gm2le := hx
        refine WC.seq ?_
        refine WC.seq ?_
        refine WC.region ?_
        refine WL.y0' guard_none (Y0.move rfl) rfl ?_
        refine WL.y0' guard_none (Y0.move rfl) rfl ?_
        refine WL.y0' guard_none (Y0.lenR Try.underlying36 (a1h.mono Gm2le) rfl) rfl ?_
        refine WL.y0' guard_none (Y0.lss rfl rfl) rfl ?_
        refine WL.nil ?_
        refine WE.then ?_
        refine WC.condD (p := i1 < (a1.length : Int)) rfl (fun hc2 => ?_) (fun hc2 => ?_)
        · replace hr := hr.pos hc2
          refine WC.skip ?_
          refine WE.then ?_
          refine WC.seq ?_
          refine WC.block ?_
          refine WC.seq ?_
          refine WC.drawn [false, false, false, false, false, false, false, false, false, false, false, false, false, false, false, false, false, false, false, false, false, false, false, false, false] mix (by kernel_rfl) (fun hb => ?_)
          refine Chain.y0 guard_none (fun _ hle => Y0.move rfl) ?_
          refine Chain.y0 guard_none (fun _ hle => Y0.move rfl) ?_
          obtain ⟨x1, hx1, hr⟩ := hr
          refine Chain.y0 guard_none (fun _ hle => Y0.idxR Try.underlying36 sz60 ((a1h.mono Gm2le).mono hle) rfl rfl hx1) ?_
          refine Chain.y0 guard_none (fun _ hle => Y0.fieldAddr Try.underlying60 rfl (fun _ => by kernel_rfl) rfl) ?_
          refine Chain.y0 guard_none (fun _ hle => Y0.loadG sc5 rfl (AtK.int (At.mono (At.mono (AtK.fst (AtK.via (SlR.at a1h hx1))) Gm2le) hle))) ?_
          refine Chain.y0 guard_none (fun _ hle => Y0.move rfl) ?_
          refine Chain.y0 guard_none (fun _ hle => Y0.move rfl) ?_
          obtain ⟨x2, hx2, hr⟩ := hr
          refine Chain.y0 guard_none (fun _ hle => Y0.idxR Try.underlying36 sz60 ((b1h.mono Gm2le).mono hle) rfl rfl hx2) ?_
          refine Chain.y0 guard_none (fun _ hle => Y0.fieldAddr Try.underlying60 rfl (fun _ => by kernel_rfl) rfl) ?_
          refine Chain.y0 guard_none (fun _ hle => Y0.loadG sc5 rfl (AtK.int (At.mono (At.mono (AtK.fst (AtK.via (SlR.at b1h hx2))) Gm2le) hle))) ?_
          refine Chain.caseY0 (p := ¬ x1.prime = x2.prime) guard_none (fun _ hle => Y0.neq rfl rfl) (fun hb1 => ?_) (fun hb1 => ?_)
          · replace hr := hr.pos hb1
            refine Chain.y0 guard_none (fun _ hle => Y0.move rfl) ?_
            refine Chain.skip (guard_noF rfl rfl) ?_
            refine Chain.skip (guard_noF rfl rfl) ?_
            refine Chain.skip (guard_noF rfl rfl) ?_
            refine Chain.skip (guard_noF rfl rfl) ?_
            refine Chain.skip (guard_noF rfl rfl) ?_
            refine Chain.skip (guard_noF rfl rfl) ?_
            refine Chain.skip (guard_noF rfl rfl) ?_
            refine Chain.skip (guard_noF rfl rfl) ?_
            refine Chain.skip (guard_noF rfl rfl) ?_
            refine Chain.skip (guard_noF rfl rfl) ?_
            refine Chain.skip (guard_noF rfl rfl) ?_
            refine Chain.skip (guard_noF rfl rfl) ?_
            refine Chain.y0 guard_none (fun _ hle => Y0.pickT rfl rfl) ?_
            refine Chain.tail0 hb ?_
            refine WL.nil ?_
            refine WE.nx ?_
            refine WE.then ?_
            refine WC.condT rfl ?_
            refine WC.seq ?_
            refine WC.region ?_
            refine WL.y0' guard_none (Y0.assign rfl) rfl ?_
            refine WL.nil ?_
            refine WE.then ?_
            refine WC.ret ?_
            replace hr : _ = r := hr
            refine WE.inBlockRet ?_
            refine WE.thenRet ?_
            refine WE.thenRet ?_
            refine WE.inBlockRet ?_
            refine WE.endRet ?_
            refine WE.thenRet ?_
            subst hr
            exact WE.ret1 rfl rfl rfl
          · replace hr := hr.neg hb1
            refine Chain.y0 guard_none (fun _ hle => Y0.move rfl) ?_
            refine Chain.y0 (guard_yes rfl rfl) (fun _ hle => Y0.move rfl) ?_
            refine Chain.y0 (guard_yes rfl rfl) (fun _ hle => Y0.move rfl) ?_
            obtain ⟨x3, hx3, hr⟩ := hr
            refine Chain.y0 (guard_yes rfl rfl) (fun _ hle => Y0.idxR Try.underlying36 sz60 ((a1h.mono Gm2le).mono hle) rfl rfl hx3) ?_
            refine Chain.y0 (guard_yes rfl rfl) (fun _ hle => Y0.fieldAddr Try.underlying60 rfl (fun _ => by kernel_rfl) rfl) ?_
            obtain ⟨p1, p1c, p1e, p1h⟩ := AtK.sl (At.mono (AtK.snd (AtK.via (SlR.at a1h hx3))) Gm2le)
            refine Chain.y0 (guard_yes rfl rfl) (fun _ hle => Y0.loadG sc28 rfl (hle _ _ _ p1e)) ?_
            refine Chain.y0 (guard_yes rfl rfl) (fun _ hle => Y0.move rfl) ?_
            refine Chain.y0 (guard_yes rfl rfl) (fun _ hle => Y0.move rfl) ?_
            obtain ⟨x4, hx4, hr⟩ := hr
            refine Chain.y0 (guard_yes rfl rfl) (fun _ hle => Y0.idxR Try.underlying36 sz60 ((b1h.mono Gm2le).mono hle) rfl rfl hx4) ?_
            refine Chain.y0 (guard_yes rfl rfl) (fun _ hle => Y0.fieldAddr Try.underlying60 rfl (fun _ => by kernel_rfl) rfl) ?_
            obtain ⟨p2, p2c, p2e, p2h⟩ := AtK.sl (At.mono (AtK.snd (AtK.via (SlR.at b1h hx4))) Gm2le)
            refine Chain.y0 (guard_yes rfl rfl) (fun _ hle => Y0.loadG sc28 rfl (hle _ _ _ p2e)) ?_
            obtain ⟨yv1, hyv1, hr⟩ := hr
            refine Chain.call0 (guard_yes rfl rfl) (fun _ => YC.of E22 rfl) (L_R04_Same _ _ _ _ _ _ _ hyv1) rfl (fun G' hle => ⟨(p1h.mono hle), (p2h.mono hle)⟩) ?_
            refine Chain.y0 (guard_yes rfl rfl) (fun _ hle => Y0.not rfl) ?_
            refine Chain.y0 guard_none (fun _ hle => Y0.pickF rfl rfl) ?_
            refine Chain.tail0 hb ?_
            refine WL.nil ?_
            refine WE.nx ?_
            refine WE.then ?_
            refine WC.cond (b := !yv1) rfl (fun hc3 => ?_) (fun hc3 => ?_)
            · replace hr := hr.pos hc3
              refine WC.seq ?_
              refine WC.region ?_
              refine WL.y0' guard_none (Y0.assign rfl) rfl ?_
              refine WL.nil ?_
              refine WE.then ?_
              refine WC.ret ?_
              replace hr : _ = r := hr
              refine WE.inBlockRet ?_
              refine WE.thenRet ?_
              refine WE.thenRet ?_
              refine WE.inBlockRet ?_
              refine WE.endRet ?_
              refine WE.thenRet ?_
              subst hr
              exact WE.ret1 rfl rfl rfl
            · replace hr := hr.neg (Bool.eq_false_iff.1 hc3)
              refine WC.skip ?_
              refine WE.inBlock ?_
              refine WE.then ?_
              refine WC.region ?_
              refine WL.y0' guard_none (Y0.move rfl) rfl ?_
              refine WL.y0' guard_none (Y0.add rfl rfl) rfl ?_
              refine WL.y0' guard_none (Y0.assign rfl) rfl ?_
              refine WL.nil ?_
              refine WE.backR ⟨IntKind.i64.wrap (i1 + 1), Gm2⟩ hr Gm2le (Fr.sub_cons rfl (Fr.sub_cons rfl (Fr.sub_cons rfl (Fr.sub_nil _)))) ?_
              · intro w hs
                exact hs.weaken (Lo.sub_nil _)
        · replace hr := hr.neg hc2
          refine WC.exit ?_
          refine WE.thenExit ?_
          refine WE.thenExit ?_
          refine WE.exitHere ?_
          refine WE.endH Gm2 ⟨Gm2le, hr⟩ (Fr.sub_nil _) ?_
          · intro w hs
            exact hs.weaken (Lo.sub_nil _)
    · rintro Gm1 ⟨Gm1le, hr⟩
      refine WE.then ?_
      refine WC.seq ?_
      refine WC.region ?_
      refine WL.y0' guard_none (Y0.assign rfl) rfl ?_
      refine WL.nil ?_
      refine WE.then ?_
      refine WC.ret ?_
      replace hr : _ = r := hr
      subst hr
      exact WE.ret1 rfl rfl rfl
theorem L_components_Radical (l1 : (List (Fin 8 → Int))) (l1p : Option Addr) (l1c : Nat) (r : (List (Fin 8 → Int))) (hr : (components_Radical l1).Ret r) : Ctr Try.prog 27 #[.slice l1p l1.length l1c] (fun G => SlR (Rp.vec .i64 8) G (.slice l1p l1.length l1c) l1) (fun G v => ∃ zp zc, v = .slice zp r.length zc ∧ SlR (Rp.vec .i64 8) G (.slice zp r.length zc) r) := by
  refine Ctr.enter (args := [_]) (N := 30) Try.func27 rfl rfl rfl (fun w0 G0 hL0 hpre => ?_)
  have l1h := hpre
  refine WC.seq ?_
  refine WC.region ?_
  refine WL.y0' guard_none (Y0.assign rfl) rfl ?_
  refine WL.nil ?_
  refine WE.then ?_
  refine WC.seq ?_
  refine WC.region ?_
  refine WL.y0' guard_none (Y0.assign rfl) rfl ?_
  refine WL.nil ?_
  refine WE.then ?_
  refine WC.seq ?_
  refine WC.seq ?_
  refine WC.region ?_
  refine WL.y0' guard_none (Y0.move rfl) rfl ?_
  refine WL.y0' guard_none (Y0.lenR Try.underlying28 l1h rfl) rfl ?_
  refine WL.y0' guard_none (Y0.move rfl) rfl ?_
  refine WL.nil ?_
  refine WE.then ?_
  refine WC.meetH (fun (gx : (List (Fin 8 → Int)) × Option Addr × Nat × Option Ow × Mem) => match gx with | ⟨rv1, rv1p, rv1c, rv1tk, Gm1⟩ => [(3, .slice rv1p rv1.length rv1c)]) (fun (gx : (List (Fin 8 → Int)) × Option Addr × Nat × Option Ow × Mem) => match gx with | ⟨rv1, rv1p, rv1c, rv1tk, Gm1⟩ => Mem.le G0 Gm1 ∧ SlR (Rp.vec .i64 8) Gm1 (.slice rv1p rv1.length rv1c) rv1 ∧ Tok 8 48 (.slice rv1p rv1.length rv1c) rv1.length rv1tk ∧ (components_Radical_k1 rv1).Ret r) (fun (gx : (List (Fin 8 → Int)) × Option Addr × Nat × Option Ow × Mem) => match gx with | ⟨rv1, rv1p, rv1c, rv1tk, Gm1⟩ => St w0 G0 Gm1 [(1003, rv1tk)]) ?_ ?_
  · refine WC.block ?_
    let Phi1 : (((List (Fin 8 → Int)))) → Prop := fun oo => ((fun ov => match ov with | rv1 => components_Radical_k1 rv1 : (((List (Fin 8 → Int)))) → Comp ((List (Fin 8 → Int)))) oo).wp (fun a => a = r)
    replace hr : (Comp.loop _ _).wp Phi1 := hr
    refine WC.loopR (Φ := Phi1) (fun (gx : (List (Fin 8 → Int)) × Option Addr × Nat × Option Ow × Int × Mem) => match gx with | ⟨rv2, rv2p, rv2c, rv2tk, v9_1, Gm2⟩ => ((rv2, v9_1) : (List (Fin 8 → Int)) × Int)) (fun (gx : (List (Fin 8 → Int)) × Option Addr × Nat × Option Ow × Int × Mem) => match gx with | ⟨rv2, rv2p, rv2c, rv2tk, v9_1, Gm2⟩ => [(3, .slice rv2p rv2.length rv2c), (7, .slice l1p l1.length l1c), (8, .int .i64 (l1.length : Int)), (9, .int .i64 v9_1)]) (fun (gx : (List (Fin 8 → Int)) × Option Addr × Nat × Option Ow × Int × Mem) => match gx with | ⟨rv2, rv2p, rv2c, rv2tk, v9_1, Gm2⟩ => Mem.le G0 Gm2 ∧ SlR (Rp.vec .i64 8) Gm2 (.slice rv2p rv2.length rv2c) rv2 ∧ Tok 8 48 (.slice rv2p rv2.length rv2c) rv2.length rv2tk) (fun (gx : (List (Fin 8 → Int)) × Option Addr × Nat × Option Ow × Int × Mem) => match gx with | ⟨rv2, rv2p, rv2c, rv2tk, v9_1, Gm2⟩ => St w0 G0 Gm2 [(1003, rv2tk)]) ⟨[], none, 0, none, 0, G0⟩ hr (Fr.sub_cons rfl (Fr.sub_cons rfl (Fr.sub_cons rfl (Fr.sub_cons rfl (Fr.sub_nil _))))) ⟨(Mem.le_refl _), (SlR.nil _ _), Tok.full⟩ ?_ ?_
    · intro w hs
      exact hs.weaken (Lo.sub_no (Lo.sub_nil _))
    · intro Aq1 gx hx hr
      obtain ⟨rv2, rv2p, rv2c, rv2tk, v9_1, Gm2⟩ := gx
      obtain ⟨Gm2le, rv2h, rv2ht⟩ := hx
      refine WC.seq ?_
      refine WC.region ?_
      refine WL.y0' guard_none (Y0.lss rfl rfl) rfl ?_
      refine WL.nil ?_
      refine WE.then ?_
      refine WC.seq ?_
      refine WC.condD (p := v9_1 < (l1.length : Int)) rfl (fun hc1 => ?_) (fun hc1 => ?_)
      · replace hr := hr.pos hc1
        refine WC.skip ?_
        refine WE.then ?_
        refine WC.seq ?_
        refine WC.block ?_
        refine WC.seq ?_
        refine WC.region ?_
        obtain ⟨x1, hx1, hr⟩ := hr
        refine WL.y0' guard_none (Y0.idxR Try.underlying28 sz48 (l1h.mono Gm2le) rfl rfl hx1) rfl ?_
        refine WL.y0' guard_none (Y0.loadGA _ ag48 rfl (vecG_size _ _ _) (AtK.vec (At.mono (SlR.at l1h hx1) Gm2le))) rfl ?_
        refine WL.alloc 5 guard_none z48 rfl (fun b1 => ?_)
        refine WL.storeLA 5 guard_none sz48 rfl rfl rfl (vecG_size _ _ _) (vecG_size _ _ _) (fun u hu => Rp.one (Rp.vec .i64 8) (G := Gm2) (x := x1) (cs := vecG (Value.int .i64) 8 x1) rfl u (by simpa using hu)) ?_
        refine WL.nil ?_
        refine WE.then ?_
        refine WC.seq ?_
        refine WC.seq ?_
        refine WC.region ?_
        refine WL.y0' guard_none (Y0.move rfl) rfl ?_
        refine WL.nil ?_
        refine WE.then ?_
        refine WC.meetH (fun (gx : (Fin 8 → Int) × Mem) => match gx with | ⟨bx1, Gm3⟩ => [(3, .slice rv2p rv2.length rv2c), (5, .pointer (some ⟨b1, 0, none⟩)), (7, .slice l1p l1.length l1c), (8, .int .i64 (l1.length : Int)), (9, .int .i64 v9_1)]) (fun (gx : (Fin 8 → Int) × Mem) => match gx with | ⟨bx1, Gm3⟩ => Mem.le Gm2 Gm3 ∧ (components_Radical_k3 rv2 v9_1 bx1).wp (Out Aq1 Phi1)) (fun (gx : (Fin 8 → Int) × Mem) => match gx with | ⟨bx1, Gm3⟩ => St w0 G0 Gm3 [(5, some ⟨b1, .cells (vecG (Value.int .i64) 8 bx1).toArray 48 (0, 0), 0⟩), (1003, rv2tk)]) ?_ ?_
        · refine WC.block ?_
          let Phi2 : (Fin 8 → Int) → Prop := fun oo => ((fun ov => match ov with | bx1 => components_Radical_k3 rv2 v9_1 bx1 : (Fin 8 → Int) → Comp (((List (Fin 8 → Int)) × Int) ⊕ (((List (Fin 8 → Int)))))) oo).wp (Out Aq1 Phi1)
          replace hr : (Comp.loop _ _).wp Phi2 := hr
          refine WC.loopR (Φ := Phi2) (fun (gx : Int × (Fin 8 → Int) × Mem) => match gx with | ⟨v13_1, bx2, Gm4⟩ => ((v13_1, bx2) : Int × (Fin 8 → Int))) (fun (gx : Int × (Fin 8 → Int) × Mem) => match gx with | ⟨v13_1, bx2, Gm4⟩ => [(3, .slice rv2p rv2.length rv2c), (5, .pointer (some ⟨b1, 0, none⟩)), (7, .slice l1p l1.length l1c), (8, .int .i64 (l1.length : Int)), (9, .int .i64 v9_1), (13, .int .i64 v13_1)]) (fun (gx : Int × (Fin 8 → Int) × Mem) => match gx with | ⟨v13_1, bx2, Gm4⟩ => Mem.le Gm2 Gm4) (fun (gx : Int × (Fin 8 → Int) × Mem) => match gx with | ⟨v13_1, bx2, Gm4⟩ => St w0 G0 Gm4 [(5, some ⟨b1, .cells (vecG (Value.int .i64) 8 bx2).toArray 48 (0, 0), 0⟩), (1003, rv2tk)]) ⟨0, x1, Gm2⟩ hr (Fr.sub_cons rfl (Fr.sub_cons rfl (Fr.sub_cons rfl (Fr.sub_cons rfl (Fr.sub_cons rfl (Fr.sub_cons rfl (Fr.sub_nil _))))))) (Mem.le_refl _) ?_ ?_
          · intro w hs
            exact hs.weaken (Lo.sub_cons rfl (Lo.sub_cons rfl (Lo.sub_nil _)))
          · intro Aq2 gx hx hr
            obtain ⟨v13_1, bx2, Gm4⟩ := gx
            have Gm4le := hx
            refine WC.seq ?_
            refine WC.region ?_
            refine WL.y0' guard_none (Y0.lss rfl rfl) rfl ?_
            refine WL.nil ?_
            refine WE.then ?_
            refine WC.seq ?_
            refine WC.condD (p := v13_1 < 8) rfl (fun hc2 => ?_) (fun hc2 => ?_)
            · replace hr := hr.pos hc2
              refine WC.skip ?_
              refine WE.then ?_
              refine WC.seq ?_
              refine WC.block ?_
              refine WC.seq ?_
              refine WC.region ?_
              refine WL.y0' guard_none (Y0.move rfl) rfl ?_
              refine WL.y0' guard_none (Y0.assign rfl) rfl ?_
              refine WL.nil ?_
              refine WE.then ?_
              refine WC.region ?_
              refine WL.y0' guard_none (Y0.move rfl) rfl ?_
              refine WL.y0' guard_none (Y0.move rfl) rfl ?_
              obtain ⟨hi1, hr⟩ := hr
              refine WL.y0' guard_none (Y0.idxA0 Try.underlying48 sz3 rfl rfl hi1) rfl ?_
              refine WL.y0' guard_none (Y0.loadL 5 sc3 rfl rfl (vecG_at _ _ _ hi1)) rfl ?_
              refine WL.y0' guard_none (Y0.min2 rfl rfl) rfl ?_
              obtain ⟨hi2, hr⟩ := hr
              refine WL.y0' guard_none (Y0.idxA0 Try.underlying48 sz3 rfl rfl hi2) rfl ?_
              refine WL.storeL 5 (vecG (Value.int .i64) 8 (setF bx2 v13_1.toNat (if 1 < (getF bx2 v13_1) then 1 else (getF bx2 v13_1)))).toArray guard_none sz3 rfl rfl rfl (by first | (rw [vecG_size]; omega) | (show _ < (vecG _ _ _).toArray.size; rw [vecG_size]; omega)) rfl (vecG_put _ _ _ _ _) ?_
              refine WL.nil ?_
              refine WE.inBlock ?_
              refine WE.then ?_
              refine WC.region ?_
              refine WL.y0' guard_none (Y0.add rfl rfl) rfl ?_
              refine WL.y0' guard_none (Y0.move rfl) rfl ?_
              refine WL.nil ?_
              refine WE.backR ⟨IntKind.i64.wrap (v13_1 + 1), setF bx2 v13_1.toNat (if 1 < (getF bx2 v13_1) then 1 else (getF bx2 v13_1)), Gm4⟩ hr Gm4le (Fr.sub_cons rfl (Fr.sub_cons rfl (Fr.sub_cons rfl (Fr.sub_cons rfl (Fr.sub_cons rfl (Fr.sub_cons rfl (Fr.sub_nil _))))))) ?_
              · intro w hs
                exact hs.weaken (Lo.sub_cons rfl (Lo.sub_cons rfl (Lo.sub_nil _)))
            · replace hr := hr.neg hc2
              refine WC.exit ?_
              refine WE.thenExit ?_
              refine WE.thenExit ?_
              refine WE.exitHere ?_
              refine WE.endH ⟨bx2, Gm4⟩ ⟨Gm4le, hr⟩ (Fr.sub_cons rfl (Fr.sub_cons rfl (Fr.sub_cons rfl (Fr.sub_cons rfl (Fr.sub_cons rfl (Fr.sub_nil _)))))) ?_
              · intro w hs
                exact hs.weaken (Lo.sub_cons rfl (Lo.sub_cons rfl (Lo.sub_nil _)))
        · rintro ⟨bx1, Gm3⟩ ⟨Gm3le, hr⟩
          refine WE.then ?_
          refine WC.region ?_
          refine WL.y0' guard_none (Y0.move rfl) rfl ?_
          refine WL.y0' guard_none (Y0.loadLA 5 ag48 rfl rfl (vecG_size _ _ _)) rfl ?_
          refine WL.litR (e := 48) (r := (Rp.vec .i64 8)) (vs := #[(0, .agg (vecG (Value.int .i64) 8 bx1).toArray)]) (cs := (vecG (Value.int .i64) 8 bx1) ++ ([])) ([bx1] : List (Fin 8 → Int)) guard_none rfl rfl rfl rfl (by decide) (fun _ => by kernel_rfl) ⟨vecG (Value.int .i64) 8 bx1, [], rfl, rfl, rfl⟩ (key := 999) rfl (by rw [hL0]; rfl) (fun p1 Gv2 Gv2le p1h => ?_)
          obtain ⟨hsm1, hr⟩ := hr
          refine WL.appendR (r := (Rp.vec .i64 8)) 1003 guard_none rfl Try.underlying28 el48 rfl (by decide) rfl rfl (rv2h.mono (Mem.le_trans Gm3le Gv2le)) rfl (by rw [hL0]; rfl) rv2ht p1h hsm1 (fun p2 p2c p2tk Gv3 Gv3le p2h p2ht => ?_)
          refine WL.y0' guard_none (Y0.assign rfl) rfl ?_
          refine WL.nil ?_
          refine WE.inBlock ?_
          refine WE.then ?_
          refine WC.region ?_
          refine WL.y0' guard_none (Y0.add rfl rfl) rfl ?_
          refine WL.y0' guard_none (Y0.move rfl) rfl ?_
          refine WL.nil ?_
          refine WE.backR ⟨(rv2 ++ [bx1]), p2, p2c, p2tk, IntKind.i64.wrap (v9_1 + 1), Gv3⟩ hr ⟨(Mem.le_trans (Mem.le_trans (Mem.le_trans Gm2le Gm3le) Gv2le) Gv3le), p2h, p2ht⟩ (Fr.sub_cons rfl (Fr.sub_cons rfl (Fr.sub_cons rfl (Fr.sub_cons rfl (Fr.sub_nil _))))) ?_
          · intro w hs
            exact hs.weaken (Lo.sub_cons rfl (Lo.sub_nil _))
      · replace hr := hr.neg hc1
        refine WC.exit ?_
        refine WE.thenExit ?_
        refine WE.thenExit ?_
        refine WE.exitHere ?_
        refine WE.endH ⟨rv2, rv2p, rv2c, rv2tk, Gm2⟩ ⟨Gm2le, rv2h, rv2ht, hr⟩ (Fr.sub_cons rfl (Fr.sub_nil _)) ?_
        · intro w hs
          exact hs.weaken (Lo.sub_cons rfl (Lo.sub_nil _))
  · rintro ⟨rv1, rv1p, rv1c, rv1tk, Gm1⟩ ⟨Gm1le, rv1h, rv1ht, hr⟩
    refine WE.then ?_
    refine WC.seq ?_
    refine WC.region ?_
    refine WL.y0' guard_none (Y0.move rfl) rfl ?_
    obtain ⟨yv1, hyv1, hr⟩ := hr
    refine WL.call guard_none rfl (YC.of E55 rfl) (L_monomial_Minimal _ _ _ _ hyv1) rfl (rv1h) (fun yv1v Gv1 Gv1le yv1post => ?_)
    obtain ⟨yv1p, yv1c, rfl, yv1h⟩ := yv1post
    refine WL.y0' guard_none (Y0.assign rfl) rfl ?_
    refine WL.nil ?_
    refine WE.then ?_
    refine WC.ret ?_
    replace hr : _ = r := hr
    subst hr
    exact WE.ret1 rfl rfl ⟨_, _, rfl, yv1h⟩
theorem L_components_Meet (l1 : (List (Fin 8 → Int))) (m1 : (List (Fin 8 → Int))) (l1p : Option Addr) (l1c : Nat) (m1p : Option Addr) (m1c : Nat) (r : (List (Fin 8 → Int))) (hr : (components_Meet l1 m1).Ret r) : Ctr Try.prog 25 #[.slice l1p l1.length l1c, .slice m1p m1.length m1c] (fun G => SlR (Rp.vec .i64 8) G (.slice l1p l1.length l1c) l1 ∧ SlR (Rp.vec .i64 8) G (.slice m1p m1.length m1c) m1) (fun G v => ∃ zp zc, v = .slice zp r.length zc ∧ SlR (Rp.vec .i64 8) G (.slice zp r.length zc) r) := by
  refine Ctr.enter (args := [_, _]) (N := 9) Try.func25 rfl rfl rfl (fun w0 G0 hL0 hpre => ?_)
  obtain ⟨l1h, m1h⟩ := hpre
  refine WC.seq ?_
  refine WC.region ?_
  refine WL.y0' guard_none (Y0.assign rfl) rfl ?_
  refine WL.nil ?_
  refine WE.then ?_
  refine WC.seq ?_
  refine WC.region ?_
  refine WL.y0' guard_none (Y0.move rfl) rfl ?_
  refine WL.y0' guard_none (Y0.move rfl) rfl ?_
  refine WL.litR (e := 28) (r := (Rp.sl (Rp.vec .i64 8))) (vs := #[(0, .slice l1p l1.length l1c), (1, .slice m1p m1.length m1c)]) (cs := [.slice l1p l1.length l1c] ++ ([.slice m1p m1.length m1c] ++ ([]))) ([l1, m1] : List (List (Fin 8 → Int))) guard_none rfl rfl rfl rfl (by decide) (fun _ => by kernel_rfl) ⟨[.slice l1p l1.length l1c], [.slice m1p m1.length m1c] ++ ([]), rfl, ⟨_, rfl, l1h⟩, ⟨[.slice m1p m1.length m1c], [], rfl, ⟨_, rfl, m1h⟩, rfl⟩⟩ (key := 999) rfl (by rw [hL0]; rfl) (fun p1 Gv1 Gv1le p1h => ?_)
  obtain ⟨yv1, hyv1, hr⟩ := hr
  refine WL.call guard_none rfl (YC.of E52 rfl) (L_components_meet _ _ _ _ hyv1) rfl (p1h) (fun yv1v Gv2 Gv2le yv1post => ?_)
  obtain ⟨yv1p, yv1c, rfl, yv1h⟩ := yv1post
  refine WL.y0' guard_none (Y0.assign rfl) rfl ?_
  refine WL.nil ?_
  refine WE.then ?_
  refine WC.ret ?_
  replace hr : _ = r := hr
  subst hr
  exact WE.ret1 rfl rfl ⟨_, _, rfl, yv1h⟩
theorem L_law21_sanity (r : Bool) (hr : (law21_sanity).Ret r) : Ctr Try.prog 11 #[] (fun G => True) (fun G v => v = .bool r) := by
  refine Ctr.enter (args := []) (N := 108) Try.func11 rfl rfl rfl (fun w0 G0 hL0 hpre => ?_)
  refine WC.seq ?_
  refine WC.region ?_
  refine WL.y0' guard_none (Y0.assign rfl) rfl ?_
  refine WL.nil ?_
  refine WE.then ?_
  refine WC.seq ?_
  refine WC.region ?_
  refine WL.y0' guard_none (Y0.build (vs := #[(0, .int .i64 2)]) (v := .agg (vecG (Value.int .i64) 8 (setF (fun _ => 0) 0 2)).toArray) rfl rfl (fun _ => by kernel_rfl)) rfl ?_
  refine WL.y0' guard_none (Y0.build (vs := #[(0, .int .i64 1), (1, .int .i64 1)]) (v := .agg (vecG (Value.int .i64) 8 (setF (setF (fun _ => 0) 0 1) 1 1)).toArray) rfl rfl (fun _ => by kernel_rfl)) rfl ?_
  refine WL.litR (e := 48) (r := (Rp.vec .i64 8)) (vs := #[(0, .agg (vecG (Value.int .i64) 8 (setF (fun _ => 0) 0 2)).toArray), (1, .agg (vecG (Value.int .i64) 8 (setF (setF (fun _ => 0) 0 1) 1 1)).toArray)]) (cs := (vecG (Value.int .i64) 8 (setF (fun _ => 0) 0 2)) ++ ((vecG (Value.int .i64) 8 (setF (setF (fun _ => 0) 0 1) 1 1)) ++ ([]))) ([setF (fun _ => 0) 0 2, setF (setF (fun _ => 0) 0 1) 1 1] : List (Fin 8 → Int)) guard_none rfl rfl rfl rfl (by decide) (fun _ => by kernel_rfl) ⟨vecG (Value.int .i64) 8 (setF (fun _ => 0) 0 2), (vecG (Value.int .i64) 8 (setF (setF (fun _ => 0) 0 1) 1 1)) ++ ([]), rfl, rfl, ⟨vecG (Value.int .i64) 8 (setF (setF (fun _ => 0) 0 1) 1 1), [], rfl, rfl, rfl⟩⟩ (key := 999) rfl (by rw [hL0]; rfl) (fun p1 Gv1 Gv1le p1h => ?_)
  refine WL.y0' guard_none (Y0.assign rfl) rfl ?_
  refine WL.nil ?_
  refine WE.then ?_
  refine WC.seq ?_
  refine WC.region ?_
  refine WL.y0' guard_none (Y0.move rfl) rfl ?_
  obtain ⟨yv1, hyv1, hr⟩ := hr
  refine WL.call guard_none rfl (YC.of E14 rfl) (L_components_Irreducible _ _ _ _ _ hyv1) rfl (p1h) (fun yv1v Gv2 Gv2le yv1post => ?_)
  obtain ⟨yv1r0p, yv1r0c, rfl, yv1r0h⟩ := yv1post
  refine WL.y0' guard_none (Y0.move rfl) rfl ?_
  refine WL.y0' guard_none (Y0.extract rfl rfl) rfl ?_
  refine WL.y0' guard_none (Y0.extract rfl rfl) rfl ?_
  refine WL.y0' guard_none (Y0.assign rfl) rfl ?_
  refine WL.y0' guard_none (Y0.assign rfl) rfl ?_
  refine WL.nil ?_
  refine WE.then ?_
  refine WC.seq ?_
  refine WC.region ?_
  refine WL.y0' guard_none (Y0.move rfl) rfl ?_
  obtain ⟨yv2, hyv2, hr⟩ := hr
  refine WL.call guard_none rfl (YC.of E16 rfl) (L_components_Primes _ _ _ _ _ hyv2) rfl ((p1h.mono Gv2le)) (fun yv2v Gv3 Gv3le yv2post => ?_)
  obtain ⟨yv2r0p, yv2r0c, rfl, yv2r0h⟩ := yv2post
  refine WL.y0' guard_none (Y0.move rfl) rfl ?_
  refine WL.y0' guard_none (Y0.extract rfl rfl) rfl ?_
  refine WL.y0' guard_none (Y0.extract rfl rfl) rfl ?_
  refine WL.y0' guard_none (Y0.assign rfl) rfl ?_
  refine WL.y0' guard_none (Y0.assign rfl) rfl ?_
  refine WL.nil ?_
  refine WE.then ?_
  refine WC.seq ?_
  refine WC.region ?_
  refine WL.y0' guard_none (Y0.move rfl) rfl ?_
  obtain ⟨yv3, hyv3, hr⟩ := hr
  refine WL.call guard_none rfl (YC.of E18 rfl) (L_components_Embedded _ _ _ _ _ hyv3) rfl ((p1h.mono (Mem.le_trans Gv2le Gv3le))) (fun yv3v Gv4 Gv4le yv3post => ?_)
  obtain ⟨yv3r0p, yv3r0c, rfl, yv3r0h⟩ := yv3post
  refine WL.y0' guard_none (Y0.move rfl) rfl ?_
  refine WL.y0' guard_none (Y0.extract rfl rfl) rfl ?_
  refine WL.y0' guard_none (Y0.extract rfl rfl) rfl ?_
  refine WL.y0' guard_none (Y0.assign rfl) rfl ?_
  refine WL.y0' guard_none (Y0.assign rfl) rfl ?_
  refine WL.nil ?_
  refine WE.then ?_
  refine WC.seq ?_
  refine WC.region ?_
  refine WL.y0' guard_none (Y0.move rfl) rfl ?_
  obtain ⟨yv4, hyv4, hr⟩ := hr
  refine WL.call guard_none rfl (YC.of E20 rfl) (L_components_Primary _ _ _ _ _ hyv4) rfl ((p1h.mono (Mem.le_trans (Mem.le_trans Gv2le Gv3le) Gv4le))) (fun yv4v Gv5 Gv5le yv4post => ?_)
  obtain ⟨yv4r0p, yv4r0c, rfl, yv4r0h⟩ := yv4post
  refine WL.y0' guard_none (Y0.move rfl) rfl ?_
  refine WL.y0' guard_none (Y0.extract rfl rfl) rfl ?_
  refine WL.y0' guard_none (Y0.extract rfl rfl) rfl ?_
  refine WL.y0' guard_none (Y0.assign rfl) rfl ?_
  refine WL.y0' guard_none (Y0.assign rfl) rfl ?_
  refine WL.nil ?_
  refine WE.then ?_
  refine WC.seq ?_
  refine WC.region ?_
  refine WL.y0' guard_none (Y0.move rfl) rfl ?_
  obtain ⟨yv5, hyv5, hr⟩ := hr
  refine WL.call guard_none rfl (YC.of E16 rfl) (L_components_Primes _ _ _ _ _ hyv5) rfl ((p1h.mono (Mem.le_trans (Mem.le_trans (Mem.le_trans Gv2le Gv3le) Gv4le) Gv5le))) (fun yv5v Gv6 Gv6le yv5post => ?_)
  obtain ⟨yv5r0p, yv5r0c, rfl, yv5r0h⟩ := yv5post
  refine WL.y0' guard_none (Y0.move rfl) rfl ?_
  refine WL.y0' guard_none (Y0.extract rfl rfl) rfl ?_
  refine WL.y0' guard_none (Y0.extract rfl rfl) rfl ?_
  refine WL.y0' guard_none (Y0.assign rfl) rfl ?_
  refine WL.y0' guard_none (Y0.assign rfl) rfl ?_
  refine WL.nil ?_
  refine WE.then ?_
  refine WC.seqH (fun (gx : Bool × Mem) => match gx with | ⟨v12_1, Gm1⟩ => [(1, .slice p1 2 2), (2, .slice yv1r0p yv1.1.length yv1r0c), (4, .slice yv2r0p yv2.1.length yv2r0c), (6, .slice yv3r0p yv3.1.length yv3r0c), (8, .slice yv4r0p yv4.1.length yv4r0c), (12, .bool v12_1)]) (fun (gx : Bool × Mem) => match gx with | ⟨v12_1, Gm1⟩ => Mem.le Gv6 Gm1 ∧ (law21_sanity_k1 yv1 yv2 yv3 yv4 v12_1).Ret r) (fun (gx : Bool × Mem) => match gx with | ⟨v12_1, Gm1⟩ => St w0 G0 Gm1 []) ?_ ?_
  · skip
    refine WC.region ?_
    refine WL.y0' guard_none (Y0.move rfl) rfl ?_
    refine WL.caseY0 (p := yv1.2 = 0) guard_none (Y0.eql rfl rfl) rfl (fun hb2 => ?_) (fun hb2 => ?_)
    · replace hr := hr.pos hb2
      refine WL.y0' guard_none (Y0.move rfl) rfl ?_
      refine WL.y0' (guard_yes rfl rfl) (Y0.move rfl) rfl ?_
      refine WL.caseY0 (p := yv2.2 = 0) (guard_yes rfl rfl) (Y0.eql rfl rfl) rfl (fun hb3 => ?_) (fun hb3 => ?_)
      · replace hr := hr.pos hb3
        refine WL.y0' guard_none (Y0.pickT rfl rfl) rfl ?_
        refine WL.y0' guard_none (Y0.move rfl) rfl ?_
        refine WL.y0' (guard_yes rfl rfl) (Y0.move rfl) rfl ?_
        refine WL.caseY0 (p := yv3.2 = 0) (guard_yes rfl rfl) (Y0.eql rfl rfl) rfl (fun hb4 => ?_) (fun hb4 => ?_)
        · replace hr := hr.pos hb4
          refine WL.y0' guard_none (Y0.pickT rfl rfl) rfl ?_
          refine WL.y0' guard_none (Y0.move rfl) rfl ?_
          refine WL.y0' (guard_yes rfl rfl) (Y0.move rfl) rfl ?_
          refine WL.caseY0 (p := yv4.2 = 0) (guard_yes rfl rfl) (Y0.eql rfl rfl) rfl (fun hb5 => ?_) (fun hb5 => ?_)
          · replace hr := hr.pos hb5
            refine WL.y0' guard_none (Y0.pickT rfl rfl) rfl ?_
            refine WL.y0' guard_none (Y0.move rfl) rfl ?_
            refine WL.y0' (guard_yes rfl rfl) (Y0.move rfl) rfl ?_
            refine WL.y0' (guard_yes rfl rfl) (Y0.eql rfl rfl) rfl ?_
            refine WL.y0' guard_none (Y0.pickT rfl rfl) rfl ?_
            refine WL.y0' guard_none (Y0.assign rfl) rfl ?_
            refine WL.nil ?_
            refine WE.midH ⟨decide (yv5.2 = 1), Gv6⟩ ⟨(Mem.le_refl _), hr⟩ (Fr.sub_cons rfl (Fr.sub_cons rfl (Fr.sub_cons rfl (Fr.sub_cons rfl (Fr.sub_cons rfl (Fr.sub_cons rfl (Fr.sub_nil _))))))) ?_
            · intro w hs
              exact hs.weaken (Lo.sub_nil _)
          · replace hr := hr.neg hb5
            refine WL.y0' guard_none (Y0.pickT rfl rfl) rfl ?_
            refine WL.y0' guard_none (Y0.move rfl) rfl ?_
            refine WL.skip (guard_noT rfl rfl) rfl ?_
            refine WL.skip (guard_noT rfl rfl) rfl ?_
            refine WL.y0' guard_none (Y0.pickF rfl rfl) rfl ?_
            refine WL.y0' guard_none (Y0.assign rfl) rfl ?_
            refine WL.nil ?_
            refine WE.midH ⟨false, Gv6⟩ ⟨(Mem.le_refl _), hr⟩ (Fr.sub_cons rfl (Fr.sub_cons rfl (Fr.sub_cons rfl (Fr.sub_cons rfl (Fr.sub_cons rfl (Fr.sub_cons rfl (Fr.sub_nil _))))))) ?_
            · intro w hs
              exact hs.weaken (Lo.sub_nil _)
        · replace hr := hr.neg hb4
          refine WL.y0' guard_none (Y0.pickT rfl rfl) rfl ?_
          refine WL.y0' guard_none (Y0.move rfl) rfl ?_
          refine WL.skip (guard_noT rfl rfl) rfl ?_
          refine WL.skip (guard_noT rfl rfl) rfl ?_
          refine WL.y0' guard_none (Y0.pickF rfl rfl) rfl ?_
          refine WL.y0' guard_none (Y0.move rfl) rfl ?_
          refine WL.skip (guard_noT rfl rfl) rfl ?_
          refine WL.skip (guard_noT rfl rfl) rfl ?_
          refine WL.y0' guard_none (Y0.pickF rfl rfl) rfl ?_
          refine WL.y0' guard_none (Y0.assign rfl) rfl ?_
          refine WL.nil ?_
          refine WE.midH ⟨false, Gv6⟩ ⟨(Mem.le_refl _), hr⟩ (Fr.sub_cons rfl (Fr.sub_cons rfl (Fr.sub_cons rfl (Fr.sub_cons rfl (Fr.sub_cons rfl (Fr.sub_cons rfl (Fr.sub_nil _))))))) ?_
          · intro w hs
            exact hs.weaken (Lo.sub_nil _)
      · replace hr := hr.neg hb3
        refine WL.y0' guard_none (Y0.pickT rfl rfl) rfl ?_
        refine WL.y0' guard_none (Y0.move rfl) rfl ?_
        refine WL.skip (guard_noT rfl rfl) rfl ?_
        refine WL.skip (guard_noT rfl rfl) rfl ?_
        refine WL.y0' guard_none (Y0.pickF rfl rfl) rfl ?_
        refine WL.y0' guard_none (Y0.move rfl) rfl ?_
        refine WL.skip (guard_noT rfl rfl) rfl ?_
        refine WL.skip (guard_noT rfl rfl) rfl ?_
        refine WL.y0' guard_none (Y0.pickF rfl rfl) rfl ?_
        refine WL.y0' guard_none (Y0.move rfl) rfl ?_
        refine WL.skip (guard_noT rfl rfl) rfl ?_
        refine WL.skip (guard_noT rfl rfl) rfl ?_
        refine WL.y0' guard_none (Y0.pickF rfl rfl) rfl ?_
        refine WL.y0' guard_none (Y0.assign rfl) rfl ?_
        refine WL.nil ?_
        refine WE.midH ⟨false, Gv6⟩ ⟨(Mem.le_refl _), hr⟩ (Fr.sub_cons rfl (Fr.sub_cons rfl (Fr.sub_cons rfl (Fr.sub_cons rfl (Fr.sub_cons rfl (Fr.sub_cons rfl (Fr.sub_nil _))))))) ?_
        · intro w hs
          exact hs.weaken (Lo.sub_nil _)
    · replace hr := hr.neg hb2
      refine WL.y0' guard_none (Y0.move rfl) rfl ?_
      refine WL.skip (guard_noT rfl rfl) rfl ?_
      refine WL.skip (guard_noT rfl rfl) rfl ?_
      refine WL.y0' guard_none (Y0.pickF rfl rfl) rfl ?_
      refine WL.y0' guard_none (Y0.move rfl) rfl ?_
      refine WL.skip (guard_noT rfl rfl) rfl ?_
      refine WL.skip (guard_noT rfl rfl) rfl ?_
      refine WL.y0' guard_none (Y0.pickF rfl rfl) rfl ?_
      refine WL.y0' guard_none (Y0.move rfl) rfl ?_
      refine WL.skip (guard_noT rfl rfl) rfl ?_
      refine WL.skip (guard_noT rfl rfl) rfl ?_
      refine WL.y0' guard_none (Y0.pickF rfl rfl) rfl ?_
      refine WL.y0' guard_none (Y0.move rfl) rfl ?_
      refine WL.skip (guard_noT rfl rfl) rfl ?_
      refine WL.skip (guard_noT rfl rfl) rfl ?_
      refine WL.y0' guard_none (Y0.pickF rfl rfl) rfl ?_
      refine WL.y0' guard_none (Y0.assign rfl) rfl ?_
      refine WL.nil ?_
      refine WE.midH ⟨false, Gv6⟩ ⟨(Mem.le_refl _), hr⟩ (Fr.sub_cons rfl (Fr.sub_cons rfl (Fr.sub_cons rfl (Fr.sub_cons rfl (Fr.sub_cons rfl (Fr.sub_cons rfl (Fr.sub_nil _))))))) ?_
      · intro w hs
        exact hs.weaken (Lo.sub_nil _)
  · rintro ⟨v12_1, Gm1⟩ ⟨Gm1le, hr⟩
    refine WC.seq ?_
    refine WC.region ?_
    refine WL.y0' guard_none (Y0.build (vs := #[(0, .int .i64 1)]) (v := .agg (vecG (Value.int .i64) 8 (setF (fun _ => 0) 0 1)).toArray) rfl rfl (fun _ => by kernel_rfl)) rfl ?_
    refine WL.litR (e := 48) (r := (Rp.vec .i64 8)) (vs := #[(0, .agg (vecG (Value.int .i64) 8 (setF (fun _ => 0) 0 1)).toArray)]) (cs := (vecG (Value.int .i64) 8 (setF (fun _ => 0) 0 1)) ++ ([])) ([setF (fun _ => 0) 0 1] : List (Fin 8 → Int)) guard_none rfl rfl rfl rfl (by decide) (fun _ => by kernel_rfl) ⟨vecG (Value.int .i64) 8 (setF (fun _ => 0) 0 1), [], rfl, rfl, rfl⟩ (key := 999) rfl (by rw [hL0]; rfl) (fun p2 Gv7 Gv7le p2h => ?_)
    refine WL.y0' guard_none (Y0.build (vs := #[(0, .int .u8 1), (1, .slice p2 1 1)]) (v := .agg ([.int .u8 1, .slice p2 1 1]).toArray) rfl rfl (fun _ => by kernel_rfl)) rfl ?_
    refine WL.y0' guard_none (Y0.build (vs := #[(0, .int .i64 2)]) (v := .agg (vecG (Value.int .i64) 8 (setF (fun _ => 0) 0 2)).toArray) rfl rfl (fun _ => by kernel_rfl)) rfl ?_
    refine WL.y0' guard_none (Y0.build (vs := #[(0, .int .i64 0), (1, .int .i64 1)]) (v := .agg (vecG (Value.int .i64) 8 (setF (setF (fun _ => 0) 0 0) 1 1)).toArray) rfl rfl (fun _ => by kernel_rfl)) rfl ?_
    refine WL.litR (e := 48) (r := (Rp.vec .i64 8)) (vs := #[(0, .agg (vecG (Value.int .i64) 8 (setF (fun _ => 0) 0 2)).toArray), (1, .agg (vecG (Value.int .i64) 8 (setF (setF (fun _ => 0) 0 0) 1 1)).toArray)]) (cs := (vecG (Value.int .i64) 8 (setF (fun _ => 0) 0 2)) ++ ((vecG (Value.int .i64) 8 (setF (setF (fun _ => 0) 0 0) 1 1)) ++ ([]))) ([setF (fun _ => 0) 0 2, setF (setF (fun _ => 0) 0 0) 1 1] : List (Fin 8 → Int)) guard_none rfl rfl rfl rfl (by decide) (fun _ => by kernel_rfl) ⟨vecG (Value.int .i64) 8 (setF (fun _ => 0) 0 2), (vecG (Value.int .i64) 8 (setF (setF (fun _ => 0) 0 0) 1 1)) ++ ([]), rfl, rfl, ⟨vecG (Value.int .i64) 8 (setF (setF (fun _ => 0) 0 0) 1 1), [], rfl, rfl, rfl⟩⟩ (key := 999) rfl (by rw [hL0]; rfl) (fun p3 Gv8 Gv8le p3h => ?_)
    refine WL.y0' guard_none (Y0.build (vs := #[(0, .int .u8 3), (1, .slice p3 2 2)]) (v := .agg ([.int .u8 3, .slice p3 2 2]).toArray) rfl rfl (fun _ => by kernel_rfl)) rfl ?_
    refine WL.litR (e := 60) (r := rp_api_Part) (vs := #[(0, .agg ([.int .u8 1, .slice p2 1 1]).toArray), (1, .agg ([.int .u8 3, .slice p3 2 2]).toArray)]) (cs := [.int .u8 1, .slice p2 1 1] ++ ([.int .u8 3, .slice p3 2 2] ++ ([]))) ([(T_api_Part.mk 1 [setF (fun _ => 0) 0 1]), (T_api_Part.mk 3 [setF (fun _ => 0) 0 2, setF (setF (fun _ => 0) 0 0) 1 1])] : List T_api_Part) guard_none rfl rfl rfl rfl (by decide) (fun _ => by kernel_rfl) ⟨[.int .u8 1, .slice p2 1 1], [.int .u8 3, .slice p3 2 2] ++ ([]), rfl, ⟨[.int .u8 1], [.slice p2 1 1], rfl, rfl, ⟨_, rfl, (p2h.mono Gv8le)⟩⟩, ⟨[.int .u8 3, .slice p3 2 2], [], rfl, ⟨[.int .u8 3], [.slice p3 2 2], rfl, rfl, ⟨_, rfl, p3h⟩⟩, rfl⟩⟩ (key := 999) rfl (by rw [hL0]; rfl) (fun p4 Gv9 Gv9le p4h => ?_)
    refine WL.y0' guard_none (Y0.assign rfl) rfl ?_
    refine WL.nil ?_
    refine WE.then ?_
    refine WC.seq ?_
    refine WC.region ?_
    refine WL.caseY0 (p := v12_1 = true) guard_none (Y0.eq (Y0.move rfl) (congrArg Value.bool (bdec _))) rfl (fun hb1 => ?_) (fun hb1 => ?_)
    · replace hr := hr.pos hb1
      refine WL.y0' guard_none (Y0.move rfl) rfl ?_
      refine WL.y0' (guard_yes rfl rfl) (Y0.move rfl) rfl ?_
      refine WL.y0' (guard_yes rfl rfl) (Y0.build (vs := #[(0, .int .i64 2), (1, .int .i64 1)]) (v := .agg (vecG (Value.int .i64) 8 (setF (setF (fun _ => 0) 0 2) 1 1)).toArray) rfl rfl (fun _ => by kernel_rfl)) rfl ?_
      refine WL.y0' (guard_yes rfl rfl) (Y0.build (vs := #[(0, .int .i64 1)]) (v := .agg (vecG (Value.int .i64) 8 (setF (fun _ => 0) 0 1)).toArray) rfl rfl (fun _ => by kernel_rfl)) rfl ?_
      refine WL.litR (e := 48) (r := (Rp.vec .i64 8)) (vs := #[(0, .agg (vecG (Value.int .i64) 8 (setF (setF (fun _ => 0) 0 2) 1 1)).toArray), (1, .agg (vecG (Value.int .i64) 8 (setF (fun _ => 0) 0 1)).toArray)]) (cs := (vecG (Value.int .i64) 8 (setF (setF (fun _ => 0) 0 2) 1 1)) ++ ((vecG (Value.int .i64) 8 (setF (fun _ => 0) 0 1)) ++ ([]))) ([setF (setF (fun _ => 0) 0 2) 1 1, setF (fun _ => 0) 0 1] : List (Fin 8 → Int)) (guard_yes rfl rfl) rfl rfl rfl rfl (by decide) (fun _ => by kernel_rfl) ⟨vecG (Value.int .i64) 8 (setF (setF (fun _ => 0) 0 2) 1 1), (vecG (Value.int .i64) 8 (setF (fun _ => 0) 0 1)) ++ ([]), rfl, rfl, ⟨vecG (Value.int .i64) 8 (setF (fun _ => 0) 0 1), [], rfl, rfl, rfl⟩⟩ (key := 999) rfl (by rw [hL0]; rfl) (fun p5 Gv10 Gv10le p5h => ?_)
      obtain ⟨yv6, hyv6, hr⟩ := hr
      refine WL.call0 (guard_yes rfl rfl) rfl (YC.of E22 rfl) (L_R04_Same _ _ _ _ _ _ _ hyv6) rfl (⟨(yv1r0h.mono (Mem.le_trans (Mem.le_trans (Mem.le_trans (Mem.le_trans (Mem.le_trans (Mem.le_trans (Mem.le_trans (Mem.le_trans Gv3le Gv4le) Gv5le) Gv6le) Gm1le) Gv7le) Gv8le) Gv9le) Gv10le)), p5h⟩) ?_
      cases yv6
      · skip
        refine WL.y0' guard_none (Y0.pickT rfl rfl) rfl ?_
        refine WL.y0' guard_none (Y0.move rfl) rfl ?_
        refine WL.skip (guard_noT rfl rfl) rfl ?_
        refine WL.skip (guard_noT rfl rfl) rfl ?_
        refine WL.skip (guard_noT rfl rfl) rfl ?_
        refine WL.y0' guard_none (Y0.pickF rfl rfl) rfl ?_
        refine WL.y0' guard_none (Y0.move rfl) rfl ?_
        refine WL.skip (guard_noT rfl rfl) rfl ?_
        refine WL.skip (guard_noT rfl rfl) rfl ?_
        refine WL.skip (guard_noT rfl rfl) rfl ?_
        refine WL.y0' guard_none (Y0.pickF rfl rfl) rfl ?_
        refine WL.y0' guard_none (Y0.move rfl) rfl ?_
        refine WL.skip (guard_noT rfl rfl) rfl ?_
        refine WL.skip (guard_noT rfl rfl) rfl ?_
        refine WL.skip (guard_noT rfl rfl) rfl ?_
        refine WL.y0' guard_none (Y0.pickF rfl rfl) rfl ?_
        refine WL.y0' guard_none (Y0.move rfl) rfl ?_
        refine WL.skip (guard_noT rfl rfl) rfl ?_
        refine WL.skip (guard_noT rfl rfl) rfl ?_
        refine WL.skip (guard_noT rfl rfl) rfl ?_
        refine WL.skip (guard_noT rfl rfl) rfl ?_
        refine WL.skip (guard_noT rfl rfl) rfl ?_
        refine WL.y0' guard_none (Y0.pickF rfl rfl) rfl ?_
        refine WL.y0' guard_none (Y0.move rfl) rfl ?_
        refine WL.skip (guard_noT rfl rfl) rfl ?_
        refine WL.skip (guard_noT rfl rfl) rfl ?_
        refine WL.skip (guard_noT rfl rfl) rfl ?_
        refine WL.skip (guard_noT rfl rfl) rfl ?_
        refine WL.skip (guard_noT rfl rfl) rfl ?_
        refine WL.skip (guard_noT rfl rfl) rfl ?_
        refine WL.skip (guard_noT rfl rfl) rfl ?_
        refine WL.skip (guard_noT rfl rfl) rfl ?_
        refine WL.y0' guard_none (Y0.pickF rfl rfl) rfl ?_
        refine WL.y0' guard_none (Y0.assign rfl) rfl ?_
        refine WL.nil ?_
        refine WE.then ?_
        refine WC.ret ?_
        replace hr : _ = r := hr
        subst hr
        exact WE.ret1 rfl rfl rfl
      · skip
        refine WL.y0' guard_none (Y0.pickT rfl rfl) rfl ?_
        refine WL.y0' guard_none (Y0.move rfl) rfl ?_
        refine WL.y0' (guard_yes rfl rfl) (Y0.move rfl) rfl ?_
        refine WL.litR (e := 5) (r := (Rp.int .u8)) (vs := #[(0, .int .u8 1), (1, .int .u8 3)]) (cs := [.int .u8 1] ++ ([.int .u8 3] ++ ([]))) ([1, 3] : List Int) (guard_yes rfl rfl) rfl rfl rfl rfl (by decide) (fun _ => by kernel_rfl) ⟨[.int .u8 1], [.int .u8 3] ++ ([]), rfl, rfl, ⟨[.int .u8 3], [], rfl, rfl, rfl⟩⟩ (key := 999) rfl (by rw [hL0]; rfl) (fun p6 Gv12 Gv12le p6h => ?_)
        obtain ⟨yv7, hyv7, hr⟩ := hr
        refine WL.call0 (guard_yes rfl rfl) rfl (YC.of E23 rfl) (L_R18_SameSets _ _ _ _ _ _ _ hyv7) rfl (⟨(yv2r0h.mono (Mem.le_trans (Mem.le_trans (Mem.le_trans (Mem.le_trans (Mem.le_trans (Mem.le_trans (Mem.le_trans (Mem.le_trans Gv4le Gv5le) Gv6le) Gm1le) Gv7le) Gv8le) Gv9le) Gv10le) Gv12le)), p6h⟩) ?_
        cases yv7
        · skip
          refine WL.y0' guard_none (Y0.pickT rfl rfl) rfl ?_
          refine WL.y0' guard_none (Y0.move rfl) rfl ?_
          refine WL.skip (guard_noT rfl rfl) rfl ?_
          refine WL.skip (guard_noT rfl rfl) rfl ?_
          refine WL.skip (guard_noT rfl rfl) rfl ?_
          refine WL.y0' guard_none (Y0.pickF rfl rfl) rfl ?_
          refine WL.y0' guard_none (Y0.move rfl) rfl ?_
          refine WL.skip (guard_noT rfl rfl) rfl ?_
          refine WL.skip (guard_noT rfl rfl) rfl ?_
          refine WL.skip (guard_noT rfl rfl) rfl ?_
          refine WL.y0' guard_none (Y0.pickF rfl rfl) rfl ?_
          refine WL.y0' guard_none (Y0.move rfl) rfl ?_
          refine WL.skip (guard_noT rfl rfl) rfl ?_
          refine WL.skip (guard_noT rfl rfl) rfl ?_
          refine WL.skip (guard_noT rfl rfl) rfl ?_
          refine WL.skip (guard_noT rfl rfl) rfl ?_
          refine WL.skip (guard_noT rfl rfl) rfl ?_
          refine WL.y0' guard_none (Y0.pickF rfl rfl) rfl ?_
          refine WL.y0' guard_none (Y0.move rfl) rfl ?_
          refine WL.skip (guard_noT rfl rfl) rfl ?_
          refine WL.skip (guard_noT rfl rfl) rfl ?_
          refine WL.skip (guard_noT rfl rfl) rfl ?_
          refine WL.skip (guard_noT rfl rfl) rfl ?_
          refine WL.skip (guard_noT rfl rfl) rfl ?_
          refine WL.skip (guard_noT rfl rfl) rfl ?_
          refine WL.skip (guard_noT rfl rfl) rfl ?_
          refine WL.skip (guard_noT rfl rfl) rfl ?_
          refine WL.y0' guard_none (Y0.pickF rfl rfl) rfl ?_
          refine WL.y0' guard_none (Y0.assign rfl) rfl ?_
          refine WL.nil ?_
          refine WE.then ?_
          refine WC.ret ?_
          replace hr : _ = r := hr
          subst hr
          exact WE.ret1 rfl rfl rfl
        · skip
          refine WL.y0' guard_none (Y0.pickT rfl rfl) rfl ?_
          refine WL.y0' guard_none (Y0.move rfl) rfl ?_
          refine WL.y0' (guard_yes rfl rfl) (Y0.move rfl) rfl ?_
          refine WL.litR (e := 5) (r := (Rp.int .u8)) (vs := #[(0, .int .u8 3)]) (cs := [.int .u8 3] ++ ([])) ([3] : List Int) (guard_yes rfl rfl) rfl rfl rfl rfl (by decide) (fun _ => by kernel_rfl) ⟨[.int .u8 3], [], rfl, rfl, rfl⟩ (key := 999) rfl (by rw [hL0]; rfl) (fun p7 Gv14 Gv14le p7h => ?_)
          obtain ⟨yv8, hyv8, hr⟩ := hr
          refine WL.call0 (guard_yes rfl rfl) rfl (YC.of E23 rfl) (L_R18_SameSets _ _ _ _ _ _ _ hyv8) rfl (⟨(yv3r0h.mono (Mem.le_trans (Mem.le_trans (Mem.le_trans (Mem.le_trans (Mem.le_trans (Mem.le_trans (Mem.le_trans (Mem.le_trans Gv5le Gv6le) Gm1le) Gv7le) Gv8le) Gv9le) Gv10le) Gv12le) Gv14le)), p7h⟩) ?_
          cases yv8
          · skip
            refine WL.y0' guard_none (Y0.pickT rfl rfl) rfl ?_
            refine WL.y0' guard_none (Y0.move rfl) rfl ?_
            refine WL.skip (guard_noT rfl rfl) rfl ?_
            refine WL.skip (guard_noT rfl rfl) rfl ?_
            refine WL.skip (guard_noT rfl rfl) rfl ?_
            refine WL.y0' guard_none (Y0.pickF rfl rfl) rfl ?_
            refine WL.y0' guard_none (Y0.move rfl) rfl ?_
            refine WL.skip (guard_noT rfl rfl) rfl ?_
            refine WL.skip (guard_noT rfl rfl) rfl ?_
            refine WL.skip (guard_noT rfl rfl) rfl ?_
            refine WL.skip (guard_noT rfl rfl) rfl ?_
            refine WL.skip (guard_noT rfl rfl) rfl ?_
            refine WL.y0' guard_none (Y0.pickF rfl rfl) rfl ?_
            refine WL.y0' guard_none (Y0.move rfl) rfl ?_
            refine WL.skip (guard_noT rfl rfl) rfl ?_
            refine WL.skip (guard_noT rfl rfl) rfl ?_
            refine WL.skip (guard_noT rfl rfl) rfl ?_
            refine WL.skip (guard_noT rfl rfl) rfl ?_
            refine WL.skip (guard_noT rfl rfl) rfl ?_
            refine WL.skip (guard_noT rfl rfl) rfl ?_
            refine WL.skip (guard_noT rfl rfl) rfl ?_
            refine WL.skip (guard_noT rfl rfl) rfl ?_
            refine WL.y0' guard_none (Y0.pickF rfl rfl) rfl ?_
            refine WL.y0' guard_none (Y0.assign rfl) rfl ?_
            refine WL.nil ?_
            refine WE.then ?_
            refine WC.ret ?_
            replace hr : _ = r := hr
            subst hr
            exact WE.ret1 rfl rfl rfl
          · skip
            refine WL.y0' guard_none (Y0.pickT rfl rfl) rfl ?_
            refine WL.y0' guard_none (Y0.move rfl) rfl ?_
            refine WL.y0' (guard_yes rfl rfl) (Y0.move rfl) rfl ?_
            refine WL.y0' (guard_yes rfl rfl) (Y0.move rfl) rfl ?_
            obtain ⟨yv9, hyv9, hr⟩ := hr
            refine WL.call0 (guard_yes rfl rfl) rfl (YC.of E24 rfl) (L_R21_SameParts _ _ _ _ _ _ _ hyv9) rfl (⟨(yv4r0h.mono (Mem.le_trans (Mem.le_trans (Mem.le_trans (Mem.le_trans (Mem.le_trans (Mem.le_trans (Mem.le_trans Gv6le Gm1le) Gv7le) Gv8le) Gv9le) Gv10le) Gv12le) Gv14le)), (p4h.mono (Mem.le_trans (Mem.le_trans Gv10le Gv12le) Gv14le))⟩) ?_
            cases yv9
            · skip
              refine WL.y0' guard_none (Y0.pickT rfl rfl) rfl ?_
              refine WL.y0' guard_none (Y0.move rfl) rfl ?_
              refine WL.skip (guard_noT rfl rfl) rfl ?_
              refine WL.skip (guard_noT rfl rfl) rfl ?_
              refine WL.skip (guard_noT rfl rfl) rfl ?_
              refine WL.skip (guard_noT rfl rfl) rfl ?_
              refine WL.skip (guard_noT rfl rfl) rfl ?_
              refine WL.y0' guard_none (Y0.pickF rfl rfl) rfl ?_
              refine WL.y0' guard_none (Y0.move rfl) rfl ?_
              refine WL.skip (guard_noT rfl rfl) rfl ?_
              refine WL.skip (guard_noT rfl rfl) rfl ?_
              refine WL.skip (guard_noT rfl rfl) rfl ?_
              refine WL.skip (guard_noT rfl rfl) rfl ?_
              refine WL.skip (guard_noT rfl rfl) rfl ?_
              refine WL.skip (guard_noT rfl rfl) rfl ?_
              refine WL.skip (guard_noT rfl rfl) rfl ?_
              refine WL.skip (guard_noT rfl rfl) rfl ?_
              refine WL.y0' guard_none (Y0.pickF rfl rfl) rfl ?_
              refine WL.y0' guard_none (Y0.assign rfl) rfl ?_
              refine WL.nil ?_
              refine WE.then ?_
              refine WC.ret ?_
              replace hr : _ = r := hr
              subst hr
              exact WE.ret1 rfl rfl rfl
            · skip
              refine WL.y0' guard_none (Y0.pickT rfl rfl) rfl ?_
              refine WL.y0' guard_none (Y0.move rfl) rfl ?_
              refine WL.y0' (guard_yes rfl rfl) (Y0.move rfl) rfl ?_
              obtain ⟨yv10, hyv10, hr⟩ := hr
              refine WL.call (guard_yes rfl rfl) rfl (YC.of E27 rfl) (L_components_Radical _ _ _ _ hyv10) rfl ((p1h.mono (Mem.le_trans (Mem.le_trans (Mem.le_trans (Mem.le_trans (Mem.le_trans (Mem.le_trans (Mem.le_trans (Mem.le_trans (Mem.le_trans (Mem.le_trans (Mem.le_trans Gv2le Gv3le) Gv4le) Gv5le) Gv6le) Gm1le) Gv7le) Gv8le) Gv9le) Gv10le) Gv12le) Gv14le))) (fun yv10v Gv17 Gv17le yv10post => ?_)
              obtain ⟨yv10p, yv10c, rfl, yv10h⟩ := yv10post
              refine WL.y0' (guard_yes rfl rfl) (Y0.build (vs := #[(0, .int .i64 1)]) (v := .agg (vecG (Value.int .i64) 8 (setF (fun _ => 0) 0 1)).toArray) rfl rfl (fun _ => by kernel_rfl)) rfl ?_
              refine WL.litR (e := 48) (r := (Rp.vec .i64 8)) (vs := #[(0, .agg (vecG (Value.int .i64) 8 (setF (fun _ => 0) 0 1)).toArray)]) (cs := (vecG (Value.int .i64) 8 (setF (fun _ => 0) 0 1)) ++ ([])) ([setF (fun _ => 0) 0 1] : List (Fin 8 → Int)) (guard_yes rfl rfl) rfl rfl rfl rfl (by decide) (fun _ => by kernel_rfl) ⟨vecG (Value.int .i64) 8 (setF (fun _ => 0) 0 1), [], rfl, rfl, rfl⟩ (key := 999) rfl (by rw [hL0]; rfl) (fun p8 Gv18 Gv18le p8h => ?_)
              obtain ⟨yv11, hyv11, hr⟩ := hr
              refine WL.call0 (guard_yes rfl rfl) rfl (YC.of E22 rfl) (L_R04_Same _ _ _ _ _ _ _ hyv11) rfl (⟨(yv10h.mono Gv18le), p8h⟩) ?_
              cases yv11
              · skip
                refine WL.y0' guard_none (Y0.pickT rfl rfl) rfl ?_
                refine WL.y0' guard_none (Y0.move rfl) rfl ?_
                refine WL.skip (guard_noT rfl rfl) rfl ?_
                refine WL.skip (guard_noT rfl rfl) rfl ?_
                refine WL.skip (guard_noT rfl rfl) rfl ?_
                refine WL.skip (guard_noT rfl rfl) rfl ?_
                refine WL.skip (guard_noT rfl rfl) rfl ?_
                refine WL.skip (guard_noT rfl rfl) rfl ?_
                refine WL.skip (guard_noT rfl rfl) rfl ?_
                refine WL.skip (guard_noT rfl rfl) rfl ?_
                refine WL.y0' guard_none (Y0.pickF rfl rfl) rfl ?_
                refine WL.y0' guard_none (Y0.assign rfl) rfl ?_
                refine WL.nil ?_
                refine WE.then ?_
                refine WC.ret ?_
                replace hr : _ = r := hr
                subst hr
                exact WE.ret1 rfl rfl rfl
              · skip
                refine WL.y0' guard_none (Y0.pickT rfl rfl) rfl ?_
                refine WL.y0' guard_none (Y0.move rfl) rfl ?_
                refine WL.y0' (guard_yes rfl rfl) (Y0.build (vs := #[(0, .int .i64 1)]) (v := .agg (vecG (Value.int .i64) 8 (setF (fun _ => 0) 0 1)).toArray) rfl rfl (fun _ => by kernel_rfl)) rfl ?_
                refine WL.litR (e := 48) (r := (Rp.vec .i64 8)) (vs := #[(0, .agg (vecG (Value.int .i64) 8 (setF (fun _ => 0) 0 1)).toArray)]) (cs := (vecG (Value.int .i64) 8 (setF (fun _ => 0) 0 1)) ++ ([])) ([setF (fun _ => 0) 0 1] : List (Fin 8 → Int)) (guard_yes rfl rfl) rfl rfl rfl rfl (by decide) (fun _ => by kernel_rfl) ⟨vecG (Value.int .i64) 8 (setF (fun _ => 0) 0 1), [], rfl, rfl, rfl⟩ (key := 999) rfl (by rw [hL0]; rfl) (fun p9 Gv20 Gv20le p9h => ?_)
                refine WL.y0' (guard_yes rfl rfl) (Y0.build (vs := #[(0, .int .i64 0), (1, .int .i64 1)]) (v := .agg (vecG (Value.int .i64) 8 (setF (setF (fun _ => 0) 0 0) 1 1)).toArray) rfl rfl (fun _ => by kernel_rfl)) rfl ?_
                refine WL.litR (e := 48) (r := (Rp.vec .i64 8)) (vs := #[(0, .agg (vecG (Value.int .i64) 8 (setF (setF (fun _ => 0) 0 0) 1 1)).toArray)]) (cs := (vecG (Value.int .i64) 8 (setF (setF (fun _ => 0) 0 0) 1 1)) ++ ([])) ([setF (setF (fun _ => 0) 0 0) 1 1] : List (Fin 8 → Int)) (guard_yes rfl rfl) rfl rfl rfl rfl (by decide) (fun _ => by kernel_rfl) ⟨vecG (Value.int .i64) 8 (setF (setF (fun _ => 0) 0 0) 1 1), [], rfl, rfl, rfl⟩ (key := 999) rfl (by rw [hL0]; rfl) (fun p10 Gv21 Gv21le p10h => ?_)
                obtain ⟨yv12, hyv12, hr⟩ := hr
                refine WL.call (guard_yes rfl rfl) rfl (YC.of E25 rfl) (L_components_Meet _ _ _ _ _ _ _ hyv12) rfl (⟨(p9h.mono Gv21le), p10h⟩) (fun yv12v Gv22 Gv22le yv12post => ?_)
                obtain ⟨yv12p, yv12c, rfl, yv12h⟩ := yv12post
                refine WL.y0' (guard_yes rfl rfl) (Y0.build (vs := #[(0, .int .i64 1), (1, .int .i64 1)]) (v := .agg (vecG (Value.int .i64) 8 (setF (setF (fun _ => 0) 0 1) 1 1)).toArray) rfl rfl (fun _ => by kernel_rfl)) rfl ?_
                refine WL.litR (e := 48) (r := (Rp.vec .i64 8)) (vs := #[(0, .agg (vecG (Value.int .i64) 8 (setF (setF (fun _ => 0) 0 1) 1 1)).toArray)]) (cs := (vecG (Value.int .i64) 8 (setF (setF (fun _ => 0) 0 1) 1 1)) ++ ([])) ([setF (setF (fun _ => 0) 0 1) 1 1] : List (Fin 8 → Int)) (guard_yes rfl rfl) rfl rfl rfl rfl (by decide) (fun _ => by kernel_rfl) ⟨vecG (Value.int .i64) 8 (setF (setF (fun _ => 0) 0 1) 1 1), [], rfl, rfl, rfl⟩ (key := 999) rfl (by rw [hL0]; rfl) (fun p11 Gv23 Gv23le p11h => ?_)
                obtain ⟨yv13, hyv13, hr⟩ := hr
                refine WL.call0 (guard_yes rfl rfl) rfl (YC.of E22 rfl) (L_R04_Same _ _ _ _ _ _ _ hyv13) rfl (⟨(yv12h.mono Gv23le), p11h⟩) ?_
                refine WL.y0' guard_none (Y0.pickT rfl rfl) rfl ?_
                refine WL.y0' guard_none (Y0.assign rfl) rfl ?_
                refine WL.nil ?_
                refine WE.then ?_
                refine WC.ret ?_
                replace hr : _ = r := hr
                subst hr
                exact WE.ret1 rfl rfl rfl
    · replace hr := hr.neg hb1
      refine WL.y0' guard_none (Y0.move rfl) rfl ?_
      refine WL.skip (guard_noT rfl rfl) rfl ?_
      refine WL.skip (guard_noT rfl rfl) rfl ?_
      refine WL.skip (guard_noT rfl rfl) rfl ?_
      refine WL.skip (guard_noT rfl rfl) rfl ?_
      refine WL.skip (guard_noT rfl rfl) rfl ?_
      refine WL.y0' guard_none (Y0.pickF rfl rfl) rfl ?_
      refine WL.y0' guard_none (Y0.move rfl) rfl ?_
      refine WL.skip (guard_noT rfl rfl) rfl ?_
      refine WL.skip (guard_noT rfl rfl) rfl ?_
      refine WL.skip (guard_noT rfl rfl) rfl ?_
      refine WL.y0' guard_none (Y0.pickF rfl rfl) rfl ?_
      refine WL.y0' guard_none (Y0.move rfl) rfl ?_
      refine WL.skip (guard_noT rfl rfl) rfl ?_
      refine WL.skip (guard_noT rfl rfl) rfl ?_
      refine WL.skip (guard_noT rfl rfl) rfl ?_
      refine WL.y0' guard_none (Y0.pickF rfl rfl) rfl ?_
      refine WL.y0' guard_none (Y0.move rfl) rfl ?_
      refine WL.skip (guard_noT rfl rfl) rfl ?_
      refine WL.skip (guard_noT rfl rfl) rfl ?_
      refine WL.skip (guard_noT rfl rfl) rfl ?_
      refine WL.y0' guard_none (Y0.pickF rfl rfl) rfl ?_
      refine WL.y0' guard_none (Y0.move rfl) rfl ?_
      refine WL.skip (guard_noT rfl rfl) rfl ?_
      refine WL.skip (guard_noT rfl rfl) rfl ?_
      refine WL.skip (guard_noT rfl rfl) rfl ?_
      refine WL.skip (guard_noT rfl rfl) rfl ?_
      refine WL.skip (guard_noT rfl rfl) rfl ?_
      refine WL.y0' guard_none (Y0.pickF rfl rfl) rfl ?_
      refine WL.y0' guard_none (Y0.move rfl) rfl ?_
      refine WL.skip (guard_noT rfl rfl) rfl ?_
      refine WL.skip (guard_noT rfl rfl) rfl ?_
      refine WL.skip (guard_noT rfl rfl) rfl ?_
      refine WL.skip (guard_noT rfl rfl) rfl ?_
      refine WL.skip (guard_noT rfl rfl) rfl ?_
      refine WL.skip (guard_noT rfl rfl) rfl ?_
      refine WL.skip (guard_noT rfl rfl) rfl ?_
      refine WL.skip (guard_noT rfl rfl) rfl ?_
      refine WL.y0' guard_none (Y0.pickF rfl rfl) rfl ?_
      refine WL.y0' guard_none (Y0.assign rfl) rfl ?_
      refine WL.nil ?_
      refine WE.then ?_
      refine WC.ret ?_
      replace hr : _ = r := hr
      subst hr
      exact WE.ret1 rfl rfl rfl
end Go.Proofs.Ytbdknlblnfnkkaa
