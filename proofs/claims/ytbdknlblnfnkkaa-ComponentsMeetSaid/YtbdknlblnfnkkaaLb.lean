/- The code does what the models say. The conditions stand in each statement. -/
import Derived.Test.YtbdknlblnfnkkaaLa
namespace Go.Proofs.Ytbdknlblnfnkkaa
open Go Go.EL Go.RowKit Go.Proofs
theorem L_slices_partitionOrdered_uint8 (a0_1 : (List Int)) (a1_1 : Int) (a2_1 : Int) (a3_1 : Int) (a0_1p : Option Addr) (a0_1c : Nat) (a0_1n : Nat) (a0_1tk : Option Ow) (r : Int × Bool × (List Int)) (hr : (slices_partitionOrdered_uint8 a0_1 a1_1 a2_1 a3_1).Ret r) : CtrL Try.prog 121 #[.slice a0_1p a0_1n a0_1c, .int .i64 a1_1, .int .i64 a2_1, .int .i64 a3_1] [(5000, a0_1tk)] (fun G => RowR (Rp.int .u8) 5 G (.slice a0_1p a0_1n a0_1c) a0_1 a0_1tk) (fun G L v => ∃ zk0, L = [(5000, zk0)] ∧ v = .tuple #[.int .i64 r.1, .bool r.2.1] ∧ RowR (Rp.int .u8) 5 G (.slice a0_1p a0_1n a0_1c) r.2.2 zk0) := by
  refine CtrL.enter (args := [_, _, _, _]) (N := 168) Try.func121 rfl rfl rfl (fun w0 G0 hL0 hpre => ?_)
  have a0_1h := hpre
  refine WC.seq ?_
  refine WC.region ?_
  refine WL.y0' guard_none (Y0.assign rfl) rfl ?_
  refine WL.y0' guard_none (Y0.assign rfl) rfl ?_
  refine WL.nil ?_
  refine WE.then ?_
  refine WC.seq ?_
  refine WC.drawn [false, false, true, true, false, false, false, false, false, false, false, false, false] mix (by kernel_rfl) (fun hb => ?_)
  refine Chain.y0 guard_none (fun _ hle => Y0.move rfl) ?_
  refine Chain.y0 guard_none (fun _ hle => Y0.move rfl) ?_
  refine Chain.float guard_none (Y0.move rfl) ?_
  refine Chain.float guard_none (Y0.move rfl) ?_
  refine Chain.y0 guard_none (fun _ hle => Y0.move rfl) ?_
  refine Chain.y0 guard_none (fun _ hle => Y0.move rfl) ?_
  obtain ⟨x1, hx1, hr⟩ := hr
  refine Chain.y0 guard_none (fun _ hle => Y0.idxRow Try.underlying33 sz5 (a0_1h.mono hle) rfl rfl hx1) ?_
  refine Chain.y0 guard_none (fun _ hle => Y0.loadT sc5 (a0_1h.mono hle) (key := 5000) rfl rfl (AtK.int (RowR.at a0_1h hx1))) ?_
  refine Chain.y0 guard_none (fun _ hle => Y0.move rfl) ?_
  refine Chain.y0 guard_none (fun _ hle => Y0.move rfl) ?_
  obtain ⟨x2, hx2, hr⟩ := hr
  refine Chain.y0 guard_none (fun _ hle => Y0.idxRow Try.underlying33 sz5 (a0_1h.mono hle) rfl rfl hx2) ?_
  refine Chain.y0 guard_none (fun _ hle => Y0.loadT sc5 (a0_1h.mono hle) (key := 5000) rfl rfl (AtK.int (RowR.at a0_1h hx2))) ?_
  obtain ⟨x3, hx3, hr⟩ := hr
  refine Chain.y0 guard_none (fun _ hle => Y0.idxRow Try.underlying33 sz5 (a0_1h.mono hle) rfl rfl hx3) ?_
  refine Chain.tail0 hb ?_
  refine WL.storeT (r := (Rp.int .u8)) (e := 5) (cs' := [.int .u8 x1]) (i := a1_1) (z' := x1) 5000 guard_none sz5 rfl a0_1h rfl rfl rfl rfl rfl hx3 (fun tk1 tk1h => ?_)
  obtain ⟨x4, hx4, hr⟩ := hr
  refine WL.y0' guard_none (Y0.idxRow Try.underlying33 sz5 tk1h rfl rfl hx4) rfl ?_
  refine WL.storeT (r := (Rp.int .u8)) (e := 5) (cs' := [.int .u8 x2]) (i := a3_1) (z' := x2) 5000 guard_none sz5 rfl tk1h rfl rfl rfl rfl rfl hx4 (fun tk2 tk2h => ?_)
  refine WL.nil ?_
  refine WE.nx ?_
  refine WE.then ?_
  refine WC.seq ?_
  refine WC.region ?_
  refine WL.y0' guard_none (Y0.move rfl) rfl ?_
  refine WL.y0' guard_none (Y0.add rfl rfl) rfl ?_
  refine WL.y0' guard_none (Y0.move rfl) rfl ?_
  refine WL.y0' guard_none (Y0.sub rfl rfl) rfl ?_
  refine WL.y0' guard_none (Y0.assign rfl) rfl ?_
  refine WL.y0' guard_none (Y0.assign rfl) rfl ?_
  refine WL.nil ?_
  refine WE.then ?_
  refine WC.seq ?_
  refine WC.meetH (fun (gx : Int × Mem) => match gx with | ⟨v10_1, Gm1⟩ => [(0, .slice a0_1p a0_1n a0_1c), (1, .int .i64 a1_1), (10, .int .i64 v10_1), (11, .int .i64 (IntKind.i64.wrap (a2_1 - 1)))]) (fun (gx : Int × Mem) => match gx with | ⟨v10_1, Gm1⟩ => Mem.le G0 Gm1 ∧ (slices_partitionOrdered_uint8_k9 a0_1 a1_1 a2_1 a3_1 x1 x2 v10_1).Ret r) (fun (gx : Int × Mem) => match gx with | ⟨v10_1, Gm1⟩ => St w0 G0 Gm1 [(5000, tk2)]) ?_ ?_
  · refine WC.block ?_
    let Phi5 : Int → Prop := fun oo => ((fun ov => match ov with | v10_1 => slices_partitionOrdered_uint8_k9 a0_1 a1_1 a2_1 a3_1 x1 x2 v10_1 : Int → Comp (Int × Bool × (List Int))) oo).wp (fun a => a = r)
    replace hr : (Comp.loop _ _).wp Phi5 := hr
    refine WC.loopR (Φ := Phi5) (fun (gx : Int × Mem) => match gx with | ⟨v10_5, Gm10⟩ => (v10_5 : Int)) (fun (gx : Int × Mem) => match gx with | ⟨v10_5, Gm10⟩ => [(0, .slice a0_1p a0_1n a0_1c), (1, .int .i64 a1_1), (10, .int .i64 v10_5), (11, .int .i64 (IntKind.i64.wrap (a2_1 - 1)))]) (fun (gx : Int × Mem) => match gx with | ⟨v10_5, Gm10⟩ => Mem.le G0 Gm10) (fun (gx : Int × Mem) => match gx with | ⟨v10_5, Gm10⟩ => St w0 G0 Gm10 [(5000, tk2)]) ⟨IntKind.i64.wrap (a1_1 + 1), G0⟩ hr (Fr.sub_cons rfl (Fr.sub_cons rfl (Fr.sub_cons rfl (Fr.sub_cons rfl (Fr.sub_nil _))))) (Mem.le_refl _) ?_ ?_
    · intro w hs
      exact hs.weaken (Lo.sub_cons rfl (Lo.sub_nil _))
    · intro Aq5 gx hx hr
      obtain ⟨v10_5, Gm10⟩ := gx
      have Gm10le := hx
      refine WC.seq ?_
      refine WC.seq ?_
      refine WC.drawn [false, false, false, false, false, false, false, false, false, false, false, false, false, false] mix (by kernel_rfl) (fun hb => ?_)
      refine Chain.y0 guard_none (fun _ hle => Y0.move rfl) ?_
      refine Chain.y0 guard_none (fun _ hle => Y0.move rfl) ?_
      refine Chain.caseY0 (p := v10_5 ≤ (IntKind.i64.wrap (a2_1 - 1))) guard_none (fun _ hle => Y0.leq rfl rfl) (fun hb4 => ?_) (fun hb4 => ?_)
      · replace hr := hr.pos hb4
        refine Chain.y0 guard_none (fun _ hle => Y0.move rfl) ?_
        refine Chain.y0 (guard_yes rfl rfl) (fun _ hle => Y0.move rfl) ?_
        refine Chain.y0 (guard_yes rfl rfl) (fun _ hle => Y0.move rfl) ?_
        obtain ⟨x27, hx27, hr⟩ := hr
        refine Chain.y0 (guard_yes rfl rfl) (fun _ hle => Y0.idxRow Try.underlying33 sz5 ((tk2h.mono Gm10le).mono hle) rfl rfl hx27) ?_
        refine Chain.y0 (guard_yes rfl rfl) (fun _ hle => Y0.loadT sc5 ((tk2h.mono Gm10le).mono hle) (key := 5000) rfl rfl (AtK.int (RowR.at tk2h hx27))) ?_
        refine Chain.y0 (guard_yes rfl rfl) (fun _ hle => Y0.move rfl) ?_
        refine Chain.y0 (guard_yes rfl rfl) (fun _ hle => Y0.move rfl) ?_
        obtain ⟨x28, hx28, hr⟩ := hr
        refine Chain.y0 (guard_yes rfl rfl) (fun _ hle => Y0.idxRow Try.underlying33 sz5 ((tk2h.mono Gm10le).mono hle) rfl rfl hx28) ?_
        refine Chain.y0 (guard_yes rfl rfl) (fun _ hle => Y0.loadT sc5 ((tk2h.mono Gm10le).mono hle) (key := 5000) rfl rfl (AtK.int (RowR.at tk2h hx28))) ?_
        obtain ⟨yv4, hyv4, hr⟩ := hr
        refine Chain.call0 (guard_yes rfl rfl) (fun _ => YC.of E119 rfl) (L_cmp_Less_uint8 _ _ _ hyv4) rfl (fun G' hle => trivial) ?_
        refine Chain.y0 guard_none (fun _ hle => Y0.pickT rfl rfl) ?_
        refine Chain.tail0 hb ?_
        refine WL.nil ?_
        refine WE.nx ?_
        refine WE.then ?_
        refine WC.cond (b := yv4) rfl (fun hc6 => ?_) (fun hc6 => ?_)
        · replace hr := hr.pos hc6
          refine WC.skip ?_
          refine WE.then ?_
          refine WC.block ?_
          refine WC.region ?_
          refine WL.y0' guard_none (Y0.move rfl) rfl ?_
          refine WL.y0' guard_none (Y0.add rfl rfl) rfl ?_
          refine WL.y0' guard_none (Y0.assign rfl) rfl ?_
          refine WL.nil ?_
          refine WE.inBlock ?_
          refine WE.backR ⟨IntKind.i64.wrap (v10_5 + 1), Gm10⟩ hr Gm10le (Fr.sub_cons rfl (Fr.sub_cons rfl (Fr.sub_cons rfl (Fr.sub_cons rfl (Fr.sub_nil _))))) ?_
          · intro w hs
            exact hs.weaken (Lo.sub_cons rfl (Lo.sub_nil _))
        · replace hr := hr.neg (Bool.eq_false_iff.1 hc6)
          refine WC.exit ?_
          refine WE.thenExit ?_
          refine WE.thenExit ?_
          refine WE.exitHere ?_
          refine WE.endH ⟨v10_5, Gm10⟩ ⟨Gm10le, hr⟩ (Fr.sub_cons rfl (Fr.sub_cons rfl (Fr.sub_cons rfl (Fr.sub_cons rfl (Fr.sub_nil _))))) ?_
          · intro w hs
            exact hs.weaken (Lo.sub_cons rfl (Lo.sub_nil _))
      · replace hr := hr.neg hb4
        refine Chain.y0 guard_none (fun _ hle => Y0.move rfl) ?_
        refine Chain.skip (guard_noT rfl rfl) ?_
        refine Chain.skip (guard_noT rfl rfl) ?_
        refine Chain.skip (guard_noT rfl rfl) ?_
        refine Chain.skip (guard_noT rfl rfl) ?_
        refine Chain.skip (guard_noT rfl rfl) ?_
        refine Chain.skip (guard_noT rfl rfl) ?_
        refine Chain.skip (guard_noT rfl rfl) ?_
        refine Chain.skip (guard_noT rfl rfl) ?_
        refine Chain.skip (guard_noT rfl rfl) ?_
        refine Chain.y0 guard_none (fun _ hle => Y0.pickF rfl rfl) ?_
        refine Chain.tail0 hb ?_
        refine WL.nil ?_
        refine WE.nx ?_
        refine WE.then ?_
        refine WC.condF rfl ?_
        refine WC.exit ?_
        refine WE.thenExit ?_
        refine WE.thenExit ?_
        refine WE.exitHere ?_
        refine WE.endH ⟨v10_5, Gm10⟩ ⟨Gm10le, hr⟩ (Fr.sub_cons rfl (Fr.sub_cons rfl (Fr.sub_cons rfl (Fr.sub_cons rfl (Fr.sub_nil _))))) ?_
        · intro w hs
          exact hs.weaken (Lo.sub_cons rfl (Lo.sub_nil _))
  · rintro ⟨v10_1, Gm1⟩ ⟨Gm1le, hr⟩
    refine WE.then ?_
    refine WC.seq ?_
    refine WC.meetH (fun (gx : Int × Mem) => match gx with | ⟨v11_1, Gm2⟩ => [(0, .slice a0_1p a0_1n a0_1c), (1, .int .i64 a1_1), (10, .int .i64 v10_1), (11, .int .i64 v11_1)]) (fun (gx : Int × Mem) => match gx with | ⟨v11_1, Gm2⟩ => Mem.le Gm1 Gm2 ∧ (slices_partitionOrdered_uint8_k7 a0_1 a1_1 a3_1 x1 x2 v10_1 v11_1).Ret r) (fun (gx : Int × Mem) => match gx with | ⟨v11_1, Gm2⟩ => St w0 G0 Gm2 [(5000, tk2)]) ?_ ?_
    · refine WC.block ?_
      let Phi4 : Int → Prop := fun oo => ((fun ov => match ov with | v11_1 => slices_partitionOrdered_uint8_k7 a0_1 a1_1 a3_1 x1 x2 v10_1 v11_1 : Int → Comp (Int × Bool × (List Int))) oo).wp (fun a => a = r)
      replace hr : (Comp.loop _ _).wp Phi4 := hr
      refine WC.loopR (Φ := Phi4) (fun (gx : Int × Mem) => match gx with | ⟨v11_6, Gm9⟩ => (v11_6 : Int)) (fun (gx : Int × Mem) => match gx with | ⟨v11_6, Gm9⟩ => [(0, .slice a0_1p a0_1n a0_1c), (1, .int .i64 a1_1), (10, .int .i64 v10_1), (11, .int .i64 v11_6)]) (fun (gx : Int × Mem) => match gx with | ⟨v11_6, Gm9⟩ => Mem.le Gm1 Gm9) (fun (gx : Int × Mem) => match gx with | ⟨v11_6, Gm9⟩ => St w0 G0 Gm9 [(5000, tk2)]) ⟨IntKind.i64.wrap (a2_1 - 1), Gm1⟩ hr (Fr.sub_cons rfl (Fr.sub_cons rfl (Fr.sub_cons rfl (Fr.sub_cons rfl (Fr.sub_nil _))))) (Mem.le_refl _) ?_ ?_
      · intro w hs
        exact hs.weaken (Lo.sub_cons rfl (Lo.sub_nil _))
      · intro Aq4 gx hx hr
        obtain ⟨v11_6, Gm9⟩ := gx
        have Gm9le := hx
        refine WC.seq ?_
        refine WC.seq ?_
        refine WC.drawn [false, false, false, false, false, false, false, false, false, false, false, false, false, false, false] mix (by kernel_rfl) (fun hb => ?_)
        refine Chain.y0 guard_none (fun _ hle => Y0.move rfl) ?_
        refine Chain.y0 guard_none (fun _ hle => Y0.move rfl) ?_
        refine Chain.caseY0 (p := v10_1 ≤ v11_6) guard_none (fun _ hle => Y0.leq rfl rfl) (fun hb3 => ?_) (fun hb3 => ?_)
        · replace hr := hr.pos hb3
          refine Chain.y0 guard_none (fun _ hle => Y0.move rfl) ?_
          refine Chain.y0 (guard_yes rfl rfl) (fun _ hle => Y0.move rfl) ?_
          refine Chain.y0 (guard_yes rfl rfl) (fun _ hle => Y0.move rfl) ?_
          obtain ⟨x25, hx25, hr⟩ := hr
          refine Chain.y0 (guard_yes rfl rfl) (fun _ hle => Y0.idxRow Try.underlying33 sz5 ((tk2h.mono (Mem.le_trans Gm1le Gm9le)).mono hle) rfl rfl hx25) ?_
          refine Chain.y0 (guard_yes rfl rfl) (fun _ hle => Y0.loadT sc5 ((tk2h.mono (Mem.le_trans Gm1le Gm9le)).mono hle) (key := 5000) rfl rfl (AtK.int (RowR.at tk2h hx25))) ?_
          refine Chain.y0 (guard_yes rfl rfl) (fun _ hle => Y0.move rfl) ?_
          refine Chain.y0 (guard_yes rfl rfl) (fun _ hle => Y0.move rfl) ?_
          obtain ⟨x26, hx26, hr⟩ := hr
          refine Chain.y0 (guard_yes rfl rfl) (fun _ hle => Y0.idxRow Try.underlying33 sz5 ((tk2h.mono (Mem.le_trans Gm1le Gm9le)).mono hle) rfl rfl hx26) ?_
          refine Chain.y0 (guard_yes rfl rfl) (fun _ hle => Y0.loadT sc5 ((tk2h.mono (Mem.le_trans Gm1le Gm9le)).mono hle) (key := 5000) rfl rfl (AtK.int (RowR.at tk2h hx26))) ?_
          obtain ⟨yv3, hyv3, hr⟩ := hr
          refine Chain.call0 (guard_yes rfl rfl) (fun _ => YC.of E119 rfl) (L_cmp_Less_uint8 _ _ _ hyv3) rfl (fun G' hle => trivial) ?_
          refine Chain.y0 (guard_yes rfl rfl) (fun _ hle => Y0.not rfl) ?_
          refine Chain.y0 guard_none (fun _ hle => Y0.pickT rfl rfl) ?_
          refine Chain.tail0 hb ?_
          refine WL.nil ?_
          refine WE.nx ?_
          refine WE.then ?_
          refine WC.cond (b := !yv3) rfl (fun hc5 => ?_) (fun hc5 => ?_)
          · replace hr := hr.pos hc5
            refine WC.skip ?_
            refine WE.then ?_
            refine WC.block ?_
            refine WC.region ?_
            refine WL.y0' guard_none (Y0.move rfl) rfl ?_
            refine WL.y0' guard_none (Y0.sub rfl rfl) rfl ?_
            refine WL.y0' guard_none (Y0.assign rfl) rfl ?_
            refine WL.nil ?_
            refine WE.inBlock ?_
            refine WE.backR ⟨IntKind.i64.wrap (v11_6 - 1), Gm9⟩ hr Gm9le (Fr.sub_cons rfl (Fr.sub_cons rfl (Fr.sub_cons rfl (Fr.sub_cons rfl (Fr.sub_nil _))))) ?_
            · intro w hs
              exact hs.weaken (Lo.sub_cons rfl (Lo.sub_nil _))
          · replace hr := hr.neg (Bool.eq_false_iff.1 hc5)
            refine WC.exit ?_
            refine WE.thenExit ?_
            refine WE.thenExit ?_
            refine WE.exitHere ?_
            refine WE.endH ⟨v11_6, Gm9⟩ ⟨Gm9le, hr⟩ (Fr.sub_cons rfl (Fr.sub_cons rfl (Fr.sub_cons rfl (Fr.sub_cons rfl (Fr.sub_nil _))))) ?_
            · intro w hs
              exact hs.weaken (Lo.sub_cons rfl (Lo.sub_nil _))
        · replace hr := hr.neg hb3
          refine Chain.y0 guard_none (fun _ hle => Y0.move rfl) ?_
          refine Chain.skip (guard_noT rfl rfl) ?_
          refine Chain.skip (guard_noT rfl rfl) ?_
          refine Chain.skip (guard_noT rfl rfl) ?_
          refine Chain.skip (guard_noT rfl rfl) ?_
          refine Chain.skip (guard_noT rfl rfl) ?_
          refine Chain.skip (guard_noT rfl rfl) ?_
          refine Chain.skip (guard_noT rfl rfl) ?_
          refine Chain.skip (guard_noT rfl rfl) ?_
          refine Chain.skip (guard_noT rfl rfl) ?_
          refine Chain.skip (guard_noT rfl rfl) ?_
          refine Chain.y0 guard_none (fun _ hle => Y0.pickF rfl rfl) ?_
          refine Chain.tail0 hb ?_
          refine WL.nil ?_
          refine WE.nx ?_
          refine WE.then ?_
          refine WC.condF rfl ?_
          refine WC.exit ?_
          refine WE.thenExit ?_
          refine WE.thenExit ?_
          refine WE.exitHere ?_
          refine WE.endH ⟨v11_6, Gm9⟩ ⟨Gm9le, hr⟩ (Fr.sub_cons rfl (Fr.sub_cons rfl (Fr.sub_cons rfl (Fr.sub_cons rfl (Fr.sub_nil _))))) ?_
          · intro w hs
            exact hs.weaken (Lo.sub_cons rfl (Lo.sub_nil _))
    · rintro ⟨v11_1, Gm2⟩ ⟨Gm2le, hr⟩
      refine WE.then ?_
      refine WC.seq ?_
      refine WC.seq ?_
      refine WC.region ?_
      refine WL.y0' guard_none (Y0.move rfl) rfl ?_
      refine WL.y0' guard_none (Y0.move rfl) rfl ?_
      refine WL.y0' guard_none (Y0.gtr rfl rfl) rfl ?_
      refine WL.nil ?_
      refine WE.then ?_
      refine WC.condD (p := v11_1 < v10_1) rfl (fun hc1 => ?_) (fun hc1 => ?_)
      · replace hr := hr.pos hc1
        refine WC.seq ?_
        refine WC.drawn [false, false, true, true, false, false, false, false, false, false, false, false, false] mix (by kernel_rfl) (fun hb => ?_)
        refine Chain.y0 guard_none (fun _ hle => Y0.move rfl) ?_
        refine Chain.y0 guard_none (fun _ hle => Y0.move rfl) ?_
        refine Chain.float guard_none (Y0.move rfl) ?_
        refine Chain.float guard_none (Y0.move rfl) ?_
        refine Chain.y0 guard_none (fun _ hle => Y0.move rfl) ?_
        refine Chain.y0 guard_none (fun _ hle => Y0.move rfl) ?_
        obtain ⟨x5, hx5, hr⟩ := hr
        refine Chain.y0 guard_none (fun _ hle => Y0.idxRow Try.underlying33 sz5 ((tk2h.mono (Mem.le_trans Gm1le Gm2le)).mono hle) rfl rfl hx5) ?_
        refine Chain.y0 guard_none (fun _ hle => Y0.loadT sc5 ((tk2h.mono (Mem.le_trans Gm1le Gm2le)).mono hle) (key := 5000) rfl rfl (AtK.int (RowR.at tk2h hx5))) ?_
        refine Chain.y0 guard_none (fun _ hle => Y0.move rfl) ?_
        refine Chain.y0 guard_none (fun _ hle => Y0.move rfl) ?_
        obtain ⟨x6, hx6, hr⟩ := hr
        refine Chain.y0 guard_none (fun _ hle => Y0.idxRow Try.underlying33 sz5 ((tk2h.mono (Mem.le_trans Gm1le Gm2le)).mono hle) rfl rfl hx6) ?_
        refine Chain.y0 guard_none (fun _ hle => Y0.loadT sc5 ((tk2h.mono (Mem.le_trans Gm1le Gm2le)).mono hle) (key := 5000) rfl rfl (AtK.int (RowR.at tk2h hx6))) ?_
        obtain ⟨x7, hx7, hr⟩ := hr
        refine Chain.y0 guard_none (fun _ hle => Y0.idxRow Try.underlying33 sz5 ((tk2h.mono (Mem.le_trans Gm1le Gm2le)).mono hle) rfl rfl hx7) ?_
        refine Chain.tail0 hb ?_
        refine WL.storeT (r := (Rp.int .u8)) (e := 5) (cs' := [.int .u8 x5]) (i := v11_1) (z' := x5) 5000 guard_none sz5 rfl (tk2h.mono (Mem.le_trans Gm1le Gm2le)) rfl rfl rfl rfl rfl hx7 (fun tk3 tk3h => ?_)
        obtain ⟨x8, hx8, hr⟩ := hr
        refine WL.y0' guard_none (Y0.idxRow Try.underlying33 sz5 tk3h rfl rfl hx8) rfl ?_
        refine WL.storeT (r := (Rp.int .u8)) (e := 5) (cs' := [.int .u8 x6]) (i := a1_1) (z' := x6) 5000 guard_none sz5 rfl tk3h rfl rfl rfl rfl rfl hx8 (fun tk4 tk4h => ?_)
        refine WL.nil ?_
        refine WE.nx ?_
        refine WE.then ?_
        refine WC.seq ?_
        refine WC.region ?_
        refine WL.y0' guard_none (Y0.move rfl) rfl ?_
        refine WL.y0' guard_none (Y0.assign rfl) rfl ?_
        refine WL.y0' guard_none (Y0.assign rfl) rfl ?_
        refine WL.nil ?_
        refine WE.then ?_
        refine WC.ret ?_
        replace hr : _ = r := hr
        refine WE.thenRet ?_
        subst hr
        refine WE.conseq (S' := St w0 G0 Gm2 [(5000, tk4)]) ?_ ?_
        · intro w hs
          exact hs.weaken (Lo.sub_cons rfl (Lo.sub_nil _))
        exact WE.ret2 rfl rfl rfl ⟨_, rfl, rfl, tk4h⟩
      · replace hr := hr.neg hc1
        refine WC.skip ?_
        refine WE.then ?_
        refine WC.seq ?_
        refine WC.drawn [false, false, true, true, false, false, false, false, false, false, false, false, false] mix (by kernel_rfl) (fun hb => ?_)
        refine Chain.y0 guard_none (fun _ hle => Y0.move rfl) ?_
        refine Chain.y0 guard_none (fun _ hle => Y0.move rfl) ?_
        refine Chain.float guard_none (Y0.move rfl) ?_
        refine Chain.float guard_none (Y0.move rfl) ?_
        refine Chain.y0 guard_none (fun _ hle => Y0.move rfl) ?_
        refine Chain.y0 guard_none (fun _ hle => Y0.move rfl) ?_
        obtain ⟨x9, hx9, hr⟩ := hr
        refine Chain.y0 guard_none (fun _ hle => Y0.idxRow Try.underlying33 sz5 ((tk2h.mono (Mem.le_trans Gm1le Gm2le)).mono hle) rfl rfl hx9) ?_
        refine Chain.y0 guard_none (fun _ hle => Y0.loadT sc5 ((tk2h.mono (Mem.le_trans Gm1le Gm2le)).mono hle) (key := 5000) rfl rfl (AtK.int (RowR.at tk2h hx9))) ?_
        refine Chain.y0 guard_none (fun _ hle => Y0.move rfl) ?_
        refine Chain.y0 guard_none (fun _ hle => Y0.move rfl) ?_
        obtain ⟨x10, hx10, hr⟩ := hr
        refine Chain.y0 guard_none (fun _ hle => Y0.idxRow Try.underlying33 sz5 ((tk2h.mono (Mem.le_trans Gm1le Gm2le)).mono hle) rfl rfl hx10) ?_
        refine Chain.y0 guard_none (fun _ hle => Y0.loadT sc5 ((tk2h.mono (Mem.le_trans Gm1le Gm2le)).mono hle) (key := 5000) rfl rfl (AtK.int (RowR.at tk2h hx10))) ?_
        obtain ⟨x11, hx11, hr⟩ := hr
        refine Chain.y0 guard_none (fun _ hle => Y0.idxRow Try.underlying33 sz5 ((tk2h.mono (Mem.le_trans Gm1le Gm2le)).mono hle) rfl rfl hx11) ?_
        refine Chain.tail0 hb ?_
        refine WL.storeT (r := (Rp.int .u8)) (e := 5) (cs' := [.int .u8 x9]) (i := v10_1) (z' := x9) 5000 guard_none sz5 rfl (tk2h.mono (Mem.le_trans Gm1le Gm2le)) rfl rfl rfl rfl rfl hx11 (fun tk5 tk5h => ?_)
        obtain ⟨x12, hx12, hr⟩ := hr
        refine WL.y0' guard_none (Y0.idxRow Try.underlying33 sz5 tk5h rfl rfl hx12) rfl ?_
        refine WL.storeT (r := (Rp.int .u8)) (e := 5) (cs' := [.int .u8 x10]) (i := v11_1) (z' := x10) 5000 guard_none sz5 rfl tk5h rfl rfl rfl rfl rfl hx12 (fun tk6 tk6h => ?_)
        refine WL.nil ?_
        refine WE.nx ?_
        refine WE.then ?_
        refine WC.seq ?_
        refine WC.region ?_
        refine WL.y0' guard_none (Y0.move rfl) rfl ?_
        refine WL.y0' guard_none (Y0.add rfl rfl) rfl ?_
        refine WL.y0' guard_none (Y0.assign rfl) rfl ?_
        refine WL.nil ?_
        refine WE.then ?_
        refine WC.seq ?_
        refine WC.region ?_
        refine WL.y0' guard_none (Y0.move rfl) rfl ?_
        refine WL.y0' guard_none (Y0.sub rfl rfl) rfl ?_
        refine WL.y0' guard_none (Y0.assign rfl) rfl ?_
        refine WL.nil ?_
        refine WE.then ?_
        refine WC.seq ?_
        refine WC.meetH (fun (gx : (List Int) × Option Ow × Int × Mem) => match gx with | ⟨v0_1, v0_1tk, v11_2, Gm3⟩ => [(0, .slice a0_1p a0_1n a0_1c), (1, .int .i64 a1_1), (11, .int .i64 v11_2)]) (fun (gx : (List Int) × Option Ow × Int × Mem) => match gx with | ⟨v0_1, v0_1tk, v11_2, Gm3⟩ => Mem.le Gm2 Gm3 ∧ RowR (Rp.int .u8) 5 Gm3 (.slice a0_1p a0_1n a0_1c) v0_1 v0_1tk ∧ (slices_partitionOrdered_uint8_k1 a1_1 v0_1 v11_2).Ret r) (fun (gx : (List Int) × Option Ow × Int × Mem) => match gx with | ⟨v0_1, v0_1tk, v11_2, Gm3⟩ => St w0 G0 Gm3 [(5000, v0_1tk)]) ?_ ?_
        · refine WC.block ?_
          let Phi1 : (((List Int) × Int)) → Prop := fun oo => ((fun ov => match ov with | (v0_1, v11_2) => slices_partitionOrdered_uint8_k1 a1_1 v0_1 v11_2 : (((List Int) × Int)) → Comp (Int × Bool × (List Int))) oo).wp (fun a => a = r)
          replace hr : (Comp.loop _ _).wp Phi1 := hr
          refine WC.loopR (Φ := Phi1) (fun (gx : (List Int) × Option Ow × Int × Int × Mem) => match gx with | ⟨v0_2, v0_2tk, v10_2, v11_3, Gm4⟩ => ((v0_2, v10_2, v11_3) : (List Int) × Int × Int)) (fun (gx : (List Int) × Option Ow × Int × Int × Mem) => match gx with | ⟨v0_2, v0_2tk, v10_2, v11_3, Gm4⟩ => [(0, .slice a0_1p a0_1n a0_1c), (1, .int .i64 a1_1), (10, .int .i64 v10_2), (11, .int .i64 v11_3)]) (fun (gx : (List Int) × Option Ow × Int × Int × Mem) => match gx with | ⟨v0_2, v0_2tk, v10_2, v11_3, Gm4⟩ => Mem.le Gm2 Gm4 ∧ RowR (Rp.int .u8) 5 Gm4 (.slice a0_1p a0_1n a0_1c) v0_2 v0_2tk) (fun (gx : (List Int) × Option Ow × Int × Int × Mem) => match gx with | ⟨v0_2, v0_2tk, v10_2, v11_3, Gm4⟩ => St w0 G0 Gm4 [(5000, v0_2tk)]) ⟨((((a0_1.set a1_1.toNat x1).set a3_1.toNat x2).set v10_1.toNat x9).set v11_1.toNat x10), tk6, IntKind.i64.wrap (v10_1 + 1), IntKind.i64.wrap (v11_1 - 1), Gm2⟩ hr (Fr.sub_cons rfl (Fr.sub_cons rfl (Fr.sub_cons rfl (Fr.sub_cons rfl (Fr.sub_nil _))))) ⟨(Mem.le_refl _), tk6h⟩ ?_ ?_
          · intro w hs
            exact hs.weaken (Lo.sub_cons rfl (Lo.sub_nil _))
          · intro Aq1 gx hx hr
            obtain ⟨v0_2, v0_2tk, v10_2, v11_3, Gm4⟩ := gx
            obtain ⟨Gm4le, v0_2h⟩ := hx
            refine WC.block ?_
            refine WC.seq ?_
            refine WC.meetH (fun (gx : Int × Mem) => match gx with | ⟨v10_3, Gm5⟩ => [(0, .slice a0_1p a0_1n a0_1c), (1, .int .i64 a1_1), (10, .int .i64 v10_3), (11, .int .i64 v11_3)]) (fun (gx : Int × Mem) => match gx with | ⟨v10_3, Gm5⟩ => Mem.le Gm4 Gm5 ∧ (slices_partitionOrdered_uint8_k5 a1_1 v0_2 v11_3 v10_3).wp (Out Aq1 Phi1)) (fun (gx : Int × Mem) => match gx with | ⟨v10_3, Gm5⟩ => St w0 G0 Gm5 [(5000, v0_2tk)]) ?_ ?_
            · refine WC.block ?_
              let Phi3 : Int → Prop := fun oo => ((fun ov => match ov with | v10_3 => slices_partitionOrdered_uint8_k5 a1_1 v0_2 v11_3 v10_3 : Int → Comp (((List Int) × Int × Int) ⊕ (((List Int) × Int)))) oo).wp (Out Aq1 Phi1)
              replace hr : (Comp.loop _ _).wp Phi3 := hr
              refine WC.loopR (Φ := Phi3) (fun (gx : Int × Mem) => match gx with | ⟨v10_4, Gm8⟩ => (v10_4 : Int)) (fun (gx : Int × Mem) => match gx with | ⟨v10_4, Gm8⟩ => [(0, .slice a0_1p a0_1n a0_1c), (1, .int .i64 a1_1), (10, .int .i64 v10_4), (11, .int .i64 v11_3)]) (fun (gx : Int × Mem) => match gx with | ⟨v10_4, Gm8⟩ => Mem.le Gm4 Gm8) (fun (gx : Int × Mem) => match gx with | ⟨v10_4, Gm8⟩ => St w0 G0 Gm8 [(5000, v0_2tk)]) ⟨v10_2, Gm4⟩ hr (Fr.sub_cons rfl (Fr.sub_cons rfl (Fr.sub_cons rfl (Fr.sub_cons rfl (Fr.sub_nil _))))) (Mem.le_refl _) ?_ ?_
              · intro w hs
                exact hs.weaken (Lo.sub_cons rfl (Lo.sub_nil _))
              · intro Aq3 gx hx hr
                obtain ⟨v10_4, Gm8⟩ := gx
                have Gm8le := hx
                refine WC.seq ?_
                refine WC.seq ?_
                refine WC.drawn [false, false, false, false, false, false, false, false, false, false, false, false, false, false] mix (by kernel_rfl) (fun hb => ?_)
                refine Chain.y0 guard_none (fun _ hle => Y0.move rfl) ?_
                refine Chain.y0 guard_none (fun _ hle => Y0.move rfl) ?_
                refine Chain.caseY0 (p := v10_4 ≤ v11_3) guard_none (fun _ hle => Y0.leq rfl rfl) (fun hb2 => ?_) (fun hb2 => ?_)
                · replace hr := hr.pos hb2
                  refine Chain.y0 guard_none (fun _ hle => Y0.move rfl) ?_
                  refine Chain.y0 (guard_yes rfl rfl) (fun _ hle => Y0.move rfl) ?_
                  refine Chain.y0 (guard_yes rfl rfl) (fun _ hle => Y0.move rfl) ?_
                  obtain ⟨x23, hx23, hr⟩ := hr
                  refine Chain.y0 (guard_yes rfl rfl) (fun _ hle => Y0.idxRow Try.underlying33 sz5 ((v0_2h.mono Gm8le).mono hle) rfl rfl hx23) ?_
                  refine Chain.y0 (guard_yes rfl rfl) (fun _ hle => Y0.loadT sc5 ((v0_2h.mono Gm8le).mono hle) (key := 5000) rfl rfl (AtK.int (RowR.at v0_2h hx23))) ?_
                  refine Chain.y0 (guard_yes rfl rfl) (fun _ hle => Y0.move rfl) ?_
                  refine Chain.y0 (guard_yes rfl rfl) (fun _ hle => Y0.move rfl) ?_
                  obtain ⟨x24, hx24, hr⟩ := hr
                  refine Chain.y0 (guard_yes rfl rfl) (fun _ hle => Y0.idxRow Try.underlying33 sz5 ((v0_2h.mono Gm8le).mono hle) rfl rfl hx24) ?_
                  refine Chain.y0 (guard_yes rfl rfl) (fun _ hle => Y0.loadT sc5 ((v0_2h.mono Gm8le).mono hle) (key := 5000) rfl rfl (AtK.int (RowR.at v0_2h hx24))) ?_
                  obtain ⟨yv2, hyv2, hr⟩ := hr
                  refine Chain.call0 (guard_yes rfl rfl) (fun _ => YC.of E119 rfl) (L_cmp_Less_uint8 _ _ _ hyv2) rfl (fun G' hle => trivial) ?_
                  refine Chain.y0 guard_none (fun _ hle => Y0.pickT rfl rfl) ?_
                  refine Chain.tail0 hb ?_
                  refine WL.nil ?_
                  refine WE.nx ?_
                  refine WE.then ?_
                  refine WC.cond (b := yv2) rfl (fun hc4 => ?_) (fun hc4 => ?_)
                  · replace hr := hr.pos hc4
                    refine WC.skip ?_
                    refine WE.then ?_
                    refine WC.block ?_
                    refine WC.region ?_
                    refine WL.y0' guard_none (Y0.move rfl) rfl ?_
                    refine WL.y0' guard_none (Y0.add rfl rfl) rfl ?_
                    refine WL.y0' guard_none (Y0.assign rfl) rfl ?_
                    refine WL.nil ?_
                    refine WE.inBlock ?_
                    refine WE.backR ⟨IntKind.i64.wrap (v10_4 + 1), Gm8⟩ hr Gm8le (Fr.sub_cons rfl (Fr.sub_cons rfl (Fr.sub_cons rfl (Fr.sub_cons rfl (Fr.sub_nil _))))) ?_
                    · intro w hs
                      exact hs.weaken (Lo.sub_cons rfl (Lo.sub_nil _))
                  · replace hr := hr.neg (Bool.eq_false_iff.1 hc4)
                    refine WC.exit ?_
                    refine WE.thenExit ?_
                    refine WE.thenExit ?_
                    refine WE.exitHere ?_
                    refine WE.endH ⟨v10_4, Gm8⟩ ⟨Gm8le, hr⟩ (Fr.sub_cons rfl (Fr.sub_cons rfl (Fr.sub_cons rfl (Fr.sub_cons rfl (Fr.sub_nil _))))) ?_
                    · intro w hs
                      exact hs.weaken (Lo.sub_cons rfl (Lo.sub_nil _))
                · replace hr := hr.neg hb2
                  refine Chain.y0 guard_none (fun _ hle => Y0.move rfl) ?_
                  refine Chain.skip (guard_noT rfl rfl) ?_
                  refine Chain.skip (guard_noT rfl rfl) ?_
                  refine Chain.skip (guard_noT rfl rfl) ?_
                  refine Chain.skip (guard_noT rfl rfl) ?_
                  refine Chain.skip (guard_noT rfl rfl) ?_
                  refine Chain.skip (guard_noT rfl rfl) ?_
                  refine Chain.skip (guard_noT rfl rfl) ?_
                  refine Chain.skip (guard_noT rfl rfl) ?_
                  refine Chain.skip (guard_noT rfl rfl) ?_
                  refine Chain.y0 guard_none (fun _ hle => Y0.pickF rfl rfl) ?_
                  refine Chain.tail0 hb ?_
                  refine WL.nil ?_
                  refine WE.nx ?_
                  refine WE.then ?_
                  refine WC.condF rfl ?_
                  refine WC.exit ?_
                  refine WE.thenExit ?_
                  refine WE.thenExit ?_
                  refine WE.exitHere ?_
                  refine WE.endH ⟨v10_4, Gm8⟩ ⟨Gm8le, hr⟩ (Fr.sub_cons rfl (Fr.sub_cons rfl (Fr.sub_cons rfl (Fr.sub_cons rfl (Fr.sub_nil _))))) ?_
                  · intro w hs
                    exact hs.weaken (Lo.sub_cons rfl (Lo.sub_nil _))
            · rintro ⟨v10_3, Gm5⟩ ⟨Gm5le, hr⟩
              refine WE.then ?_
              refine WC.seq ?_
              refine WC.meetH (fun (gx : Int × Mem) => match gx with | ⟨v11_4, Gm6⟩ => [(0, .slice a0_1p a0_1n a0_1c), (1, .int .i64 a1_1), (10, .int .i64 v10_3), (11, .int .i64 v11_4)]) (fun (gx : Int × Mem) => match gx with | ⟨v11_4, Gm6⟩ => Mem.le Gm5 Gm6 ∧ (slices_partitionOrdered_uint8_k3 v0_2 v10_3 v11_4).wp (Out Aq1 Phi1)) (fun (gx : Int × Mem) => match gx with | ⟨v11_4, Gm6⟩ => St w0 G0 Gm6 [(5000, v0_2tk)]) ?_ ?_
              · refine WC.block ?_
                let Phi2 : Int → Prop := fun oo => ((fun ov => match ov with | v11_4 => slices_partitionOrdered_uint8_k3 v0_2 v10_3 v11_4 : Int → Comp (((List Int) × Int × Int) ⊕ (((List Int) × Int)))) oo).wp (Out Aq1 Phi1)
                replace hr : (Comp.loop _ _).wp Phi2 := hr
                refine WC.loopR (Φ := Phi2) (fun (gx : Int × Mem) => match gx with | ⟨v11_5, Gm7⟩ => (v11_5 : Int)) (fun (gx : Int × Mem) => match gx with | ⟨v11_5, Gm7⟩ => [(0, .slice a0_1p a0_1n a0_1c), (1, .int .i64 a1_1), (10, .int .i64 v10_3), (11, .int .i64 v11_5)]) (fun (gx : Int × Mem) => match gx with | ⟨v11_5, Gm7⟩ => Mem.le Gm5 Gm7) (fun (gx : Int × Mem) => match gx with | ⟨v11_5, Gm7⟩ => St w0 G0 Gm7 [(5000, v0_2tk)]) ⟨v11_3, Gm5⟩ hr (Fr.sub_cons rfl (Fr.sub_cons rfl (Fr.sub_cons rfl (Fr.sub_cons rfl (Fr.sub_nil _))))) (Mem.le_refl _) ?_ ?_
                · intro w hs
                  exact hs.weaken (Lo.sub_cons rfl (Lo.sub_nil _))
                · intro Aq2 gx hx hr
                  obtain ⟨v11_5, Gm7⟩ := gx
                  have Gm7le := hx
                  refine WC.seq ?_
                  refine WC.seq ?_
                  refine WC.drawn [false, false, false, false, false, false, false, false, false, false, false, false, false, false, false] mix (by kernel_rfl) (fun hb => ?_)
                  refine Chain.y0 guard_none (fun _ hle => Y0.move rfl) ?_
                  refine Chain.y0 guard_none (fun _ hle => Y0.move rfl) ?_
                  refine Chain.caseY0 (p := v10_3 ≤ v11_5) guard_none (fun _ hle => Y0.leq rfl rfl) (fun hb1 => ?_) (fun hb1 => ?_)
                  · replace hr := hr.pos hb1
                    refine Chain.y0 guard_none (fun _ hle => Y0.move rfl) ?_
                    refine Chain.y0 (guard_yes rfl rfl) (fun _ hle => Y0.move rfl) ?_
                    refine Chain.y0 (guard_yes rfl rfl) (fun _ hle => Y0.move rfl) ?_
                    obtain ⟨x21, hx21, hr⟩ := hr
                    refine Chain.y0 (guard_yes rfl rfl) (fun _ hle => Y0.idxRow Try.underlying33 sz5 ((v0_2h.mono (Mem.le_trans Gm5le Gm7le)).mono hle) rfl rfl hx21) ?_
                    refine Chain.y0 (guard_yes rfl rfl) (fun _ hle => Y0.loadT sc5 ((v0_2h.mono (Mem.le_trans Gm5le Gm7le)).mono hle) (key := 5000) rfl rfl (AtK.int (RowR.at v0_2h hx21))) ?_
                    refine Chain.y0 (guard_yes rfl rfl) (fun _ hle => Y0.move rfl) ?_
                    refine Chain.y0 (guard_yes rfl rfl) (fun _ hle => Y0.move rfl) ?_
                    obtain ⟨x22, hx22, hr⟩ := hr
                    refine Chain.y0 (guard_yes rfl rfl) (fun _ hle => Y0.idxRow Try.underlying33 sz5 ((v0_2h.mono (Mem.le_trans Gm5le Gm7le)).mono hle) rfl rfl hx22) ?_
                    refine Chain.y0 (guard_yes rfl rfl) (fun _ hle => Y0.loadT sc5 ((v0_2h.mono (Mem.le_trans Gm5le Gm7le)).mono hle) (key := 5000) rfl rfl (AtK.int (RowR.at v0_2h hx22))) ?_
                    obtain ⟨yv1, hyv1, hr⟩ := hr
                    refine Chain.call0 (guard_yes rfl rfl) (fun _ => YC.of E119 rfl) (L_cmp_Less_uint8 _ _ _ hyv1) rfl (fun G' hle => trivial) ?_
                    refine Chain.y0 (guard_yes rfl rfl) (fun _ hle => Y0.not rfl) ?_
                    refine Chain.y0 guard_none (fun _ hle => Y0.pickT rfl rfl) ?_
                    refine Chain.tail0 hb ?_
                    refine WL.nil ?_
                    refine WE.nx ?_
                    refine WE.then ?_
                    refine WC.cond (b := !yv1) rfl (fun hc3 => ?_) (fun hc3 => ?_)
                    · replace hr := hr.pos hc3
                      refine WC.skip ?_
                      refine WE.then ?_
                      refine WC.block ?_
                      refine WC.region ?_
                      refine WL.y0' guard_none (Y0.move rfl) rfl ?_
                      refine WL.y0' guard_none (Y0.sub rfl rfl) rfl ?_
                      refine WL.y0' guard_none (Y0.assign rfl) rfl ?_
                      refine WL.nil ?_
                      refine WE.inBlock ?_
                      refine WE.backR ⟨IntKind.i64.wrap (v11_5 - 1), Gm7⟩ hr Gm7le (Fr.sub_cons rfl (Fr.sub_cons rfl (Fr.sub_cons rfl (Fr.sub_cons rfl (Fr.sub_nil _))))) ?_
                      · intro w hs
                        exact hs.weaken (Lo.sub_cons rfl (Lo.sub_nil _))
                    · replace hr := hr.neg (Bool.eq_false_iff.1 hc3)
                      refine WC.exit ?_
                      refine WE.thenExit ?_
                      refine WE.thenExit ?_
                      refine WE.exitHere ?_
                      refine WE.endH ⟨v11_5, Gm7⟩ ⟨Gm7le, hr⟩ (Fr.sub_cons rfl (Fr.sub_cons rfl (Fr.sub_cons rfl (Fr.sub_cons rfl (Fr.sub_nil _))))) ?_
                      · intro w hs
                        exact hs.weaken (Lo.sub_cons rfl (Lo.sub_nil _))
                  · replace hr := hr.neg hb1
                    refine Chain.y0 guard_none (fun _ hle => Y0.move rfl) ?_
                    refine Chain.skip (guard_noT rfl rfl) ?_
                    refine Chain.skip (guard_noT rfl rfl) ?_
                    refine Chain.skip (guard_noT rfl rfl) ?_
                    refine Chain.skip (guard_noT rfl rfl) ?_
                    refine Chain.skip (guard_noT rfl rfl) ?_
                    refine Chain.skip (guard_noT rfl rfl) ?_
                    refine Chain.skip (guard_noT rfl rfl) ?_
                    refine Chain.skip (guard_noT rfl rfl) ?_
                    refine Chain.skip (guard_noT rfl rfl) ?_
                    refine Chain.skip (guard_noT rfl rfl) ?_
                    refine Chain.y0 guard_none (fun _ hle => Y0.pickF rfl rfl) ?_
                    refine Chain.tail0 hb ?_
                    refine WL.nil ?_
                    refine WE.nx ?_
                    refine WE.then ?_
                    refine WC.condF rfl ?_
                    refine WC.exit ?_
                    refine WE.thenExit ?_
                    refine WE.thenExit ?_
                    refine WE.exitHere ?_
                    refine WE.endH ⟨v11_5, Gm7⟩ ⟨Gm7le, hr⟩ (Fr.sub_cons rfl (Fr.sub_cons rfl (Fr.sub_cons rfl (Fr.sub_cons rfl (Fr.sub_nil _))))) ?_
                    · intro w hs
                      exact hs.weaken (Lo.sub_cons rfl (Lo.sub_nil _))
              · rintro ⟨v11_4, Gm6⟩ ⟨Gm6le, hr⟩
                refine WE.then ?_
                refine WC.seq ?_
                refine WC.seq ?_
                refine WC.region ?_
                refine WL.y0' guard_none (Y0.move rfl) rfl ?_
                refine WL.y0' guard_none (Y0.move rfl) rfl ?_
                refine WL.y0' guard_none (Y0.gtr rfl rfl) rfl ?_
                refine WL.nil ?_
                refine WE.then ?_
                refine WC.condD (p := v11_4 < v10_3) rfl (fun hc2 => ?_) (fun hc2 => ?_)
                · replace hr := hr.pos hc2
                  refine WC.exit ?_
                  refine WE.thenExit ?_
                  refine WE.exitOut rfl ?_
                  refine WE.thenExit ?_
                  refine WE.exitHere ?_
                  refine WE.endH ⟨v0_2, v0_2tk, v11_4, Gm6⟩ ⟨(Mem.le_trans (Mem.le_trans Gm4le Gm5le) Gm6le), (v0_2h.mono (Mem.le_trans Gm5le Gm6le)), hr⟩ (Fr.sub_cons rfl (Fr.sub_cons rfl (Fr.sub_cons rfl (Fr.sub_nil _)))) ?_
                  · intro w hs
                    exact hs.weaken (Lo.sub_cons rfl (Lo.sub_nil _))
                · replace hr := hr.neg hc2
                  refine WC.skip ?_
                  refine WE.then ?_
                  refine WC.seq ?_
                  refine WC.drawn [false, false, true, true, false, false, false, false, false, false, false, false, false] mix (by kernel_rfl) (fun hb => ?_)
                  refine Chain.y0 guard_none (fun _ hle => Y0.move rfl) ?_
                  refine Chain.y0 guard_none (fun _ hle => Y0.move rfl) ?_
                  refine Chain.float guard_none (Y0.move rfl) ?_
                  refine Chain.float guard_none (Y0.move rfl) ?_
                  refine Chain.y0 guard_none (fun _ hle => Y0.move rfl) ?_
                  refine Chain.y0 guard_none (fun _ hle => Y0.move rfl) ?_
                  obtain ⟨x17, hx17, hr⟩ := hr
                  refine Chain.y0 guard_none (fun _ hle => Y0.idxRow Try.underlying33 sz5 ((v0_2h.mono (Mem.le_trans Gm5le Gm6le)).mono hle) rfl rfl hx17) ?_
                  refine Chain.y0 guard_none (fun _ hle => Y0.loadT sc5 ((v0_2h.mono (Mem.le_trans Gm5le Gm6le)).mono hle) (key := 5000) rfl rfl (AtK.int (RowR.at v0_2h hx17))) ?_
                  refine Chain.y0 guard_none (fun _ hle => Y0.move rfl) ?_
                  refine Chain.y0 guard_none (fun _ hle => Y0.move rfl) ?_
                  obtain ⟨x18, hx18, hr⟩ := hr
                  refine Chain.y0 guard_none (fun _ hle => Y0.idxRow Try.underlying33 sz5 ((v0_2h.mono (Mem.le_trans Gm5le Gm6le)).mono hle) rfl rfl hx18) ?_
                  refine Chain.y0 guard_none (fun _ hle => Y0.loadT sc5 ((v0_2h.mono (Mem.le_trans Gm5le Gm6le)).mono hle) (key := 5000) rfl rfl (AtK.int (RowR.at v0_2h hx18))) ?_
                  obtain ⟨x19, hx19, hr⟩ := hr
                  refine Chain.y0 guard_none (fun _ hle => Y0.idxRow Try.underlying33 sz5 ((v0_2h.mono (Mem.le_trans Gm5le Gm6le)).mono hle) rfl rfl hx19) ?_
                  refine Chain.tail0 hb ?_
                  refine WL.storeT (r := (Rp.int .u8)) (e := 5) (cs' := [.int .u8 x17]) (i := v10_3) (z' := x17) 5000 guard_none sz5 rfl (v0_2h.mono (Mem.le_trans Gm5le Gm6le)) rfl rfl rfl rfl rfl hx19 (fun tk9 tk9h => ?_)
                  obtain ⟨x20, hx20, hr⟩ := hr
                  refine WL.y0' guard_none (Y0.idxRow Try.underlying33 sz5 tk9h rfl rfl hx20) rfl ?_
                  refine WL.storeT (r := (Rp.int .u8)) (e := 5) (cs' := [.int .u8 x18]) (i := v11_4) (z' := x18) 5000 guard_none sz5 rfl tk9h rfl rfl rfl rfl rfl hx20 (fun tk10 tk10h => ?_)
                  refine WL.nil ?_
                  refine WE.nx ?_
                  refine WE.then ?_
                  refine WC.seq ?_
                  refine WC.region ?_
                  refine WL.y0' guard_none (Y0.move rfl) rfl ?_
                  refine WL.y0' guard_none (Y0.add rfl rfl) rfl ?_
                  refine WL.y0' guard_none (Y0.assign rfl) rfl ?_
                  refine WL.nil ?_
                  refine WE.then ?_
                  refine WC.region ?_
                  refine WL.y0' guard_none (Y0.move rfl) rfl ?_
                  refine WL.y0' guard_none (Y0.sub rfl rfl) rfl ?_
                  refine WL.y0' guard_none (Y0.assign rfl) rfl ?_
                  refine WL.nil ?_
                  refine WE.inBlock ?_
                  refine WE.backR ⟨((v0_2.set v10_3.toNat x17).set v11_4.toNat x18), tk10, IntKind.i64.wrap (v10_3 + 1), IntKind.i64.wrap (v11_4 - 1), Gm6⟩ hr ⟨(Mem.le_trans (Mem.le_trans Gm4le Gm5le) Gm6le), tk10h⟩ (Fr.sub_cons rfl (Fr.sub_cons rfl (Fr.sub_cons rfl (Fr.sub_cons rfl (Fr.sub_nil _))))) ?_
                  · intro w hs
                    exact hs.weaken (Lo.sub_cons rfl (Lo.sub_nil _))
        · rintro ⟨v0_1, v0_1tk, v11_2, Gm3⟩ ⟨Gm3le, v0_1h, hr⟩
          refine WE.then ?_
          refine WC.seq ?_
          refine WC.drawn [false, false, true, true, false, false, false, false, false, false, false, false, false] mix (by kernel_rfl) (fun hb => ?_)
          refine Chain.y0 guard_none (fun _ hle => Y0.move rfl) ?_
          refine Chain.y0 guard_none (fun _ hle => Y0.move rfl) ?_
          refine Chain.float guard_none (Y0.move rfl) ?_
          refine Chain.float guard_none (Y0.move rfl) ?_
          refine Chain.y0 guard_none (fun _ hle => Y0.move rfl) ?_
          refine Chain.y0 guard_none (fun _ hle => Y0.move rfl) ?_
          obtain ⟨x13, hx13, hr⟩ := hr
          refine Chain.y0 guard_none (fun _ hle => Y0.idxRow Try.underlying33 sz5 (v0_1h.mono hle) rfl rfl hx13) ?_
          refine Chain.y0 guard_none (fun _ hle => Y0.loadT sc5 (v0_1h.mono hle) (key := 5000) rfl rfl (AtK.int (RowR.at v0_1h hx13))) ?_
          refine Chain.y0 guard_none (fun _ hle => Y0.move rfl) ?_
          refine Chain.y0 guard_none (fun _ hle => Y0.move rfl) ?_
          obtain ⟨x14, hx14, hr⟩ := hr
          refine Chain.y0 guard_none (fun _ hle => Y0.idxRow Try.underlying33 sz5 (v0_1h.mono hle) rfl rfl hx14) ?_
          refine Chain.y0 guard_none (fun _ hle => Y0.loadT sc5 (v0_1h.mono hle) (key := 5000) rfl rfl (AtK.int (RowR.at v0_1h hx14))) ?_
          obtain ⟨x15, hx15, hr⟩ := hr
          refine Chain.y0 guard_none (fun _ hle => Y0.idxRow Try.underlying33 sz5 (v0_1h.mono hle) rfl rfl hx15) ?_
          refine Chain.tail0 hb ?_
          refine WL.storeT (r := (Rp.int .u8)) (e := 5) (cs' := [.int .u8 x13]) (i := v11_2) (z' := x13) 5000 guard_none sz5 rfl v0_1h rfl rfl rfl rfl rfl hx15 (fun tk7 tk7h => ?_)
          obtain ⟨x16, hx16, hr⟩ := hr
          refine WL.y0' guard_none (Y0.idxRow Try.underlying33 sz5 tk7h rfl rfl hx16) rfl ?_
          refine WL.storeT (r := (Rp.int .u8)) (e := 5) (cs' := [.int .u8 x14]) (i := a1_1) (z' := x14) 5000 guard_none sz5 rfl tk7h rfl rfl rfl rfl rfl hx16 (fun tk8 tk8h => ?_)
          refine WL.nil ?_
          refine WE.nx ?_
          refine WE.then ?_
          refine WC.seq ?_
          refine WC.region ?_
          refine WL.y0' guard_none (Y0.move rfl) rfl ?_
          refine WL.y0' guard_none (Y0.assign rfl) rfl ?_
          refine WL.y0' guard_none (Y0.assign rfl) rfl ?_
          refine WL.nil ?_
          refine WE.then ?_
          refine WC.ret ?_
          replace hr : _ = r := hr
          subst hr
          refine WE.conseq (S' := St w0 G0 Gm3 [(5000, tk8)]) ?_ ?_
          · intro w hs
            exact hs.weaken (Lo.sub_cons rfl (Lo.sub_nil _))
          exact WE.ret2 rfl rfl rfl ⟨_, rfl, rfl, tk8h⟩
theorem L_slices_pdqsortOrdered_uint8 (a0_1 : (List Int)) (a1_1 : Int) (a2_1 : Int) (a3_1 : Int) (a0_1p : Option Addr) (a0_1c : Nat) (a0_1n : Nat) (a0_1tk : Option Ow) (r : (List Int)) (hr : (slices_pdqsortOrdered_uint8 a0_1 a1_1 a2_1 a3_1).Ret r) : CtrL Try.prog 106 #[.slice a0_1p a0_1n a0_1c, .int .i64 a1_1, .int .i64 a2_1, .int .i64 a3_1] [(5000, a0_1tk)] (fun G => RowR (Rp.int .u8) 5 G (.slice a0_1p a0_1n a0_1c) a0_1 a0_1tk) (fun G L v => ∃ zk0, L = [(5000, zk0)] ∧ v = .tuple #[] ∧ RowR (Rp.int .u8) 5 G (.slice a0_1p a0_1n a0_1c) r zk0) := by
  refine CtrL.enter (args := [_, _, _, _]) (N := 134) Try.func106 rfl rfl rfl (fun w0 G0 hL0 hpre => ?_)
  have a0_1h := hpre
  have hz : w0.L.zero := by
    rw [hL0]; intro p hp x hx
    simp only [List.mem_cons, List.not_mem_nil, or_false] at hp
    subst hp; exact RowR.zero a0_1h hx
  refine WC.seq ?_
  refine WC.region ?_
  refine WL.y0' guard_none (Y0.assign rfl) rfl ?_
  refine WL.nil ?_
  refine WE.then ?_
  refine WC.seq ?_
  refine WC.region ?_
  refine WL.y0' guard_none (Y0.assign rfl) rfl ?_
  refine WL.nil ?_
  refine WE.then ?_
  refine WC.meetH (fun (gx : (List Int) × Option Ow × Mem) => match gx with | ⟨v0_1, v0_1tk, Gm1⟩ => [(0, .slice a0_1p a0_1n a0_1c)]) (fun (gx : (List Int) × Option Ow × Mem) => match gx with | ⟨v0_1, v0_1tk, Gm1⟩ => Mem.le G0 Gm1 ∧ RowR (Rp.int .u8) 5 Gm1 (.slice a0_1p a0_1n a0_1c) v0_1 v0_1tk ∧ (slices_pdqsortOrdered_uint8_k1 v0_1).Ret r) (fun (gx : (List Int) × Option Ow × Mem) => match gx with | ⟨v0_1, v0_1tk, Gm1⟩ => St w0 G0 Gm1 [(5000, v0_1tk)]) ?_ ?_
  · refine WC.block ?_
    let Phi1 : (List Int) → Prop := fun oo => ((fun ov => match ov with | rv1 => Comp.ret rv1 : (List Int) → Comp (List Int)) oo).wp (fun a => a = r)
    replace hr : (Comp.loop _ _).wp Phi1 := hr
    refine WC.loopR (Φ := Phi1) (fun (gx : (List Int) × Option Ow × Int × Int × Int × Bool × Bool × Mem) => match gx with | ⟨v0_2, v0_2tk, v1_1, v2_1, v3_1, v8_1, v9_1, Gm2⟩ => ((v0_2, v1_1, v2_1, v3_1, v8_1, v9_1) : (List Int) × Int × Int × Int × Bool × Bool)) (fun (gx : (List Int) × Option Ow × Int × Int × Int × Bool × Bool × Mem) => match gx with | ⟨v0_2, v0_2tk, v1_1, v2_1, v3_1, v8_1, v9_1, Gm2⟩ => [(0, .slice a0_1p a0_1n a0_1c), (1, .int .i64 v1_1), (2, .int .i64 v2_1), (3, .int .i64 v3_1), (8, .bool v8_1), (9, .bool v9_1)]) (fun (gx : (List Int) × Option Ow × Int × Int × Int × Bool × Bool × Mem) => match gx with | ⟨v0_2, v0_2tk, v1_1, v2_1, v3_1, v8_1, v9_1, Gm2⟩ => Mem.le G0 Gm2 ∧ RowR (Rp.int .u8) 5 Gm2 (.slice a0_1p a0_1n a0_1c) v0_2 v0_2tk) (fun (gx : (List Int) × Option Ow × Int × Int × Int × Bool × Bool × Mem) => match gx with | ⟨v0_2, v0_2tk, v1_1, v2_1, v3_1, v8_1, v9_1, Gm2⟩ => St w0 G0 Gm2 [(5000, v0_2tk)]) ⟨a0_1, a0_1tk, a1_1, a2_1, a3_1, true, true, G0⟩ hr (Fr.sub_cons rfl (Fr.sub_cons rfl (Fr.sub_cons rfl (Fr.sub_cons rfl (Fr.sub_cons rfl (Fr.sub_cons rfl (Fr.sub_nil _))))))) ⟨(Mem.le_refl _), a0_1h⟩ ?_ ?_
    · intro w hs
      exact hs.weaken (Lo.sub_cons rfl (Lo.sub_nil _))
    · intro Aq1 gx hx hr
      obtain ⟨v0_2, v0_2tk, v1_1, v2_1, v3_1, v8_1, v9_1, Gm2⟩ := gx
      obtain ⟨Gm2le, v0_2h⟩ := hx
      refine WC.block ?_
      refine WC.seq ?_
      refine WC.region ?_
      refine WL.y0' guard_none (Y0.move rfl) rfl ?_
      refine WL.y0' guard_none (Y0.move rfl) rfl ?_
      refine WL.y0' guard_none (Y0.sub rfl rfl) rfl ?_
      refine WL.y0' guard_none (Y0.assign rfl) rfl ?_
      refine WL.nil ?_
      refine WE.then ?_
      refine WC.seq ?_
      refine WC.seq ?_
      refine WC.region ?_
      refine WL.y0' guard_none (Y0.move rfl) rfl ?_
      refine WL.y0' guard_none (Y0.leq rfl rfl) rfl ?_
      refine WL.nil ?_
      refine WE.then ?_
      refine WC.condD (p := (IntKind.i64.wrap (v2_1 - v1_1)) ≤ 12) rfl (fun hc1 => ?_) (fun hc1 => ?_)
      · replace hr := hr.pos hc1
        refine WC.seq ?_
        refine WC.region ?_
        refine WL.y0' guard_none (Y0.move rfl) rfl ?_
        refine WL.y0' guard_none (Y0.move rfl) rfl ?_
        refine WL.y0' guard_none (Y0.move rfl) rfl ?_
        obtain ⟨yv1, hyv1, hr⟩ := hr
        refine WL.callT guard_none rfl (YC.of E113 rfl) (L_slices_insertionSortOrdered_uint8 _ _ _ _ _ _ _ _ hyv1) rfl (v0_2h) (Lo.sub_cons rfl (Lo.sub_nil _)) hz (fun yv1v Gv1 Lyv1 Gv1le yv1post => ?_)
        obtain ⟨yv1tk0, rfl, rfl, yv1rh0⟩ := yv1post
        refine WL.nil ?_
        refine WE.then ?_
        refine WC.ret ?_
        replace hr : _ = r := hr
        refine WE.thenRet ?_
        refine WE.inBlockRet ?_
        refine WE.thenRet ?_
        refine WE.inBlockRet ?_
        refine WE.endRet ?_
        subst hr
        refine WE.conseq (S' := St w0 G0 Gv1 [(5000, yv1tk0)]) ?_ ?_
        · intro w hs
          exact hs.weaken (Lo.sub_cons rfl (Lo.sub_nil _))
        exact WE.ret0 rfl  ⟨_, rfl, rfl, yv1rh0⟩
      · replace hr := hr.neg hc1
        refine WC.skip ?_
        refine WE.then ?_
        refine WC.seq ?_
        refine WC.seq ?_
        refine WC.region ?_
        refine WL.y0' guard_none (Y0.move rfl) rfl ?_
        refine WL.y0' guard_none (Y0.eql rfl rfl) rfl ?_
        refine WL.nil ?_
        refine WE.then ?_
        refine WC.condD (p := v3_1 = 0) rfl (fun hc2 => ?_) (fun hc2 => ?_)
        · replace hr := hr.pos hc2
          refine WC.seq ?_
          refine WC.region ?_
          refine WL.y0' guard_none (Y0.move rfl) rfl ?_
          refine WL.y0' guard_none (Y0.move rfl) rfl ?_
          refine WL.y0' guard_none (Y0.move rfl) rfl ?_
          obtain ⟨yv2, hyv2, hr⟩ := hr
          refine WL.callT guard_none rfl (YC.of E114 rfl) (L_slices_heapSortOrdered_uint8 _ _ _ _ _ _ _ _ hyv2) rfl (v0_2h) (Lo.sub_cons rfl (Lo.sub_nil _)) hz (fun yv2v Gv2 Lyv2 Gv2le yv2post => ?_)
          obtain ⟨yv2tk0, rfl, rfl, yv2rh0⟩ := yv2post
          refine WL.nil ?_
          refine WE.then ?_
          refine WC.ret ?_
          replace hr : _ = r := hr
          refine WE.thenRet ?_
          refine WE.inBlockRet ?_
          refine WE.thenRet ?_
          refine WE.inBlockRet ?_
          refine WE.endRet ?_
          subst hr
          refine WE.conseq (S' := St w0 G0 Gv2 [(5000, yv2tk0)]) ?_ ?_
          · intro w hs
            exact hs.weaken (Lo.sub_cons rfl (Lo.sub_nil _))
          exact WE.ret0 rfl  ⟨_, rfl, rfl, yv2rh0⟩
        · replace hr := hr.neg hc2
          exact (show False from hr).elim
  · rintro ⟨v0_1, v0_1tk, Gm1⟩ ⟨Gm1le, v0_1h, hr⟩
    refine WE.retN ?_
    replace hr : _ = r := hr
    subst hr
    refine WE.conseq (S' := St w0 G0 Gm1 [(5000, v0_1tk)]) ?_ ?_
    · intro w hs
      exact hs.weaken (Lo.sub_cons rfl (Lo.sub_nil _))
    exact WE.ret0 rfl  ⟨_, rfl, rfl, v0_1h⟩
theorem L_slices_Sort_uint8_uint8 (x1 : (List Int)) (x1p : Option Addr) (x1c : Nat) (x1n : Nat) (x1tk : Option Ow) (r : (List Int)) (hr : (slices_Sort_uint8_uint8 x1).Ret r) : CtrL Try.prog 90 #[.slice x1p x1n x1c] [(5000, x1tk)] (fun G => RowR (Rp.int .u8) 5 G (.slice x1p x1n x1c) x1 x1tk) (fun G L v => ∃ zk0, L = [(5000, zk0)] ∧ v = .tuple #[] ∧ RowR (Rp.int .u8) 5 G (.slice x1p x1n x1c) r zk0) := by
  refine CtrL.enter (args := [_]) (N := 11) Try.func90 rfl rfl rfl (fun w0 G0 hL0 hpre => ?_)
  have x1h := hpre
  have hz : w0.L.zero := by
    rw [hL0]; intro p hp x hx
    simp only [List.mem_cons, List.not_mem_nil, or_false] at hp
    subst hp; exact RowR.zero x1h hx
  refine WC.seq ?_
  refine WC.region ?_
  refine WL.y0' guard_none (Y0.move rfl) rfl ?_
  refine WL.y0' guard_none (Y0.lenRow Try.underlying33 x1h rfl) rfl ?_
  refine WL.y0' guard_none (Y0.assign rfl) rfl ?_
  refine WL.nil ?_
  refine WE.then ?_
  refine WC.region ?_
  refine WL.y0' guard_none (Y0.move rfl) rfl ?_
  refine WL.y0' guard_none (Y0.move rfl) rfl ?_
  refine WL.y0' guard_none (Y0.move rfl) rfl ?_
  refine WL.y0' guard_none (Y0.conv Try.underlying3 Try.underlying100 rfl) rfl ?_
  obtain ⟨yv1, hyv1, hr⟩ := hr
  refine WL.call0 guard_none rfl (YC.of E88 rfl) (L_math_bits_Len _ _ hyv1) rfl (trivial) ?_
  obtain ⟨yv2, hyv2, hr⟩ := hr
  refine WL.callT guard_none rfl (YC.of E106 rfl) (L_slices_pdqsortOrdered_uint8 _ _ _ _ _ _ _ _ _ hyv2) rfl (x1h) (Lo.sub_cons rfl (Lo.sub_nil _)) hz (fun yv2v Gv2 Lyv2 Gv2le yv2post => ?_)
  obtain ⟨yv2tk0, rfl, rfl, yv2rh0⟩ := yv2post
  refine WL.nil ?_
  refine WE.retN ?_
  replace hr : _ = r := hr
  subst hr
  refine WE.conseq (S' := St w0 G0 Gv2 [(5000, yv2tk0)]) ?_ ?_
  · intro w hs
    exact hs.weaken (Lo.sub_cons rfl (Lo.sub_nil _))
  exact WE.ret0 rfl  ⟨_, rfl, rfl, yv2rh0⟩
theorem sorted74 : SortedL Try.prog 74 91 ky5 (Rp.int .u8) 5 slices_Sort_uint8_uint8 :=
  sorted collect89 (fun xs p c tk y h => L_slices_Sort_uint8_uint8 xs p c xs.length tk y h) E89 E90 Try.func74 rfl rfl rfl
theorem L_components_primes (byv1 : (List (Int × (List (List (Fin 8 → Int)))))) (byv1b : Nat) (byv1tk : Option Ow) (r : (List Int)) (hr : (components_primes byv1).Ret r) : CtrL Try.prog 48 #[.map (some byv1b)] [(5500, byv1tk)] (fun G => MapR ky5 (RvS (Rp.sl (Rp.sl (Rp.vec .i64 8))) G) (.map (some byv1b)) byv1 byv1tk) (fun G L v => L = [(5500, byv1tk)] ∧ (∃ zp zc, v = .slice zp r.length zc ∧ SlR (Rp.int .u8) G (.slice zp r.length zc) r)) := by
  refine CtrL.enter (args := [_]) (N := 6) Try.func48 rfl rfl rfl (fun w0 G0 hL0 hpre => ?_)
  have byv1h := hpre
  have hz : w0.L.zero := by
    rw [hL0]; intro p hp x hx
    simp only [List.mem_cons, List.not_mem_nil, or_false] at hp
    subst hp; exact MapR.zero byv1h hx
  refine WC.seq ?_
  refine WC.region ?_
  refine WL.y0' guard_none (Y0.assign rfl) rfl ?_
  refine WL.nil ?_
  refine WE.then ?_
  refine WC.seq ?_
  refine WC.region ?_
  refine WL.y0' guard_none (Y0.move rfl) rfl ?_
  refine WL.call guard_none rfl (YC.of E75 rfl) (keysBox Try.func75 rfl rfl rfl (some byv1b)) rfl trivial (fun kf1v Gv1 Gv1le kf1post => ?_)
  obtain ⟨kf1, rfl, kf1h⟩ := kf1post
  refine WL.callT guard_none rfl (YC.of E74 rfl) (sorted74 _ _ _ _ _ 5500 _ (by decide) (MapR.mono byv1h Gv1le) hr) rfl kf1h (Lo.sub_cons rfl (Lo.sub_nil _)) hz (fun ks1v Gv2 Lks1 Gv2le ks1post => ?_)
  clear hr
  obtain ⟨ks1, ks1p, ks1c, ks1tk, rfl, rfl, ks1h, hr⟩ := ks1post
  refine WL.conseq (fun w hs => hs.rekey (i := 7000) (j := 4005) rfl (by rw [hL0]; rfl)) ?_
  refine WL.freezeT (r := (Rp.int .u8)) (e := 5) 4005 ks1h rfl (by rw [hL0]; rfl) (fun tk1 Gv3 Gv3le tk1h tk1ht => ?_)
  refine WL.y0' guard_none (Y0.assign rfl) rfl ?_
  refine WL.nil ?_
  refine WE.then ?_
  refine WC.ret ?_
  replace hr : _ = r := hr
  subst hr
  refine WE.conseq (S' := St w0 G0 Gv3 [(5500, byv1tk)]) ?_ ?_
  · intro w hs
    exact hs.weaken (Lo.sub_cons rfl (Lo.sub_nil _))
  exact WE.ret1 rfl rfl ⟨rfl, ⟨_, _, (SlR.eqv tk1h), (SlR.std tk1h)⟩⟩
theorem L_components_Primes (l1 : (List (Fin 8 → Int))) (n1 : Int) (l1p : Option Addr) (l1c : Nat) (r : (List Int) × Int) (hr : (components_Primes l1 n1).Ret r) : Ctr Try.prog 16 #[.slice l1p l1.length l1c, .int .i64 n1] (fun G => SlR (Rp.vec .i64 8) G (.slice l1p l1.length l1c) l1) (fun G v => ∃ zr0p zr0c, v = .tuple #[.slice zr0p r.1.length zr0c, .int .i64 r.2] ∧ SlR (Rp.int .u8) G (.slice zr0p r.1.length zr0c) r.1) := by
  refine Ctr.enter (args := [_, _]) (N := 16) Try.func16 rfl rfl rfl (fun w0 G0 hL0 hpre => ?_)
  have l1h := hpre
  have hz : w0.L.zero := by rw [hL0]; intro p hp; simp at hp
  refine WC.seq ?_
  refine WC.region ?_
  refine WL.y0' guard_none (Y0.assign rfl) rfl ?_
  refine WL.y0' guard_none (Y0.assign rfl) rfl ?_
  refine WL.nil ?_
  refine WE.then ?_
  refine WC.seq ?_
  refine WC.seq ?_
  refine WC.region ?_
  refine WL.y0' guard_none (Y0.move rfl) rfl ?_
  refine WL.y0' guard_none (Y0.move rfl) rfl ?_
  obtain ⟨yv1, hyv1, hr⟩ := hr
  refine WL.call0 guard_none rfl (YC.of E42 rfl) (L_components_check _ _ _ _ _ hyv1) rfl (l1h) ?_
  refine WL.y0' guard_none (Y0.assign rfl) rfl ?_
  refine WL.nil ?_
  refine WE.then ?_
  refine WC.seq ?_
  refine WC.region ?_
  refine WL.y0' guard_none (Y0.move rfl) rfl ?_
  refine WL.y0' guard_none (Y0.neq rfl rfl) rfl ?_
  refine WL.nil ?_
  refine WE.then ?_
  refine WC.condD (p := ¬ yv1 = 0) rfl (fun hc1 => ?_) (fun hc1 => ?_)
  · replace hr := hr.pos hc1
    refine WC.seq ?_
    refine WC.region ?_
    refine WL.y0' guard_none (Y0.move rfl) rfl ?_
    refine WL.y0' guard_none (Y0.assign rfl) rfl ?_
    refine WL.y0' guard_none (Y0.assign rfl) rfl ?_
    refine WL.nil ?_
    refine WE.then ?_
    refine WC.ret ?_
    replace hr : _ = r := hr
    refine WE.thenRet ?_
    subst hr
    exact WE.ret2 rfl rfl rfl ⟨_, _, rfl, (SlR.nil (Rp.int .u8) _)⟩
  · replace hr := hr.neg hc1
    refine WC.skip ?_
    refine WE.then ?_
    refine WC.seq ?_
    refine WC.region ?_
    refine WL.y0' guard_none (Y0.move rfl) rfl ?_
    obtain ⟨yv2, hyv2, hr⟩ := hr
    refine WL.callT guard_none rfl (YC.of E49 rfl) (L_components_parts _ _ _ _ hyv2) rfl (l1h) (Lo.sub_nil _) hz (fun yv2v Gv2 Lyv2 Gv2le yv2post => ?_)
    obtain ⟨yv2b, yv2tk, rfl, rfl, yv2h⟩ := yv2post
    refine WL.conseq (fun w hs => hs.rekey (i := 7000) (j := 4014) rfl (by rw [hL0]; rfl)) ?_
    obtain ⟨yv3, hyv3, hr⟩ := hr
    refine WL.conseq (fun w hs => hs.rekey (i := 4014) (j := 5500) rfl (by rw [hL0]; rfl)) ?_
    refine WL.callRO guard_none rfl (YC.of E48 rfl) (L_components_primes _ _ _ _ hyv3) rfl (yv2h) (Lo.sub_cons rfl (Lo.sub_nil _)) (fun i hi => by simp only [List.map_cons, List.map_nil, List.mem_cons, List.not_mem_nil, or_false] at hi; subst hi; exact rfl) hz (fun yv3v Gv3 Gv3le yv3post => ?_)
    obtain ⟨yv3p, yv3c, rfl, yv3h⟩ := yv3post
    refine WL.conseq (fun w hs => hs.rekey (i := 5500) (j := 4014) rfl (by rw [hL0]; rfl)) ?_
    refine WL.y0' guard_none (Y0.assign rfl) rfl ?_
    refine WL.y0' guard_none (Y0.assign rfl) rfl ?_
    refine WL.nil ?_
    refine WE.then ?_
    refine WC.ret ?_
    replace hr : _ = r := hr
    subst hr
    exact WE.ret2 rfl rfl rfl ⟨_, _, rfl, yv3h⟩
theorem L_components_Embedded_c1 (q1 : Int) (cap1 : Int) (b1 : Nat) (r : Bool) (hr : (components_Embedded_c1 q1 cap1).Ret r) : CtrL Try.prog 51 #[.int .u8 q1, .pointer (some ⟨b1, 0, none⟩)] [(103610, some ⟨b1, .cells ([.int .u8 cap1]).toArray 5 (0, 0), 0⟩)] (fun G => True) (fun G L v => L = [(103610, some ⟨b1, .cells ([.int .u8 cap1]).toArray 5 (0, 0), 0⟩)] ∧ v = .bool r) := by
  refine CtrL.enter (args := [_, _]) (N := 13) Try.func51 rfl rfl rfl (fun w0 G0 hL0 hpre => ?_)
  refine WC.seq ?_
  refine WC.region ?_
  refine WL.y0' guard_none (Y0.assign rfl) rfl ?_
  refine WL.nil ?_
  refine WE.then ?_
  refine WC.seq ?_
  refine WC.region ?_
  refine WL.y0' guard_none (Y0.move rfl) rfl ?_
  refine WL.y0' guard_none (Y0.loadL 103610 sc5 rfl rfl rfl) rfl ?_
  refine WL.caseY0 (p := ¬ q1 = cap1) guard_none (Y0.neq rfl rfl) rfl (fun hb1 => ?_) (fun hb1 => ?_)
  · replace hr := hr.pos hb1
    refine WL.y0' guard_none (Y0.move rfl) rfl ?_
    refine WL.y0' (guard_yes rfl rfl) (Y0.move rfl) rfl ?_
    refine WL.y0' (guard_yes rfl rfl) (Y0.loadL 103610 sc5 rfl rfl rfl) rfl ?_
    refine WL.y0' (guard_yes rfl rfl) (Y0.andNot rfl rfl) rfl ?_
    refine WL.y0' (guard_yes rfl rfl) (Y0.eql rfl rfl) rfl ?_
    refine WL.y0' guard_none (Y0.pickT rfl rfl) rfl ?_
    refine WL.y0' guard_none (Y0.assign rfl) rfl ?_
    refine WL.nil ?_
    refine WE.then ?_
    refine WC.ret ?_
    replace hr : _ = r := hr
    subst hr
    refine WE.conseq (S' := St w0 G0 G0 [(103610, some ⟨b1, .cells ([.int .u8 cap1]).toArray 5 (0, 0), 0⟩)]) ?_ ?_
    · intro w hs
      exact hs.weaken (Lo.sub_cons rfl (Lo.sub_nil _))
    exact WE.ret1 rfl rfl ⟨rfl, rfl⟩
  · replace hr := hr.neg hb1
    refine WL.y0' guard_none (Y0.move rfl) rfl ?_
    refine WL.skip (guard_noT rfl rfl) rfl ?_
    refine WL.skip (guard_noT rfl rfl) rfl ?_
    refine WL.skip (guard_noT rfl rfl) rfl ?_
    refine WL.skip (guard_noT rfl rfl) rfl ?_
    refine WL.y0' guard_none (Y0.pickF rfl rfl) rfl ?_
    refine WL.y0' guard_none (Y0.assign rfl) rfl ?_
    refine WL.nil ?_
    refine WE.then ?_
    refine WC.ret ?_
    replace hr : _ = r := hr
    subst hr
    refine WE.conseq (S' := St w0 G0 G0 [(103610, some ⟨b1, .cells ([.int .u8 cap1]).toArray 5 (0, 0), 0⟩)]) ?_ ?_
    · intro w hs
      exact hs.weaken (Lo.sub_cons rfl (Lo.sub_nil _))
    exact WE.ret1 rfl rfl ⟨rfl, rfl⟩
theorem L_slices_IndexFunc_uint8_uint8_components_Embedded_c1 (s1 : (List Int)) (cap1 : Int) (s1p : Option Addr) (s1c : Nat) (b1 : Nat) (r : Int) (hr : (slices_IndexFunc_uint8_uint8_components_Embedded_c1 s1 cap1).Ret r) : CtrL Try.prog 76 #[.slice s1p s1.length s1c, .func (.func 51) #[] #[.pointer (some ⟨b1, 0, none⟩)]] [(103610, some ⟨b1, .cells ([.int .u8 cap1]).toArray 5 (0, 0), 0⟩)] (fun G => SlR (Rp.int .u8) G (.slice s1p s1.length s1c) s1) (fun G L v => L = [(103610, some ⟨b1, .cells ([.int .u8 cap1]).toArray 5 (0, 0), 0⟩)] ∧ v = .int .i64 r) := by
  refine CtrL.enter (args := [_, _]) (N := 19) Try.func76 rfl rfl rfl (fun w0 G0 hL0 hpre => ?_)
  have s1h := hpre
  have hz : w0.L.zero := by
    rw [hL0]; intro p hp x hx
    simp only [List.mem_cons, List.not_mem_nil, or_false] at hp
    subst hp; cases hx; rfl
  refine WC.seq ?_
  refine WC.region ?_
  refine WL.y0' guard_none (Y0.assign rfl) rfl ?_
  refine WL.nil ?_
  refine WE.then ?_
  refine WC.seq ?_
  refine WC.seq ?_
  refine WC.region ?_
  refine WL.y0' guard_none (Y0.move rfl) rfl ?_
  refine WL.y0' guard_none (Y0.lenR Try.underlying33 s1h rfl) rfl ?_
  refine WL.y0' guard_none (Y0.move rfl) rfl ?_
  refine WL.nil ?_
  refine WE.then ?_
  refine WC.meetH (fun (gx : Mem) => match gx with | Gm1 => []) (fun (gx : Mem) => match gx with | Gm1 => Mem.le G0 Gm1 ∧ (slices_IndexFunc_uint8_uint8_components_Embedded_c1_k1).Ret r) (fun (gx : Mem) => match gx with | Gm1 => St w0 G0 Gm1 [(103610, some ⟨b1, .cells ([.int .u8 cap1]).toArray 5 (0, 0), 0⟩)]) ?_ ?_
  · refine WC.block ?_
    let Phi1 : (Int ⊕ Unit) → Prop := fun oo => ((fun ov => match ov with | .inl rv1 => Comp.ret rv1 | .inr () => slices_IndexFunc_uint8_uint8_components_Embedded_c1_k1 : (Int ⊕ Unit) → Comp Int) oo).wp (fun a => a = r)
    replace hr : (Comp.loop _ _).wp Phi1 := hr
    refine WC.loopR (Φ := Phi1) (fun (gx : Int × Mem) => match gx with | ⟨v8_1, Gm2⟩ => (v8_1 : Int)) (fun (gx : Int × Mem) => match gx with | ⟨v8_1, Gm2⟩ => [(0, .slice s1p s1.length s1c), (1, .func (.func 51) #[] #[.pointer (some ⟨b1, 0, none⟩)]), (7, .int .i64 (s1.length : Int)), (8, .int .i64 v8_1)]) (fun (gx : Int × Mem) => match gx with | ⟨v8_1, Gm2⟩ => Mem.le G0 Gm2) (fun (gx : Int × Mem) => match gx with | ⟨v8_1, Gm2⟩ => St w0 G0 Gm2 [(103610, some ⟨b1, .cells ([.int .u8 cap1]).toArray 5 (0, 0), 0⟩)]) ⟨0, G0⟩ hr (Fr.sub_cons rfl (Fr.sub_cons rfl (Fr.sub_cons rfl (Fr.sub_cons rfl (Fr.sub_nil _))))) (Mem.le_refl _) ?_ ?_
    · intro w hs
      exact hs.weaken (Lo.sub_cons rfl (Lo.sub_nil _))
    · intro Aq1 gx hx hr
      obtain ⟨v8_1, Gm2⟩ := gx
      have Gm2le := hx
      refine WC.seq ?_
      refine WC.region ?_
      refine WL.y0' guard_none (Y0.lss rfl rfl) rfl ?_
      refine WL.nil ?_
      refine WE.then ?_
      refine WC.seq ?_
      refine WC.condD (p := v8_1 < (s1.length : Int)) rfl (fun hc1 => ?_) (fun hc1 => ?_)
      · replace hr := hr.pos hc1
        refine WC.skip ?_
        refine WE.then ?_
        refine WC.seq ?_
        refine WC.block ?_
        refine WC.seq ?_
        refine WC.region ?_
        refine WL.y0' guard_none (Y0.move rfl) rfl ?_
        refine WL.y0' guard_none (Y0.assign rfl) rfl ?_
        refine WL.nil ?_
        refine WE.then ?_
        refine WC.seq ?_
        refine WC.region ?_
        refine WL.y0' guard_none (Y0.move rfl) rfl ?_
        refine WL.y0' guard_none (Y0.move rfl) rfl ?_
        refine WL.y0' guard_none (Y0.move rfl) rfl ?_
        obtain ⟨x1, hx1, hr⟩ := hr
        refine WL.y0' guard_none (Y0.idxR Try.underlying33 sz5 (s1h.mono Gm2le) rfl rfl hx1) rfl ?_
        refine WL.y0' guard_none (Y0.loadG sc5 rfl (AtK.int (At.mono (SlR.at s1h hx1) Gm2le))) rfl ?_
        obtain ⟨yv1, hyv1, hr⟩ := hr
        refine WL.callRO guard_none rfl (YC.ofV E51 rfl rfl) (L_components_Embedded_c1 _ _ _ _ hyv1) rfl (trivial) (Lo.sub_cons rfl (Lo.sub_nil _)) (fun i hi => by simp only [List.map_cons, List.map_nil, List.mem_cons, List.not_mem_nil, or_false] at hi; subst hi; exact rfl) hz (fun yv1v Gv1 Gv1le yv1post => ?_)
        subst yv1post
        refine WL.nil ?_
        refine WE.then ?_
        refine WC.cond (b := yv1) rfl (fun hc2 => ?_) (fun hc2 => ?_)
        · replace hr := hr.pos hc2
          refine WC.seq ?_
          refine WC.region ?_
          refine WL.y0' guard_none (Y0.move rfl) rfl ?_
          refine WL.y0' guard_none (Y0.assign rfl) rfl ?_
          refine WL.nil ?_
          refine WE.then ?_
          refine WC.ret ?_
          replace hr : _ = r := hr
          refine WE.inBlockRet ?_
          refine WE.thenRet ?_
          refine WE.thenRet ?_
          refine WE.inBlockRet ?_
          refine WE.endRet ?_
          refine WE.thenRet ?_
          subst hr
          refine WE.conseq (S' := St w0 G0 Gv1 [(103610, some ⟨b1, .cells ([.int .u8 cap1]).toArray 5 (0, 0), 0⟩)]) ?_ ?_
          · intro w hs
            exact hs.weaken (Lo.sub_cons rfl (Lo.sub_nil _))
          exact WE.ret1 rfl rfl ⟨rfl, rfl⟩
        · replace hr := hr.neg (Bool.eq_false_iff.1 hc2)
          refine WC.skip ?_
          refine WE.inBlock ?_
          refine WE.then ?_
          refine WC.region ?_
          refine WL.y0' guard_none (Y0.add rfl rfl) rfl ?_
          refine WL.y0' guard_none (Y0.move rfl) rfl ?_
          refine WL.nil ?_
          refine WE.backR ⟨IntKind.i64.wrap (v8_1 + 1), Gv1⟩ hr (Mem.le_trans Gm2le Gv1le) (Fr.sub_cons rfl (Fr.sub_cons rfl (Fr.sub_cons rfl (Fr.sub_cons rfl (Fr.sub_nil _))))) ?_
          · intro w hs
            exact hs.weaken (Lo.sub_cons rfl (Lo.sub_nil _))
      · replace hr := hr.neg hc1
        refine WC.exit ?_
        refine WE.thenExit ?_
        refine WE.thenExit ?_
        refine WE.exitHere ?_
        refine WE.endH Gm2 ⟨Gm2le, hr⟩ (Fr.sub_nil _) ?_
        · intro w hs
          exact hs.weaken (Lo.sub_cons rfl (Lo.sub_nil _))
  · rintro Gm1 ⟨Gm1le, hr⟩
    refine WE.then ?_
    refine WC.seq ?_
    refine WC.region ?_
    refine WL.y0' guard_none (Y0.assign rfl) rfl ?_
    refine WL.nil ?_
    refine WE.then ?_
    refine WC.ret ?_
    replace hr : _ = r := hr
    subst hr
    refine WE.conseq (S' := St w0 G0 Gm1 [(103610, some ⟨b1, .cells ([.int .u8 cap1]).toArray 5 (0, 0), 0⟩)]) ?_ ?_
    · intro w hs
      exact hs.weaken (Lo.sub_cons rfl (Lo.sub_nil _))
    exact WE.ret1 rfl rfl ⟨rfl, rfl⟩
theorem L_slices_ContainsFunc_uint8_uint8_components_Embedded_c1 (s1 : (List Int)) (cap1 : Int) (s1p : Option Addr) (s1c : Nat) (b1 : Nat) (r : Bool) (hr : (slices_ContainsFunc_uint8_uint8_components_Embedded_c1 s1 cap1).Ret r) : CtrL Try.prog 50 #[.slice s1p s1.length s1c, .func (.func 51) #[] #[.pointer (some ⟨b1, 0, none⟩)]] [(103610, some ⟨b1, .cells ([.int .u8 cap1]).toArray 5 (0, 0), 0⟩)] (fun G => SlR (Rp.int .u8) G (.slice s1p s1.length s1c) s1) (fun G L v => L = [(103610, some ⟨b1, .cells ([.int .u8 cap1]).toArray 5 (0, 0), 0⟩)] ∧ v = .bool r) := by
  refine CtrL.enter (args := [_, _]) (N := 9) Try.func50 rfl rfl rfl (fun w0 G0 hL0 hpre => ?_)
  have s1h := hpre
  have hz : w0.L.zero := by
    rw [hL0]; intro p hp x hx
    simp only [List.mem_cons, List.not_mem_nil, or_false] at hp
    subst hp; cases hx; rfl
  refine WC.seq ?_
  refine WC.region ?_
  refine WL.y0' guard_none (Y0.assign rfl) rfl ?_
  refine WL.nil ?_
  refine WE.then ?_
  refine WC.seq ?_
  refine WC.region ?_
  refine WL.y0' guard_none (Y0.move rfl) rfl ?_
  refine WL.y0' guard_none (Y0.move rfl) rfl ?_
  obtain ⟨yv1, hyv1, hr⟩ := hr
  refine WL.callRO guard_none rfl (YC.of E76 rfl) (L_slices_IndexFunc_uint8_uint8_components_Embedded_c1 _ _ _ _ _ _ hyv1) rfl (s1h) (Lo.sub_cons rfl (Lo.sub_nil _)) (fun i hi => by simp only [List.map_cons, List.map_nil, List.mem_cons, List.not_mem_nil, or_false] at hi; subst hi; exact rfl) hz (fun yv1v Gv1 Gv1le yv1post => ?_)
  subst yv1post
  refine WL.y0' guard_none (Y0.geq rfl rfl) rfl ?_
  refine WL.y0' guard_none (Y0.assign rfl) rfl ?_
  refine WL.nil ?_
  refine WE.then ?_
  refine WC.ret ?_
  replace hr : _ = r := hr
  subst hr
  refine WE.conseq (S' := St w0 G0 Gv1 [(103610, some ⟨b1, .cells ([.int .u8 cap1]).toArray 5 (0, 0), 0⟩)]) ?_ ?_
  · intro w hs
    exact hs.weaken (Lo.sub_cons rfl (Lo.sub_nil _))
  exact WE.ret1 rfl rfl ⟨rfl, rfl⟩
theorem L_components_Embedded (l1 : (List (Fin 8 → Int))) (n1 : Int) (l1p : Option Addr) (l1c : Nat) (r : (List Int) × Int) (hr : (components_Embedded l1 n1).Ret r) : Ctr Try.prog 18 #[.slice l1p l1.length l1c, .int .i64 n1] (fun G => SlR (Rp.vec .i64 8) G (.slice l1p l1.length l1c) l1) (fun G v => ∃ zr0p zr0c, v = .tuple #[.slice zr0p r.1.length zr0c, .int .i64 r.2] ∧ SlR (Rp.int .u8) G (.slice zr0p r.1.length zr0c) r.1) := by
  refine Ctr.enter (args := [_, _]) (N := 35) Try.func18 rfl rfl rfl (fun w0 G0 hL0 hpre => ?_)
  have l1h := hpre
  have hz : w0.L.zero := by rw [hL0]; intro p hp; simp at hp
  refine WC.seq ?_
  refine WC.region ?_
  refine WL.y0' guard_none (Y0.assign rfl) rfl ?_
  refine WL.y0' guard_none (Y0.assign rfl) rfl ?_
  refine WL.nil ?_
  refine WE.then ?_
  refine WC.seq ?_
  refine WC.seq ?_
  refine WC.region ?_
  refine WL.y0' guard_none (Y0.move rfl) rfl ?_
  refine WL.y0' guard_none (Y0.move rfl) rfl ?_
  obtain ⟨yv1, hyv1, hr⟩ := hr
  refine WL.call0 guard_none rfl (YC.of E42 rfl) (L_components_check _ _ _ _ _ hyv1) rfl (l1h) ?_
  refine WL.y0' guard_none (Y0.assign rfl) rfl ?_
  refine WL.nil ?_
  refine WE.then ?_
  refine WC.seq ?_
  refine WC.region ?_
  refine WL.y0' guard_none (Y0.move rfl) rfl ?_
  refine WL.y0' guard_none (Y0.neq rfl rfl) rfl ?_
  refine WL.nil ?_
  refine WE.then ?_
  refine WC.condD (p := ¬ yv1 = 0) rfl (fun hc1 => ?_) (fun hc1 => ?_)
  · replace hr := hr.pos hc1
    refine WC.seq ?_
    refine WC.region ?_
    refine WL.y0' guard_none (Y0.move rfl) rfl ?_
    refine WL.y0' guard_none (Y0.assign rfl) rfl ?_
    refine WL.y0' guard_none (Y0.assign rfl) rfl ?_
    refine WL.nil ?_
    refine WE.then ?_
    refine WC.ret ?_
    replace hr : _ = r := hr
    refine WE.thenRet ?_
    subst hr
    exact WE.ret2 rfl rfl rfl ⟨_, _, rfl, (SlR.nil (Rp.int .u8) _)⟩
  · replace hr := hr.neg hc1
    refine WC.skip ?_
    refine WE.then ?_
    refine WC.seq ?_
    refine WC.region ?_
    refine WL.y0' guard_none (Y0.move rfl) rfl ?_
    obtain ⟨yv2, hyv2, hr⟩ := hr
    refine WL.callT guard_none rfl (YC.of E49 rfl) (L_components_parts _ _ _ _ hyv2) rfl (l1h) (Lo.sub_nil _) hz (fun yv2v Gv2 Lyv2 Gv2le yv2post => ?_)
    obtain ⟨yv2b, yv2tk, rfl, rfl, yv2h⟩ := yv2post
    refine WL.conseq (fun w hs => hs.rekey (i := 7000) (j := 4018) rfl (by rw [hL0]; rfl)) ?_
    obtain ⟨yv3, hyv3, hr⟩ := hr
    refine WL.conseq (fun w hs => hs.rekey (i := 4018) (j := 5500) rfl (by rw [hL0]; rfl)) ?_
    refine WL.callRO guard_none rfl (YC.of E48 rfl) (L_components_primes _ _ _ _ hyv3) rfl (yv2h) (Lo.sub_cons rfl (Lo.sub_nil _)) (fun i hi => by simp only [List.map_cons, List.map_nil, List.mem_cons, List.not_mem_nil, or_false] at hi; subst hi; exact rfl) hz (fun yv3v Gv3 Gv3le yv3post => ?_)
    obtain ⟨yv3p, yv3c, rfl, yv3h⟩ := yv3post
    refine WL.conseq (fun w hs => hs.rekey (i := 5500) (j := 4018) rfl (by rw [hL0]; rfl)) ?_
    refine WL.y0' guard_none (Y0.assign rfl) rfl ?_
    refine WL.nil ?_
    refine WE.then ?_
    refine WC.seq ?_
    refine WC.region ?_
    refine WL.y0' guard_none (Y0.assign rfl) rfl ?_
    refine WL.nil ?_
    refine WE.then ?_
    refine WC.seq ?_
    refine WC.seq ?_
    refine WC.region ?_
    refine WL.y0' guard_none (Y0.move rfl) rfl ?_
    refine WL.y0' guard_none (Y0.lenR Try.underlying33 yv3h rfl) rfl ?_
    refine WL.y0' guard_none (Y0.move rfl) rfl ?_
    refine WL.nil ?_
    refine WE.then ?_
    refine WC.meetH (fun (gx : (List Int) × Option Addr × Nat × Option Ow × Mem) => match gx with | ⟨result1, result1p, result1c, result1tk, Gm1⟩ => [(8, .slice result1p result1.length result1c)]) (fun (gx : (List Int) × Option Addr × Nat × Option Ow × Mem) => match gx with | ⟨result1, result1p, result1c, result1tk, Gm1⟩ => Mem.le Gv3 Gm1 ∧ SlR (Rp.int .u8) Gm1 (.slice result1p result1.length result1c) result1 ∧ Tok 1 5 (.slice result1p result1.length result1c) result1.length result1tk ∧ (components_Embedded_k1 result1).Ret r) (fun (gx : (List Int) × Option Addr × Nat × Option Ow × Mem) => match gx with | ⟨result1, result1p, result1c, result1tk, Gm1⟩ => St w0 G0 Gm1 [(1008, result1tk)]) ?_ ?_
    · refine WC.block ?_
      let Phi1 : (List Int) → Prop := fun oo => ((fun ov => match ov with | result1 => components_Embedded_k1 result1 : (List Int) → Comp ((List Int) × Int)) oo).wp (fun a => a = r)
      replace hr : (Comp.loop _ _).wp Phi1 := hr
      refine WC.loopR (Φ := Phi1) (fun (gx : (List Int) × Option Addr × Nat × Option Ow × Int × Mem) => match gx with | ⟨result2, result2p, result2c, result2tk, v22_1, Gm2⟩ => ((result2, v22_1) : (List Int) × Int)) (fun (gx : (List Int) × Option Addr × Nat × Option Ow × Int × Mem) => match gx with | ⟨result2, result2p, result2c, result2tk, v22_1, Gm2⟩ => [(7, .slice yv3p yv3.length yv3c), (8, .slice result2p result2.length result2c), (20, .slice yv3p yv3.length yv3c), (21, .int .i64 (yv3.length : Int)), (22, .int .i64 v22_1)]) (fun (gx : (List Int) × Option Addr × Nat × Option Ow × Int × Mem) => match gx with | ⟨result2, result2p, result2c, result2tk, v22_1, Gm2⟩ => Mem.le Gv3 Gm2 ∧ SlR (Rp.int .u8) Gm2 (.slice result2p result2.length result2c) result2 ∧ Tok 1 5 (.slice result2p result2.length result2c) result2.length result2tk) (fun (gx : (List Int) × Option Addr × Nat × Option Ow × Int × Mem) => match gx with | ⟨result2, result2p, result2c, result2tk, v22_1, Gm2⟩ => St w0 G0 Gm2 [(1008, result2tk)]) ⟨[], none, 0, none, 0, Gv3⟩ hr (Fr.sub_cons rfl (Fr.sub_cons rfl (Fr.sub_cons rfl (Fr.sub_cons rfl (Fr.sub_cons rfl (Fr.sub_nil _)))))) ⟨(Mem.le_refl _), (SlR.nil _ _), Tok.full⟩ ?_ ?_
      · intro w hs
        exact hs.weaken (Lo.sub_no (Lo.sub_nil _))
      · intro Aq1 gx hx hr
        obtain ⟨result2, result2p, result2c, result2tk, v22_1, Gm2⟩ := gx
        obtain ⟨Gm2le, result2h, result2ht⟩ := hx
        refine WC.seq ?_
        refine WC.region ?_
        refine WL.y0' guard_none (Y0.lss rfl rfl) rfl ?_
        refine WL.nil ?_
        refine WE.then ?_
        refine WC.seq ?_
        refine WC.condD (p := v22_1 < (yv3.length : Int)) rfl (fun hc2 => ?_) (fun hc2 => ?_)
        · replace hr := hr.pos hc2
          refine WC.skip ?_
          refine WE.then ?_
          refine WC.seq ?_
          refine WC.block ?_
          refine WC.seq ?_
          refine WC.region ?_
          obtain ⟨x1, hx1, hr⟩ := hr
          refine WL.y0' guard_none (Y0.idxR Try.underlying33 sz5 (yv3h.mono Gm2le) rfl rfl hx1) rfl ?_
          refine WL.y0' guard_none (Y0.loadG sc5 rfl (AtK.int (At.mono (SlR.at yv3h hx1) Gm2le))) rfl ?_
          refine WL.alloc 103610 guard_none z5 rfl (fun b1 => ?_)
          refine WL.storeL 103610 ([.int .u8 x1]).toArray guard_none sz5 rfl rfl rfl (by first | decide | simp) rfl rfl ?_
          refine WL.nil ?_
          refine WE.then ?_
          refine WC.seq ?_
          refine WC.region ?_
          refine WL.y0' guard_none (Y0.move rfl) rfl ?_
          refine WL.y0' guard_none (Y0.makeFunc rfl rfl) rfl ?_
          obtain ⟨yv4, hyv4, hr⟩ := hr
          refine WL.callRO guard_none rfl (YC.of E50 rfl) (L_slices_ContainsFunc_uint8_uint8_components_Embedded_c1 _ _ _ _ _ _ hyv4) rfl ((yv3h.mono Gm2le)) (Lo.sub_cons rfl (Lo.sub_nil _)) (fun i hi => by simp only [List.map_cons, List.map_nil, List.mem_cons, List.not_mem_nil, or_false] at hi; subst hi; exact rfl) hz (fun yv4v Gv4 Gv4le yv4post => ?_)
          subst yv4post
          refine WL.nil ?_
          refine WE.then ?_
          refine WC.cond (b := yv4) rfl (fun hc3 => ?_) (fun hc3 => ?_)
          · replace hr := hr.pos hc3
            refine WC.region ?_
            refine WL.y0' guard_none (Y0.move rfl) rfl ?_
            refine WL.y0' guard_none (Y0.loadL 103610 sc5 rfl rfl rfl) rfl ?_
            refine WL.litR (e := 5) (r := (Rp.int .u8)) (vs := #[(0, .int .u8 x1)]) (cs := [.int .u8 x1] ++ ([])) ([x1] : List Int) guard_none rfl rfl rfl rfl (by decide) (fun _ => by kernel_rfl) ⟨[.int .u8 x1], [], rfl, rfl, rfl⟩ (key := 999) rfl (by rw [hL0]; rfl) (fun p1 Gv5 Gv5le p1h => ?_)
            obtain ⟨hsm1, hr⟩ := hr
            refine WL.appendR (r := (Rp.int .u8)) 1008 guard_none rfl Try.underlying33 el5 rfl (by decide) rfl rfl (result2h.mono (Mem.le_trans Gv4le Gv5le)) rfl (by rw [hL0]; rfl) result2ht p1h hsm1 (fun p2 p2c p2tk Gv6 Gv6le p2h p2ht => ?_)
            refine WL.y0' guard_none (Y0.assign rfl) rfl ?_
            refine WL.nil ?_
            refine WE.inBlock ?_
            refine WE.then ?_
            refine WC.region ?_
            refine WL.y0' guard_none (Y0.add rfl rfl) rfl ?_
            refine WL.y0' guard_none (Y0.move rfl) rfl ?_
            refine WL.nil ?_
            refine WE.backR ⟨(result2 ++ [x1]), p2, p2c, p2tk, IntKind.i64.wrap (v22_1 + 1), Gv6⟩ hr ⟨(Mem.le_trans (Mem.le_trans (Mem.le_trans Gm2le Gv4le) Gv5le) Gv6le), p2h, p2ht⟩ (Fr.sub_cons rfl (Fr.sub_cons rfl (Fr.sub_cons rfl (Fr.sub_cons rfl (Fr.sub_cons rfl (Fr.sub_nil _)))))) ?_
            · intro w hs
              exact hs.weaken (Lo.sub_cons rfl (Lo.sub_nil _))
          · replace hr := hr.neg (Bool.eq_false_iff.1 hc3)
            refine WC.skip ?_
            refine WE.inBlock ?_
            refine WE.then ?_
            refine WC.region ?_
            refine WL.y0' guard_none (Y0.add rfl rfl) rfl ?_
            refine WL.y0' guard_none (Y0.move rfl) rfl ?_
            refine WL.nil ?_
            refine WE.backR ⟨result2, result2p, result2c, result2tk, IntKind.i64.wrap (v22_1 + 1), Gv4⟩ hr ⟨(Mem.le_trans Gm2le Gv4le), (result2h.mono Gv4le), result2ht⟩ (Fr.sub_cons rfl (Fr.sub_cons rfl (Fr.sub_cons rfl (Fr.sub_cons rfl (Fr.sub_cons rfl (Fr.sub_nil _)))))) ?_
            · intro w hs
              exact hs.weaken (Lo.sub_cons rfl (Lo.sub_nil _))
        · replace hr := hr.neg hc2
          refine WC.exit ?_
          refine WE.thenExit ?_
          refine WE.thenExit ?_
          refine WE.exitHere ?_
          refine WE.endH ⟨result2, result2p, result2c, result2tk, Gm2⟩ ⟨Gm2le, result2h, result2ht, hr⟩ (Fr.sub_cons rfl (Fr.sub_nil _)) ?_
          · intro w hs
            exact hs.weaken (Lo.sub_cons rfl (Lo.sub_nil _))
    · rintro ⟨result1, result1p, result1c, result1tk, Gm1⟩ ⟨Gm1le, result1h, result1ht, hr⟩
      refine WE.then ?_
      refine WC.seq ?_
      refine WC.region ?_
      refine WL.y0' guard_none (Y0.move rfl) rfl ?_
      refine WL.y0' guard_none (Y0.assign rfl) rfl ?_
      refine WL.y0' guard_none (Y0.assign rfl) rfl ?_
      refine WL.nil ?_
      refine WE.then ?_
      refine WC.ret ?_
      replace hr : _ = r := hr
      subst hr
      exact WE.ret2 rfl rfl rfl ⟨_, _, rfl, result1h⟩
theorem L_monomial_Lcm (a1 : (Fin 8 → Int)) (b1 : (Fin 8 → Int)) (r : (Fin 8 → Int)) (hr : (monomial_Lcm a1 b1).Ret r) : Ctr Try.prog 77 #[.agg (vecG (Value.int .i64) 8 a1).toArray, .agg (vecG (Value.int .i64) 8 b1).toArray] (fun G => True) (fun G v => v = .agg (vecG (Value.int .i64) 8 r).toArray) := by
  refine Ctr.enter (args := [_, _]) (N := 20) Try.func77 rfl rfl rfl (fun w0 G0 hL0 hpre => ?_)
  refine WC.seq ?_
  refine WC.region ?_
  refine WL.box 2 guard_none rfl rfl (fun b2 => ?_)
  refine WL.box 3 guard_none rfl rfl (fun b3 => ?_)
  refine WL.alloc 4 guard_none z48 rfl (fun b4 => ?_)
  refine WL.nil ?_
  refine WE.then ?_
  refine WC.seq ?_
  refine WC.seq ?_
  refine WC.region ?_
  refine WL.y0' guard_none (Y0.move rfl) rfl ?_
  refine WL.nil ?_
  refine WE.then ?_
  refine WC.meetH (fun (gx : (Fin 8 → Int) × Mem) => match gx with | ⟨bx1, Gm1⟩ => [(2, .pointer (some ⟨b2, 0, none⟩)), (4, .pointer (some ⟨b4, 0, none⟩))]) (fun (gx : (Fin 8 → Int) × Mem) => match gx with | ⟨bx1, Gm1⟩ => Mem.le G0 Gm1 ∧ (monomial_Lcm_k1 bx1).Ret r) (fun (gx : (Fin 8 → Int) × Mem) => match gx with | ⟨bx1, Gm1⟩ => St w0 G0 Gm1 [(2, some ⟨b2, .cells (vecG (Value.int .i64) 8 bx1).toArray 48 (0, 0), 0⟩), (4, some ⟨b4, .cells (vecG (Value.int .i64) 8 (fun _ => 0)).toArray 48 (0, 0), 0⟩)]) ?_ ?_
  · refine WC.block ?_
    let Phi1 : (Fin 8 → Int) → Prop := fun oo => ((fun ov => match ov with | bx1 => monomial_Lcm_k1 bx1 : (Fin 8 → Int) → Comp (Fin 8 → Int)) oo).wp (fun a => a = r)
    replace hr : (Comp.loop _ _).wp Phi1 := hr
    refine WC.loopR (Φ := Phi1) (fun (gx : Int × (Fin 8 → Int) × Mem) => match gx with | ⟨v6_1, bx2, Gm2⟩ => ((v6_1, bx2) : Int × (Fin 8 → Int))) (fun (gx : Int × (Fin 8 → Int) × Mem) => match gx with | ⟨v6_1, bx2, Gm2⟩ => [(2, .pointer (some ⟨b2, 0, none⟩)), (3, .pointer (some ⟨b3, 0, none⟩)), (4, .pointer (some ⟨b4, 0, none⟩)), (6, .int .i64 v6_1)]) (fun (gx : Int × (Fin 8 → Int) × Mem) => match gx with | ⟨v6_1, bx2, Gm2⟩ => Mem.le G0 Gm2) (fun (gx : Int × (Fin 8 → Int) × Mem) => match gx with | ⟨v6_1, bx2, Gm2⟩ => St w0 G0 Gm2 [(2, some ⟨b2, .cells (vecG (Value.int .i64) 8 bx2).toArray 48 (0, 0), 0⟩), (3, some ⟨b3, .cells (vecG (Value.int .i64) 8 b1).toArray 48 (0, 0), 0⟩), (4, some ⟨b4, .cells (vecG (Value.int .i64) 8 (fun _ => 0)).toArray 48 (0, 0), 0⟩)]) ⟨0, a1, G0⟩ hr (Fr.sub_cons rfl (Fr.sub_cons rfl (Fr.sub_cons rfl (Fr.sub_cons rfl (Fr.sub_nil _))))) (Mem.le_refl _) ?_ ?_
    · intro w hs
      exact hs.weaken (Lo.sub_cons rfl (Lo.sub_cons rfl (Lo.sub_cons rfl (Lo.sub_nil _))))
    · intro Aq1 gx hx hr
      obtain ⟨v6_1, bx2, Gm2⟩ := gx
      have Gm2le := hx
      refine WC.seq ?_
      refine WC.region ?_
      refine WL.y0' guard_none (Y0.lss rfl rfl) rfl ?_
      refine WL.nil ?_
      refine WE.then ?_
      refine WC.seq ?_
      refine WC.condD (p := v6_1 < 8) rfl (fun hc1 => ?_) (fun hc1 => ?_)
      · replace hr := hr.pos hc1
        refine WC.skip ?_
        refine WE.then ?_
        refine WC.seq ?_
        refine WC.block ?_
        refine WC.seq ?_
        refine WC.region ?_
        refine WL.y0' guard_none (Y0.move rfl) rfl ?_
        refine WL.y0' guard_none (Y0.assign rfl) rfl ?_
        refine WL.nil ?_
        refine WE.then ?_
        refine WC.drawn [false, false, false, false, false, false, false, false, false] mix (by kernel_rfl) (fun hb => ?_)
        refine Chain.y0 guard_none (fun _ hle => Y0.move rfl) ?_
        refine Chain.y0 guard_none (fun _ hle => Y0.move rfl) ?_
        obtain ⟨hi1, hr⟩ := hr
        refine Chain.y0 guard_none (fun _ hle => Y0.idxA0 Try.underlying48 sz3 rfl rfl hi1) ?_
        refine Chain.y0 guard_none (fun _ hle => Y0.loadL 2 sc3 rfl rfl (vecG_at _ _ _ hi1)) ?_
        refine Chain.y0 guard_none (fun _ hle => Y0.move rfl) ?_
        obtain ⟨hi2, hr⟩ := hr
        refine Chain.y0 guard_none (fun _ hle => Y0.idxA0 Try.underlying48 sz3 rfl rfl hi2) ?_
        refine Chain.y0 guard_none (fun _ hle => Y0.loadL 3 sc3 rfl rfl (vecG_at _ _ _ hi2)) ?_
        refine Chain.y0 guard_none (fun _ hle => Y0.max2 rfl rfl) ?_
        obtain ⟨hi3, hr⟩ := hr
        refine Chain.y0 guard_none (fun _ hle => Y0.idxA0 Try.underlying48 sz3 rfl rfl hi3) ?_
        refine Chain.tail0 hb ?_
        refine WL.storeL 2 (vecG (Value.int .i64) 8 (setF bx2 v6_1.toNat (if (getF bx2 v6_1) < (getF b1 v6_1) then (getF b1 v6_1) else (getF bx2 v6_1)))).toArray guard_none sz3 rfl rfl rfl (by first | (rw [vecG_size]; omega) | (show _ < (vecG _ _ _).toArray.size; rw [vecG_size]; omega)) rfl (vecG_put _ _ _ _ _) ?_
        refine WL.nil ?_
        refine WE.nx ?_
        refine WE.inBlock ?_
        refine WE.then ?_
        refine WC.region ?_
        refine WL.y0' guard_none (Y0.add rfl rfl) rfl ?_
        refine WL.y0' guard_none (Y0.move rfl) rfl ?_
        refine WL.nil ?_
        refine WE.backR ⟨IntKind.i64.wrap (v6_1 + 1), setF bx2 v6_1.toNat (if (getF bx2 v6_1) < (getF b1 v6_1) then (getF b1 v6_1) else (getF bx2 v6_1)), Gm2⟩ hr Gm2le (Fr.sub_cons rfl (Fr.sub_cons rfl (Fr.sub_cons rfl (Fr.sub_cons rfl (Fr.sub_nil _))))) ?_
        · intro w hs
          exact hs.weaken (Lo.sub_cons rfl (Lo.sub_cons rfl (Lo.sub_cons rfl (Lo.sub_nil _))))
      · replace hr := hr.neg hc1
        refine WC.exit ?_
        refine WE.thenExit ?_
        refine WE.thenExit ?_
        refine WE.exitHere ?_
        refine WE.endH ⟨bx2, Gm2⟩ ⟨Gm2le, hr⟩ (Fr.sub_cons rfl (Fr.sub_cons rfl (Fr.sub_nil _))) ?_
        · intro w hs
          exact hs.weaken (Lo.sub_cons rfl (Lo.sub_cons rfl (Lo.sub_nil _)))
  · rintro ⟨bx1, Gm1⟩ ⟨Gm1le, hr⟩
    refine WE.then ?_
    refine WC.seq ?_
    refine WC.region ?_
    refine WL.y0' guard_none (Y0.loadLA 2 ag48 rfl rfl (vecG_size _ _ _)) rfl ?_
    refine WL.storeLA 4 guard_none sz48 rfl rfl rfl (vecG_size _ _ _) (vecG_size _ _ _) (fun u hu => Rp.one (Rp.vec .i64 8) (G := Gm1) (x := bx1) (cs := vecG (Value.int .i64) 8 bx1) rfl u (by simpa using hu)) ?_
    refine WL.nil ?_
    refine WE.then ?_
    refine WC.ret ?_
    replace hr : _ = r := hr
    subst hr
    exact WE.ret1 rfl (RV.cellA (i := 4) ag48 rfl rfl (vecG_size _ _ _)) rfl
theorem L_components_meet (ideals1 : (List (List (Fin 8 → Int)))) (ideals1p : Option Addr) (ideals1c : Nat) (r : (List (Fin 8 → Int))) (hr : (components_meet ideals1).Ret r) : Ctr Try.prog 52 #[.slice ideals1p ideals1.length ideals1c] (fun G => SlR (Rp.sl (Rp.vec .i64 8)) G (.slice ideals1p ideals1.length ideals1c) ideals1) (fun G v => ∃ zp zc, v = .slice zp r.length zc ∧ SlR (Rp.vec .i64 8) G (.slice zp r.length zc) r) := by
  refine Ctr.enter (args := [_]) (N := 46) Try.func52 rfl rfl rfl (fun w0 G0 hL0 hpre => ?_)
  have ideals1h := hpre
  refine WC.seq ?_
  refine WC.region ?_
  refine WL.y0' guard_none (Y0.assign rfl) rfl ?_
  refine WL.nil ?_
  refine WE.then ?_
  refine WC.seq ?_
  refine WC.region ?_
  refine WL.y0' guard_none (Y0.move rfl) rfl ?_
  obtain ⟨x1, hx1, hr⟩ := hr
  refine WL.y0' guard_none (Y0.idxR Try.underlying74 sz28 ideals1h rfl rfl hx1) rfl ?_
  obtain ⟨p1, p1c, p1e, p1h⟩ := AtK.sl (SlR.at ideals1h hx1)
  refine WL.y0' guard_none (Y0.loadG sc28 rfl (p1e)) rfl ?_
  obtain ⟨yv1, hyv1, hr⟩ := hr
  refine WL.call guard_none rfl (YC.of E55 rfl) (L_monomial_Minimal _ _ _ _ hyv1) rfl (p1h) (fun yv1v Gv1 Gv1le yv1post => ?_)
  obtain ⟨yv1p, yv1c, rfl, yv1h⟩ := yv1post
  refine WL.y0' guard_none (Y0.assign rfl) rfl ?_
  refine WL.nil ?_
  refine WE.then ?_
  refine WC.seq ?_
  refine WC.seq ?_
  refine WC.region ?_
  refine WL.y0' guard_none (Y0.move rfl) rfl ?_
  obtain ⟨hs1, hr⟩ := hr
  refine WL.sliceRL (r := (Rp.sl (Rp.vec .i64 8))) guard_none rfl Try.underlying74 sz28 rfl (ideals1h.mono Gv1le) rfl rfl hs1 (fun p2 p2c p2h => ?_)
  refine WL.y0' guard_none (Y0.lenR Try.underlying74 p2h rfl) rfl ?_
  refine WL.y0' guard_none (Y0.move rfl) rfl ?_
  refine WL.nil ?_
  refine WE.then ?_
  refine WC.meetH (fun (gx : (List (Fin 8 → Int)) × Option Addr × Nat × Mem) => match gx with | ⟨result1, result1p, result1c, Gm1⟩ => [(3, .slice result1p result1.length result1c)]) (fun (gx : (List (Fin 8 → Int)) × Option Addr × Nat × Mem) => match gx with | ⟨result1, result1p, result1c, Gm1⟩ => Mem.le Gv1 Gm1 ∧ SlR (Rp.vec .i64 8) Gm1 (.slice result1p result1.length result1c) result1 ∧ (components_meet_k1 result1).Ret r) (fun (gx : (List (Fin 8 → Int)) × Option Addr × Nat × Mem) => match gx with | ⟨result1, result1p, result1c, Gm1⟩ => St w0 G0 Gm1 []) ?_ ?_
  · refine WC.block ?_
    let Phi1 : (((List (Fin 8 → Int)))) → Prop := fun oo => ((fun ov => match ov with | result1 => components_meet_k1 result1 : (((List (Fin 8 → Int)))) → Comp ((List (Fin 8 → Int)))) oo).wp (fun a => a = r)
    replace hr : (Comp.loop _ _).wp Phi1 := hr
    refine WC.loopR (Φ := Phi1) (fun (gx : (List (Fin 8 → Int)) × Option Addr × Nat × Int × Mem) => match gx with | ⟨result2, result2p, result2c, v18_1, Gm2⟩ => ((result2, v18_1) : (List (Fin 8 → Int)) × Int)) (fun (gx : (List (Fin 8 → Int)) × Option Addr × Nat × Int × Mem) => match gx with | ⟨result2, result2p, result2c, v18_1, Gm2⟩ => [(3, .slice result2p result2.length result2c), (16, .slice p2 ((ideals1.take (ideals1.length : Int).toNat).drop (1 : Int).toNat).length p2c), (17, .int .i64 (((ideals1.take (ideals1.length : Int).toNat).drop (1 : Int).toNat).length : Int)), (18, .int .i64 v18_1)]) (fun (gx : (List (Fin 8 → Int)) × Option Addr × Nat × Int × Mem) => match gx with | ⟨result2, result2p, result2c, v18_1, Gm2⟩ => Mem.le Gv1 Gm2 ∧ SlR (Rp.vec .i64 8) Gm2 (.slice result2p result2.length result2c) result2) (fun (gx : (List (Fin 8 → Int)) × Option Addr × Nat × Int × Mem) => match gx with | ⟨result2, result2p, result2c, v18_1, Gm2⟩ => St w0 G0 Gm2 []) ⟨yv1, yv1p, yv1c, 0, Gv1⟩ hr (Fr.sub_cons rfl (Fr.sub_cons rfl (Fr.sub_cons rfl (Fr.sub_cons rfl (Fr.sub_nil _))))) ⟨(Mem.le_refl _), yv1h⟩ ?_ ?_
    · intro w hs
      exact hs.weaken (Lo.sub_nil _)
    · intro Aq1 gx hx hr
      obtain ⟨result2, result2p, result2c, v18_1, Gm2⟩ := gx
      obtain ⟨Gm2le, result2h⟩ := hx
      refine WC.seq ?_
      refine WC.region ?_
      refine WL.y0' guard_none (Y0.lss rfl rfl) rfl ?_
      refine WL.nil ?_
      refine WE.then ?_
      refine WC.seq ?_
      refine WC.condD (p := v18_1 < (((ideals1.take (ideals1.length : Int).toNat).drop (1 : Int).toNat).length : Int)) rfl (fun hc1 => ?_) (fun hc1 => ?_)
      · replace hr := hr.pos hc1
        refine WC.skip ?_
        refine WE.then ?_
        refine WC.seq ?_
        refine WC.block ?_
        refine WC.seq ?_
        refine WC.region ?_
        obtain ⟨x2, hx2, hr⟩ := hr
        refine WL.y0' guard_none (Y0.idxR Try.underlying74 sz28 (p2h.mono Gm2le) rfl rfl hx2) rfl ?_
        obtain ⟨p3, p3c, p3e, p3h⟩ := AtK.sl (At.mono (SlR.at p2h hx2) Gm2le)
        refine WL.y0' guard_none (Y0.loadG sc28 rfl (p3e)) rfl ?_
        refine WL.y0' guard_none (Y0.assign rfl) rfl ?_
        refine WL.nil ?_
        refine WE.then ?_
        refine WC.seq ?_
        refine WC.region ?_
        refine WL.y0' guard_none (Y0.assign rfl) rfl ?_
        refine WL.nil ?_
        refine WE.then ?_
        refine WC.seq ?_
        refine WC.seq ?_
        refine WC.region ?_
        refine WL.y0' guard_none (Y0.move rfl) rfl ?_
        refine WL.y0' guard_none (Y0.lenR Try.underlying28 result2h rfl) rfl ?_
        refine WL.y0' guard_none (Y0.move rfl) rfl ?_
        refine WL.nil ?_
        refine WE.then ?_
        refine WC.meetH (fun (gx : (List (Fin 8 → Int)) × Option Addr × Nat × Option Ow × Mem) => match gx with | ⟨all1, all1p, all1c, all1tk, Gm3⟩ => [(6, .slice all1p all1.length all1c), (16, .slice p2 ((ideals1.take (ideals1.length : Int).toNat).drop (1 : Int).toNat).length p2c), (17, .int .i64 (((ideals1.take (ideals1.length : Int).toNat).drop (1 : Int).toNat).length : Int)), (18, .int .i64 v18_1)]) (fun (gx : (List (Fin 8 → Int)) × Option Addr × Nat × Option Ow × Mem) => match gx with | ⟨all1, all1p, all1c, all1tk, Gm3⟩ => Mem.le Gm2 Gm3 ∧ SlR (Rp.vec .i64 8) Gm3 (.slice all1p all1.length all1c) all1 ∧ Tok 8 48 (.slice all1p all1.length all1c) all1.length all1tk ∧ (components_meet_k3 v18_1 all1).wp (Out Aq1 Phi1)) (fun (gx : (List (Fin 8 → Int)) × Option Addr × Nat × Option Ow × Mem) => match gx with | ⟨all1, all1p, all1c, all1tk, Gm3⟩ => St w0 G0 Gm3 [(1006, all1tk)]) ?_ ?_
        · refine WC.block ?_
          let Phi2 : (((List (Fin 8 → Int)))) → Prop := fun oo => ((fun ov => match ov with | all1 => components_meet_k3 v18_1 all1 : (((List (Fin 8 → Int)))) → Comp (((List (Fin 8 → Int)) × Int) ⊕ (((List (Fin 8 → Int)))))) oo).wp (Out Aq1 Phi1)
          replace hr : (Comp.loop _ _).wp Phi2 := hr
          refine WC.loopR (Φ := Phi2) (fun (gx : (List (Fin 8 → Int)) × Option Addr × Nat × Option Ow × Int × Mem) => match gx with | ⟨all2, all2p, all2c, all2tk, v24_1, Gm4⟩ => ((all2, v24_1) : (List (Fin 8 → Int)) × Int)) (fun (gx : (List (Fin 8 → Int)) × Option Addr × Nat × Option Ow × Int × Mem) => match gx with | ⟨all2, all2p, all2c, all2tk, v24_1, Gm4⟩ => [(5, .slice p3 x2.length p3c), (6, .slice all2p all2.length all2c), (16, .slice p2 ((ideals1.take (ideals1.length : Int).toNat).drop (1 : Int).toNat).length p2c), (17, .int .i64 (((ideals1.take (ideals1.length : Int).toNat).drop (1 : Int).toNat).length : Int)), (18, .int .i64 v18_1), (22, .slice result2p result2.length result2c), (23, .int .i64 (result2.length : Int)), (24, .int .i64 v24_1)]) (fun (gx : (List (Fin 8 → Int)) × Option Addr × Nat × Option Ow × Int × Mem) => match gx with | ⟨all2, all2p, all2c, all2tk, v24_1, Gm4⟩ => Mem.le Gm2 Gm4 ∧ SlR (Rp.vec .i64 8) Gm4 (.slice all2p all2.length all2c) all2 ∧ Tok 8 48 (.slice all2p all2.length all2c) all2.length all2tk) (fun (gx : (List (Fin 8 → Int)) × Option Addr × Nat × Option Ow × Int × Mem) => match gx with | ⟨all2, all2p, all2c, all2tk, v24_1, Gm4⟩ => St w0 G0 Gm4 [(1006, all2tk)]) ⟨[], none, 0, none, 0, Gm2⟩ hr (Fr.sub_cons rfl (Fr.sub_cons rfl (Fr.sub_cons rfl (Fr.sub_cons rfl (Fr.sub_cons rfl (Fr.sub_cons rfl (Fr.sub_cons rfl (Fr.sub_cons rfl (Fr.sub_nil _))))))))) ⟨(Mem.le_refl _), (SlR.nil _ _), Tok.full⟩ ?_ ?_
          · intro w hs
            exact hs.weaken (Lo.sub_no (Lo.sub_nil _))
          · intro Aq2 gx hx hr
            obtain ⟨all2, all2p, all2c, all2tk, v24_1, Gm4⟩ := gx
            obtain ⟨Gm4le, all2h, all2ht⟩ := hx
            refine WC.seq ?_
            refine WC.region ?_
            refine WL.y0' guard_none (Y0.lss rfl rfl) rfl ?_
            refine WL.nil ?_
            refine WE.then ?_
            refine WC.seq ?_
            refine WC.condD (p := v24_1 < (result2.length : Int)) rfl (fun hc2 => ?_) (fun hc2 => ?_)
            · replace hr := hr.pos hc2
              refine WC.skip ?_
              refine WE.then ?_
              refine WC.seq ?_
              refine WC.block ?_
              refine WC.seq ?_
              refine WC.region ?_
              obtain ⟨x3, hx3, hr⟩ := hr
              refine WL.y0' guard_none (Y0.idxR Try.underlying28 sz48 (result2h.mono Gm4le) rfl rfl hx3) rfl ?_
              refine WL.y0' guard_none (Y0.loadGA _ ag48 rfl (vecG_size _ _ _) (AtK.vec (At.mono (SlR.at result2h hx3) Gm4le))) rfl ?_
              refine WL.alloc 8 guard_none z48 rfl (fun b1 => ?_)
              refine WL.storeLA 8 guard_none sz48 rfl rfl rfl (vecG_size _ _ _) (vecG_size _ _ _) (fun u hu => Rp.one (Rp.vec .i64 8) (G := Gm4) (x := x3) (cs := vecG (Value.int .i64) 8 x3) rfl u (by simpa using hu)) ?_
              refine WL.nil ?_
              refine WE.then ?_
              refine WC.seq ?_
              refine WC.region ?_
              refine WL.y0' guard_none (Y0.move rfl) rfl ?_
              refine WL.y0' guard_none (Y0.lenR Try.underlying28 (p3h.mono Gm4le) rfl) rfl ?_
              refine WL.y0' guard_none (Y0.move rfl) rfl ?_
              refine WL.nil ?_
              refine WE.then ?_
              refine WC.meetH (fun (gx : (List (Fin 8 → Int)) × Option Addr × Nat × Option Ow × Mem) => match gx with | ⟨all3, all3p, all3c, all3tk, Gm5⟩ => [(5, .slice p3 x2.length p3c), (6, .slice all3p all3.length all3c), (16, .slice p2 ((ideals1.take (ideals1.length : Int).toNat).drop (1 : Int).toNat).length p2c), (17, .int .i64 (((ideals1.take (ideals1.length : Int).toNat).drop (1 : Int).toNat).length : Int)), (18, .int .i64 v18_1), (22, .slice result2p result2.length result2c), (23, .int .i64 (result2.length : Int)), (24, .int .i64 v24_1)]) (fun (gx : (List (Fin 8 → Int)) × Option Addr × Nat × Option Ow × Mem) => match gx with | ⟨all3, all3p, all3c, all3tk, Gm5⟩ => Mem.le Gm4 Gm5 ∧ SlR (Rp.vec .i64 8) Gm5 (.slice all3p all3.length all3c) all3 ∧ Tok 8 48 (.slice all3p all3.length all3c) all3.length all3tk ∧ (components_meet_k5 v24_1 all3).wp (Out Aq2 Phi2)) (fun (gx : (List (Fin 8 → Int)) × Option Addr × Nat × Option Ow × Mem) => match gx with | ⟨all3, all3p, all3c, all3tk, Gm5⟩ => St w0 G0 Gm5 [(1006, all3tk)]) ?_ ?_
              · refine WC.block ?_
                let Phi3 : (((List (Fin 8 → Int)))) → Prop := fun oo => ((fun ov => match ov with | all3 => components_meet_k5 v24_1 all3 : (((List (Fin 8 → Int)))) → Comp (((List (Fin 8 → Int)) × Int) ⊕ (((List (Fin 8 → Int)))))) oo).wp (Out Aq2 Phi2)
                replace hr : (Comp.loop _ _).wp Phi3 := hr
                refine WC.loopR (Φ := Phi3) (fun (gx : (List (Fin 8 → Int)) × Option Addr × Nat × Option Ow × Int × Mem) => match gx with | ⟨all4, all4p, all4c, all4tk, v30_1, Gm6⟩ => ((all4, v30_1) : (List (Fin 8 → Int)) × Int)) (fun (gx : (List (Fin 8 → Int)) × Option Addr × Nat × Option Ow × Int × Mem) => match gx with | ⟨all4, all4p, all4c, all4tk, v30_1, Gm6⟩ => [(5, .slice p3 x2.length p3c), (6, .slice all4p all4.length all4c), (8, .pointer (some ⟨b1, 0, none⟩)), (16, .slice p2 ((ideals1.take (ideals1.length : Int).toNat).drop (1 : Int).toNat).length p2c), (17, .int .i64 (((ideals1.take (ideals1.length : Int).toNat).drop (1 : Int).toNat).length : Int)), (18, .int .i64 v18_1), (22, .slice result2p result2.length result2c), (23, .int .i64 (result2.length : Int)), (24, .int .i64 v24_1), (28, .slice p3 x2.length p3c), (29, .int .i64 (x2.length : Int)), (30, .int .i64 v30_1)]) (fun (gx : (List (Fin 8 → Int)) × Option Addr × Nat × Option Ow × Int × Mem) => match gx with | ⟨all4, all4p, all4c, all4tk, v30_1, Gm6⟩ => Mem.le Gm4 Gm6 ∧ SlR (Rp.vec .i64 8) Gm6 (.slice all4p all4.length all4c) all4 ∧ Tok 8 48 (.slice all4p all4.length all4c) all4.length all4tk) (fun (gx : (List (Fin 8 → Int)) × Option Addr × Nat × Option Ow × Int × Mem) => match gx with | ⟨all4, all4p, all4c, all4tk, v30_1, Gm6⟩ => St w0 G0 Gm6 [(8, some ⟨b1, .cells (vecG (Value.int .i64) 8 x3).toArray 48 (0, 0), 0⟩), (1006, all4tk)]) ⟨all2, all2p, all2c, all2tk, 0, Gm4⟩ hr (Fr.sub_cons rfl (Fr.sub_cons rfl (Fr.sub_cons rfl (Fr.sub_cons rfl (Fr.sub_cons rfl (Fr.sub_cons rfl (Fr.sub_cons rfl (Fr.sub_cons rfl (Fr.sub_cons rfl (Fr.sub_cons rfl (Fr.sub_cons rfl (Fr.sub_cons rfl (Fr.sub_nil _))))))))))))) ⟨(Mem.le_refl _), all2h, all2ht⟩ ?_ ?_
                · intro w hs
                  exact hs.weaken (Lo.sub_cons rfl (Lo.sub_cons rfl (Lo.sub_nil _)))
                · intro Aq3 gx hx hr
                  obtain ⟨all4, all4p, all4c, all4tk, v30_1, Gm6⟩ := gx
                  obtain ⟨Gm6le, all4h, all4ht⟩ := hx
                  refine WC.seq ?_
                  refine WC.region ?_
                  refine WL.y0' guard_none (Y0.lss rfl rfl) rfl ?_
                  refine WL.nil ?_
                  refine WE.then ?_
                  refine WC.seq ?_
                  refine WC.condD (p := v30_1 < (x2.length : Int)) rfl (fun hc3 => ?_) (fun hc3 => ?_)
                  · replace hr := hr.pos hc3
                    refine WC.skip ?_
                    refine WE.then ?_
                    refine WC.seq ?_
                    refine WC.block ?_
                    refine WC.seq ?_
                    refine WC.region ?_
                    obtain ⟨x4, hx4, hr⟩ := hr
                    refine WL.y0' guard_none (Y0.idxR Try.underlying28 sz48 (p3h.mono (Mem.le_trans Gm4le Gm6le)) rfl rfl hx4) rfl ?_
                    refine WL.y0' guard_none (Y0.loadGA _ ag48 rfl (vecG_size _ _ _) (AtK.vec (At.mono (SlR.at p3h hx4) (Mem.le_trans Gm4le Gm6le)))) rfl ?_
                    refine WL.alloc 10 guard_none z48 rfl (fun b2 => ?_)
                    refine WL.storeLA 10 guard_none sz48 rfl rfl rfl (vecG_size _ _ _) (vecG_size _ _ _) (fun u hu => Rp.one (Rp.vec .i64 8) (G := Gm6) (x := x4) (cs := vecG (Value.int .i64) 8 x4) rfl u (by simpa using hu)) ?_
                    refine WL.nil ?_
                    refine WE.then ?_
                    refine WC.region ?_
                    refine WL.y0' guard_none (Y0.move rfl) rfl ?_
                    refine WL.y0' guard_none (Y0.loadLA 8 ag48 rfl rfl (vecG_size _ _ _)) rfl ?_
                    refine WL.y0' guard_none (Y0.loadLA 10 ag48 rfl rfl (vecG_size _ _ _)) rfl ?_
                    obtain ⟨yv3, hyv3, hr⟩ := hr
                    refine WL.call0 guard_none rfl (YC.of E77 rfl) (L_monomial_Lcm _ _ _ hyv3) rfl (trivial) ?_
                    refine WL.litR (e := 48) (r := (Rp.vec .i64 8)) (vs := #[(0, .agg (vecG (Value.int .i64) 8 yv3).toArray)]) (cs := (vecG (Value.int .i64) 8 yv3) ++ ([])) ([yv3] : List (Fin 8 → Int)) guard_none rfl rfl rfl rfl (by decide) (fun _ => by kernel_rfl) ⟨vecG (Value.int .i64) 8 yv3, [], rfl, rfl, rfl⟩ (key := 999) rfl (by rw [hL0]; rfl) (fun p4 Gv4 Gv4le p4h => ?_)
                    obtain ⟨hsm1, hr⟩ := hr
                    refine WL.appendR (r := (Rp.vec .i64 8)) 1006 guard_none rfl Try.underlying28 el48 rfl (by decide) rfl rfl (all4h.mono Gv4le) rfl (by rw [hL0]; rfl) all4ht p4h hsm1 (fun p5 p5c p5tk Gv5 Gv5le p5h p5ht => ?_)
                    refine WL.y0' guard_none (Y0.assign rfl) rfl ?_
                    refine WL.nil ?_
                    refine WE.inBlock ?_
                    refine WE.then ?_
                    refine WC.region ?_
                    refine WL.y0' guard_none (Y0.add rfl rfl) rfl ?_
                    refine WL.y0' guard_none (Y0.move rfl) rfl ?_
                    refine WL.nil ?_
                    refine WE.backR ⟨(all4 ++ [yv3]), p5, p5c, p5tk, IntKind.i64.wrap (v30_1 + 1), Gv5⟩ hr ⟨(Mem.le_trans (Mem.le_trans Gm6le Gv4le) Gv5le), p5h, p5ht⟩ (Fr.sub_cons rfl (Fr.sub_cons rfl (Fr.sub_cons rfl (Fr.sub_cons rfl (Fr.sub_cons rfl (Fr.sub_cons rfl (Fr.sub_cons rfl (Fr.sub_cons rfl (Fr.sub_cons rfl (Fr.sub_cons rfl (Fr.sub_cons rfl (Fr.sub_cons rfl (Fr.sub_nil _))))))))))))) ?_
                    · intro w hs
                      exact hs.weaken (Lo.sub_cons rfl (Lo.sub_cons rfl (Lo.sub_nil _)))
                  · replace hr := hr.neg hc3
                    refine WC.exit ?_
                    refine WE.thenExit ?_
                    refine WE.thenExit ?_
                    refine WE.exitHere ?_
                    refine WE.endH ⟨all4, all4p, all4c, all4tk, Gm6⟩ ⟨Gm6le, all4h, all4ht, hr⟩ (Fr.sub_cons rfl (Fr.sub_cons rfl (Fr.sub_cons rfl (Fr.sub_cons rfl (Fr.sub_cons rfl (Fr.sub_cons rfl (Fr.sub_cons rfl (Fr.sub_cons rfl (Fr.sub_nil _))))))))) ?_
                    · intro w hs
                      exact hs.weaken (Lo.sub_cons rfl (Lo.sub_nil _))
              · rintro ⟨all3, all3p, all3c, all3tk, Gm5⟩ ⟨Gm5le, all3h, all3ht, hr⟩
                refine WE.inBlock ?_
                refine WE.then ?_
                refine WC.region ?_
                refine WL.y0' guard_none (Y0.add rfl rfl) rfl ?_
                refine WL.y0' guard_none (Y0.move rfl) rfl ?_
                refine WL.nil ?_
                refine WE.backR ⟨all3, all3p, all3c, all3tk, IntKind.i64.wrap (v24_1 + 1), Gm5⟩ hr ⟨(Mem.le_trans Gm4le Gm5le), all3h, all3ht⟩ (Fr.sub_cons rfl (Fr.sub_cons rfl (Fr.sub_cons rfl (Fr.sub_cons rfl (Fr.sub_cons rfl (Fr.sub_cons rfl (Fr.sub_cons rfl (Fr.sub_cons rfl (Fr.sub_nil _))))))))) ?_
                · intro w hs
                  exact hs.weaken (Lo.sub_cons rfl (Lo.sub_nil _))
            · replace hr := hr.neg hc2
              refine WC.exit ?_
              refine WE.thenExit ?_
              refine WE.thenExit ?_
              refine WE.exitHere ?_
              refine WE.endH ⟨all2, all2p, all2c, all2tk, Gm4⟩ ⟨Gm4le, all2h, all2ht, hr⟩ (Fr.sub_cons rfl (Fr.sub_cons rfl (Fr.sub_cons rfl (Fr.sub_cons rfl (Fr.sub_nil _))))) ?_
              · intro w hs
                exact hs.weaken (Lo.sub_cons rfl (Lo.sub_nil _))
        · rintro ⟨all1, all1p, all1c, all1tk, Gm3⟩ ⟨Gm3le, all1h, all1ht, hr⟩
          refine WE.then ?_
          refine WC.region ?_
          refine WL.y0' guard_none (Y0.move rfl) rfl ?_
          obtain ⟨yv2, hyv2, hr⟩ := hr
          refine WL.call guard_none rfl (YC.of E55 rfl) (L_monomial_Minimal _ _ _ _ hyv2) rfl (all1h) (fun yv2v Gv2 Gv2le yv2post => ?_)
          obtain ⟨yv2p, yv2c, rfl, yv2h⟩ := yv2post
          refine WL.y0' guard_none (Y0.assign rfl) rfl ?_
          refine WL.nil ?_
          refine WE.inBlock ?_
          refine WE.then ?_
          refine WC.region ?_
          refine WL.y0' guard_none (Y0.add rfl rfl) rfl ?_
          refine WL.y0' guard_none (Y0.move rfl) rfl ?_
          refine WL.nil ?_
          refine WE.backR ⟨yv2, yv2p, yv2c, IntKind.i64.wrap (v18_1 + 1), Gv2⟩ hr ⟨(Mem.le_trans (Mem.le_trans Gm2le Gm3le) Gv2le), yv2h⟩ (Fr.sub_cons rfl (Fr.sub_cons rfl (Fr.sub_cons rfl (Fr.sub_cons rfl (Fr.sub_nil _))))) ?_
          · intro w hs
            exact hs.weaken (Lo.sub_nil _)
      · replace hr := hr.neg hc1
        refine WC.exit ?_
        refine WE.thenExit ?_
        refine WE.thenExit ?_
        refine WE.exitHere ?_
        refine WE.endH ⟨result2, result2p, result2c, Gm2⟩ ⟨Gm2le, result2h, hr⟩ (Fr.sub_cons rfl (Fr.sub_nil _)) ?_
        · intro w hs
          exact hs.weaken (Lo.sub_nil _)
  · rintro ⟨result1, result1p, result1c, Gm1⟩ ⟨Gm1le, result1h, hr⟩
    refine WE.then ?_
    refine WC.seq ?_
    refine WC.region ?_
    refine WL.y0' guard_none (Y0.move rfl) rfl ?_
    refine WL.y0' guard_none (Y0.assign rfl) rfl ?_
    refine WL.nil ?_
    refine WE.then ?_
    refine WC.ret ?_
    replace hr : _ = r := hr
    subst hr
    exact WE.ret1 rfl rfl ⟨_, _, rfl, result1h⟩
theorem L_components_Primary (l1 : (List (Fin 8 → Int))) (n1 : Int) (l1p : Option Addr) (l1c : Nat) (r : (List T_api_Part) × Int) (hr : (components_Primary l1 n1).Ret r) : Ctr Try.prog 20 #[.slice l1p l1.length l1c, .int .i64 n1] (fun G => SlR (Rp.vec .i64 8) G (.slice l1p l1.length l1c) l1) (fun G v => ∃ zr0p zr0c, v = .tuple #[.slice zr0p r.1.length zr0c, .int .i64 r.2] ∧ SlR rp_api_Part G (.slice zr0p r.1.length zr0c) r.1) := by
  refine Ctr.enter (args := [_, _]) (N := 37) Try.func20 rfl rfl rfl (fun w0 G0 hL0 hpre => ?_)
  have l1h := hpre
  have hz : w0.L.zero := by rw [hL0]; intro p hp; simp at hp
  refine WC.seq ?_
  refine WC.region ?_
  refine WL.y0' guard_none (Y0.assign rfl) rfl ?_
  refine WL.y0' guard_none (Y0.assign rfl) rfl ?_
  refine WL.nil ?_
  refine WE.then ?_
  refine WC.seq ?_
  refine WC.seq ?_
  refine WC.region ?_
  refine WL.y0' guard_none (Y0.move rfl) rfl ?_
  refine WL.y0' guard_none (Y0.move rfl) rfl ?_
  obtain ⟨yv1, hyv1, hr⟩ := hr
  refine WL.call0 guard_none rfl (YC.of E42 rfl) (L_components_check _ _ _ _ _ hyv1) rfl (l1h) ?_
  refine WL.y0' guard_none (Y0.assign rfl) rfl ?_
  refine WL.nil ?_
  refine WE.then ?_
  refine WC.seq ?_
  refine WC.region ?_
  refine WL.y0' guard_none (Y0.move rfl) rfl ?_
  refine WL.y0' guard_none (Y0.neq rfl rfl) rfl ?_
  refine WL.nil ?_
  refine WE.then ?_
  refine WC.condD (p := ¬ yv1 = 0) rfl (fun hc1 => ?_) (fun hc1 => ?_)
  · replace hr := hr.pos hc1
    refine WC.seq ?_
    refine WC.region ?_
    refine WL.y0' guard_none (Y0.move rfl) rfl ?_
    refine WL.y0' guard_none (Y0.assign rfl) rfl ?_
    refine WL.y0' guard_none (Y0.assign rfl) rfl ?_
    refine WL.nil ?_
    refine WE.then ?_
    refine WC.ret ?_
    replace hr : _ = r := hr
    refine WE.thenRet ?_
    subst hr
    exact WE.ret2 rfl rfl rfl ⟨_, _, rfl, (SlR.nil rp_api_Part _)⟩
  · replace hr := hr.neg hc1
    refine WC.skip ?_
    refine WE.then ?_
    refine WC.seq ?_
    refine WC.region ?_
    refine WL.y0' guard_none (Y0.move rfl) rfl ?_
    obtain ⟨yv2, hyv2, hr⟩ := hr
    refine WL.callT guard_none rfl (YC.of E49 rfl) (L_components_parts _ _ _ _ hyv2) rfl (l1h) (Lo.sub_nil _) hz (fun yv2v Gv2 Lyv2 Gv2le yv2post => ?_)
    obtain ⟨yv2b, yv2tk, rfl, rfl, yv2h⟩ := yv2post
    refine WL.conseq (fun w hs => hs.rekey (i := 7000) (j := 4018) rfl (by rw [hL0]; rfl)) ?_
    refine WL.y0' guard_none (Y0.assign rfl) rfl ?_
    refine WL.nil ?_
    refine WE.then ?_
    refine WC.seq ?_
    refine WC.region ?_
    refine WL.y0' guard_none (Y0.assign rfl) rfl ?_
    refine WL.nil ?_
    refine WE.then ?_
    refine WC.seq ?_
    refine WC.seq ?_
    refine WC.region ?_
    refine WL.y0' guard_none (Y0.move rfl) rfl ?_
    obtain ⟨yv3, hyv3, hr⟩ := hr
    refine WL.conseq (fun w hs => hs.rekey (i := 4018) (j := 5500) rfl (by rw [hL0]; rfl)) ?_
    refine WL.callRO guard_none rfl (YC.of E48 rfl) (L_components_primes _ _ _ _ hyv3) rfl (yv2h) (Lo.sub_cons rfl (Lo.sub_nil _)) (fun i hi => by simp only [List.map_cons, List.map_nil, List.mem_cons, List.not_mem_nil, or_false] at hi; subst hi; exact rfl) hz (fun yv3v Gv3 Gv3le yv3post => ?_)
    obtain ⟨yv3p, yv3c, rfl, yv3h⟩ := yv3post
    refine WL.conseq (fun w hs => hs.rekey (i := 5500) (j := 4018) rfl (by rw [hL0]; rfl)) ?_
    refine WL.y0' guard_none (Y0.lenR Try.underlying33 yv3h rfl) rfl ?_
    refine WL.y0' guard_none (Y0.move rfl) rfl ?_
    refine WL.nil ?_
    refine WE.then ?_
    refine WC.meetH (fun (gx : (List T_api_Part) × Option Addr × Nat × Option Ow × Mem) => match gx with | ⟨result1, result1p, result1c, result1tk, Gm1⟩ => [(8, .slice result1p result1.length result1c)]) (fun (gx : (List T_api_Part) × Option Addr × Nat × Option Ow × Mem) => match gx with | ⟨result1, result1p, result1c, result1tk, Gm1⟩ => Mem.le Gv3 Gm1 ∧ SlR rp_api_Part Gm1 (.slice result1p result1.length result1c) result1 ∧ Tok 2 60 (.slice result1p result1.length result1c) result1.length result1tk ∧ (components_Primary_k1 result1).Ret r) (fun (gx : (List T_api_Part) × Option Addr × Nat × Option Ow × Mem) => match gx with | ⟨result1, result1p, result1c, result1tk, Gm1⟩ => St w0 G0 Gm1 [(1008, result1tk)]) ?_ ?_
    · refine WC.block ?_
      let Phi1 : (List T_api_Part) → Prop := fun oo => ((fun ov => match ov with | result1 => components_Primary_k1 result1 : (List T_api_Part) → Comp ((List T_api_Part) × Int)) oo).wp (fun a => a = r)
      replace hr : (Comp.loop _ _).wp Phi1 := hr
      refine WC.loopR (Φ := Phi1) (fun (gx : (List T_api_Part) × Option Addr × Nat × Option Ow × Int × Mem) => match gx with | ⟨result2, result2p, result2c, result2tk, v22_1, Gm2⟩ => ((result2, v22_1) : (List T_api_Part) × Int)) (fun (gx : (List T_api_Part) × Option Addr × Nat × Option Ow × Int × Mem) => match gx with | ⟨result2, result2p, result2c, result2tk, v22_1, Gm2⟩ => [(8, .slice result2p result2.length result2c), (20, .slice yv3p yv3.length yv3c), (21, .int .i64 (yv3.length : Int)), (22, .int .i64 v22_1), (7, .map (some yv2b))]) (fun (gx : (List T_api_Part) × Option Addr × Nat × Option Ow × Int × Mem) => match gx with | ⟨result2, result2p, result2c, result2tk, v22_1, Gm2⟩ => Mem.le Gv3 Gm2 ∧ SlR rp_api_Part Gm2 (.slice result2p result2.length result2c) result2 ∧ Tok 2 60 (.slice result2p result2.length result2c) result2.length result2tk) (fun (gx : (List T_api_Part) × Option Addr × Nat × Option Ow × Int × Mem) => match gx with | ⟨result2, result2p, result2c, result2tk, v22_1, Gm2⟩ => St w0 G0 Gm2 [(1008, result2tk), (4018, yv2tk)]) ⟨[], none, 0, none, 0, Gv3⟩ hr (Fr.sub_cons rfl (Fr.sub_cons rfl (Fr.sub_cons rfl (Fr.sub_cons rfl (Fr.sub_cons rfl (Fr.sub_nil _)))))) ⟨(Mem.le_refl _), (SlR.nil _ _), Tok.full⟩ ?_ ?_
      · intro w hs
        exact hs.weaken (Lo.sub_no (Lo.sub_cons rfl (Lo.sub_nil _)))
      · intro Aq1 gx hx hr
        obtain ⟨result2, result2p, result2c, result2tk, v22_1, Gm2⟩ := gx
        obtain ⟨Gm2le, result2h, result2ht⟩ := hx
        refine WC.seq ?_
        refine WC.region ?_
        refine WL.y0' guard_none (Y0.lss rfl rfl) rfl ?_
        refine WL.nil ?_
        refine WE.then ?_
        refine WC.seq ?_
        refine WC.condD (p := v22_1 < (yv3.length : Int)) rfl (fun hc2 => ?_) (fun hc2 => ?_)
        · replace hr := hr.pos hc2
          refine WC.skip ?_
          refine WE.then ?_
          refine WC.seq ?_
          refine WC.block ?_
          refine WC.seq ?_
          refine WC.region ?_
          obtain ⟨x1, hx1, hr⟩ := hr
          refine WL.y0' guard_none (Y0.idxR Try.underlying33 sz5 (yv3h.mono Gm2le) rfl rfl hx1) rfl ?_
          refine WL.y0' guard_none (Y0.loadG sc5 rfl (AtK.int (At.mono (SlR.at yv3h hx1) Gm2le))) rfl ?_
          refine WL.y0' guard_none (Y0.assign rfl) rfl ?_
          refine WL.nil ?_
          refine WE.then ?_
          refine WC.region ?_
          refine WL.y0' guard_none (Y0.move rfl) rfl ?_
          refine WL.y0' guard_none (Y0.move rfl) rfl ?_
          refine WL.y0' guard_none (Y0.move rfl) rfl ?_
          refine WL.y0' guard_none (Y0.move rfl) rfl ?_
          obtain ⟨hk1, hr⟩ := hr
          refine WL.mapGetS (k := x1) 4018 guard_none rfl Try.underlying69 zv74 (MapR.mono yv2h (Mem.le_trans Gv3le Gm2le)) rfl rfl rfl hk1 (fun p1 p1c p1h => ?_)
          obtain ⟨yv4, hyv4, hr⟩ := hr
          refine WL.call guard_none rfl (YC.of E52 rfl) (L_components_meet _ _ _ _ hyv4) rfl (p1h) (fun yv4v Gv4 Gv4le yv4post => ?_)
          obtain ⟨yv4p, yv4c, rfl, yv4h⟩ := yv4post
          refine WL.y0' guard_none (Y0.build (vs := #[(0, .int .u8 x1), (1, .slice yv4p yv4.length yv4c)]) (v := .agg ([.int .u8 x1, .slice yv4p yv4.length yv4c]).toArray) rfl rfl (fun _ => by kernel_rfl)) rfl ?_
          refine WL.litR (e := 60) (r := rp_api_Part) (vs := #[(0, .agg ([.int .u8 x1, .slice yv4p yv4.length yv4c]).toArray)]) (cs := [.int .u8 x1, .slice yv4p yv4.length yv4c] ++ ([])) ([(T_api_Part.mk x1 yv4)] : List T_api_Part) guard_none rfl rfl rfl rfl (by decide) (fun _ => by kernel_rfl) ⟨[.int .u8 x1, .slice yv4p yv4.length yv4c], [], rfl, ⟨[.int .u8 x1], [.slice yv4p yv4.length yv4c], rfl, rfl, ⟨_, rfl, yv4h⟩⟩, rfl⟩ (key := 999) rfl (by rw [hL0]; rfl) (fun p2 Gv5 Gv5le p2h => ?_)
          obtain ⟨hsm1, hr⟩ := hr
          refine WL.appendR (r := rp_api_Part) 1008 guard_none rfl Try.underlying36 el60 rfl (by decide) rfl rfl (result2h.mono (Mem.le_trans Gv4le Gv5le)) rfl (by rw [hL0]; rfl) result2ht p2h hsm1 (fun p3 p3c p3tk Gv6 Gv6le p3h p3ht => ?_)
          refine WL.y0' guard_none (Y0.assign rfl) rfl ?_
          refine WL.nil ?_
          refine WE.inBlock ?_
          refine WE.then ?_
          refine WC.region ?_
          refine WL.y0' guard_none (Y0.add rfl rfl) rfl ?_
          refine WL.y0' guard_none (Y0.move rfl) rfl ?_
          refine WL.nil ?_
          refine WE.backR ⟨(result2 ++ [(T_api_Part.mk x1 yv4)]), p3, p3c, p3tk, IntKind.i64.wrap (v22_1 + 1), Gv6⟩ hr ⟨(Mem.le_trans (Mem.le_trans (Mem.le_trans Gm2le Gv4le) Gv5le) Gv6le), p3h, p3ht⟩ (Fr.sub_cons rfl (Fr.sub_cons rfl (Fr.sub_cons rfl (Fr.sub_cons rfl (Fr.sub_cons rfl (Fr.sub_nil _)))))) ?_
          · intro w hs
            exact hs.weaken (Lo.sub_cons rfl (Lo.sub_cons rfl (Lo.sub_nil _)))
        · replace hr := hr.neg hc2
          refine WC.exit ?_
          refine WE.thenExit ?_
          refine WE.thenExit ?_
          refine WE.exitHere ?_
          refine WE.endH ⟨result2, result2p, result2c, result2tk, Gm2⟩ ⟨Gm2le, result2h, result2ht, hr⟩ (Fr.sub_cons rfl (Fr.sub_nil _)) ?_
          · intro w hs
            exact hs.weaken (Lo.sub_cons rfl (Lo.sub_nil _))
    · rintro ⟨result1, result1p, result1c, result1tk, Gm1⟩ ⟨Gm1le, result1h, result1ht, hr⟩
      refine WE.then ?_
      refine WC.seq ?_
      refine WC.region ?_
      refine WL.y0' guard_none (Y0.move rfl) rfl ?_
      refine WL.y0' guard_none (Y0.assign rfl) rfl ?_
      refine WL.y0' guard_none (Y0.assign rfl) rfl ?_
      refine WL.nil ?_
      refine WE.then ?_
      refine WC.ret ?_
      replace hr : _ = r := hr
      subst hr
      exact WE.ret2 rfl rfl rfl ⟨_, _, rfl, result1h⟩
theorem L_R04_Same (a1 : (List (Fin 8 → Int))) (b1 : (List (Fin 8 → Int))) (a1p : Option Addr) (a1c : Nat) (b1p : Option Addr) (b1c : Nat) (r : Bool) (hr : (R04_Same a1 b1).Ret r) : Ctr Try.prog 22 #[.slice a1p a1.length a1c, .slice b1p b1.length b1c] (fun G => SlR (Rp.vec .i64 8) G (.slice a1p a1.length a1c) a1 ∧ SlR (Rp.vec .i64 8) G (.slice b1p b1.length b1c) b1) (fun G v => v = .bool r) := by
  refine Ctr.enter (args := [_, _]) (N := 26) Try.func22 rfl rfl rfl (fun w0 G0 hL0 hpre => ?_)
  obtain ⟨a1h, b1h⟩ := hpre
  refine WC.seq ?_
  refine WC.region ?_
  refine WL.y0' guard_none (Y0.assign rfl) rfl ?_
  refine WL.nil ?_
  refine WE.then ?_
  refine WC.seq ?_
  refine WC.seq ?_
  refine WC.region ?_
  refine WL.y0' guard_none (Y0.move rfl) rfl ?_
  refine WL.y0' guard_none (Y0.lenR Try.underlying28 a1h rfl) rfl ?_
  refine WL.y0' guard_none (Y0.move rfl) rfl ?_
  refine WL.y0' guard_none (Y0.lenR Try.underlying28 b1h rfl) rfl ?_
  refine WL.y0' guard_none (Y0.neq rfl rfl) rfl ?_
  refine WL.nil ?_
  refine WE.then ?_
  refine WC.condD (p := ¬ (a1.length : Int) = (b1.length : Int)) rfl (fun hc1 => ?_) (fun hc1 => ?_)
  · replace hr := hr.pos hc1
    refine WC.seq ?_
    refine WC.region ?_
    refine WL.y0' guard_none (Y0.assign rfl) rfl ?_
    refine WL.nil ?_
    refine WE.then ?_
    refine WC.ret ?_
    replace hr : _ = r := hr
    refine WE.thenRet ?_
    subst hr
    exact WE.ret1 rfl rfl rfl
  · replace hr := hr.neg hc1
    refine WC.skip ?_
    refine WE.then ?_
    refine WC.seq ?_
    refine WC.seq ?_
    refine WC.region ?_
    refine WL.y0' guard_none (Y0.assign rfl) rfl ?_
    refine WL.nil ?_
    refine WE.then ?_
    refine WC.meetH (fun (gx : Mem) => match gx with | Gm1 => []) (fun (gx : Mem) => match gx with | Gm1 => Mem.le G0 Gm1 ∧ (R04_Same_k1).Ret r) (fun (gx : Mem) => match gx with | Gm1 => St w0 G0 Gm1 []) ?_ ?_
    · refine WC.block ?_
      let Phi1 : (Bool ⊕ Unit) → Prop := fun oo => ((fun ov => match ov with | .inl rv1 => Comp.ret rv1 | .inr () => R04_Same_k1 : (Bool ⊕ Unit) → Comp Bool) oo).wp (fun a => a = r)
      replace hr : (Comp.loop _ _).wp Phi1 := hr
      refine WC.loopR (Φ := Phi1) (fun (gx : Int × Mem) => match gx with | ⟨i1, Gm2⟩ => (i1 : Int)) (fun (gx : Int × Mem) => match gx with | ⟨i1, Gm2⟩ => [(0, .slice a1p a1.length a1c), (1, .slice b1p b1.length b1c), (5, .int .i64 i1)]) (fun (gx : Int × Mem) => match gx with | ⟨i1, Gm2⟩ => Mem.le G0 Gm2) (fun (gx : Int × Mem) => match gx with | ⟨i1, Gm2⟩ => St w0 G0 Gm2 []) ⟨0, G0⟩ hr (Fr.sub_cons rfl (Fr.sub_cons rfl (Fr.sub_cons rfl (Fr.sub_nil _)))) (Mem.le_refl _) ?_ ?_
      · intro w hs
        exact hs.weaken (Lo.sub_nil _)
      · intro Aq1 gx hx hr
        obtain ⟨i1, Gm2⟩ := gx
        have Gm2le := hx
        refine WC.seq ?_
        refine WC.seq ?_
        refine WC.region ?_
        refine WL.y0' guard_none (Y0.move rfl) rfl ?_
        refine WL.y0' guard_none (Y0.move rfl) rfl ?_
        refine WL.y0' guard_none (Y0.lenR Try.underlying28 (a1h.mono Gm2le) rfl) rfl ?_
        refine WL.y0' guard_none (Y0.lss rfl rfl) rfl ?_
        refine WL.nil ?_
        refine WE.then ?_
        refine WC.condD (p := i1 < (a1.length : Int)) rfl (fun hc2 => ?_) (fun hc2 => ?_)
        · replace hr := hr.pos hc2
          refine WC.skip ?_
          refine WE.then ?_
          refine WC.seq ?_
          refine WC.block ?_
          refine WC.seq ?_
          refine WC.drawn [false, false, false, false, false, false, false, false, false] mix (by kernel_rfl) (fun hb => ?_)
          refine Chain.y0 guard_none (fun _ hle => Y0.move rfl) ?_
          refine Chain.y0 guard_none (fun _ hle => Y0.move rfl) ?_
          obtain ⟨x1, hx1, hr⟩ := hr
          refine Chain.y0 guard_none (fun _ hle => Y0.idxR Try.underlying28 sz48 ((a1h.mono Gm2le).mono hle) rfl rfl hx1) ?_
          refine Chain.y0 guard_none (fun _ hle => Y0.loadGA _ ag48 rfl (vecG_size _ _ _) (AtK.vec (At.mono (At.mono (SlR.at a1h hx1) Gm2le) hle))) ?_
          refine Chain.y0 guard_none (fun _ hle => Y0.move rfl) ?_
          refine Chain.y0 guard_none (fun _ hle => Y0.move rfl) ?_
          obtain ⟨x2, hx2, hr⟩ := hr
          refine Chain.y0 guard_none (fun _ hle => Y0.idxR Try.underlying28 sz48 ((b1h.mono Gm2le).mono hle) rfl rfl hx2) ?_
          refine Chain.y0 guard_none (fun _ hle => Y0.loadGA _ ag48 rfl (vecG_size _ _ _) (AtK.vec (At.mono (At.mono (SlR.at b1h hx2) Gm2le) hle))) ?_
          refine Chain.y0 guard_none (fun _ hle => Y0.neqV Try.underlying48 Try.underlying3 sc3 sz3 eg48 rfl rfl) ?_
          refine Chain.tail0 hb ?_
          refine WL.nil ?_
          refine WE.nx ?_
          refine WE.then ?_
          refine WC.condD (p := ¬ x1 = x2) rfl (fun hc3 => ?_) (fun hc3 => ?_)
          · replace hr := hr.pos hc3
            refine WC.seq ?_
            refine WC.region ?_
            refine WL.y0' guard_none (Y0.assign rfl) rfl ?_
            refine WL.nil ?_
            refine WE.then ?_
            refine WC.ret ?_
            replace hr : _ = r := hr
            refine WE.inBlockRet ?_
            refine WE.thenRet ?_
            refine WE.thenRet ?_
            refine WE.inBlockRet ?_
            refine WE.endRet ?_
            refine WE.thenRet ?_
            subst hr
            exact WE.ret1 rfl rfl rfl
          · replace hr := hr.neg hc3
            refine WC.skip ?_
            refine WE.inBlock ?_
            refine WE.then ?_
            refine WC.region ?_
            refine WL.y0' guard_none (Y0.move rfl) rfl ?_
            refine WL.y0' guard_none (Y0.add rfl rfl) rfl ?_
            refine WL.y0' guard_none (Y0.assign rfl) rfl ?_
            refine WL.nil ?_
            refine WE.backR ⟨IntKind.i64.wrap (i1 + 1), Gm2⟩ hr Gm2le (Fr.sub_cons rfl (Fr.sub_cons rfl (Fr.sub_cons rfl (Fr.sub_nil _)))) ?_
            · intro w hs
              exact hs.weaken (Lo.sub_nil _)
        · replace hr := hr.neg hc2
          refine WC.exit ?_
          refine WE.thenExit ?_
          refine WE.thenExit ?_
          refine WE.exitHere ?_
          refine WE.endH Gm2 ⟨Gm2le, hr⟩ (Fr.sub_nil _) ?_
          · intro w hs
            exact hs.weaken (Lo.sub_nil _)
    · rintro Gm1 ⟨Gm1le, hr⟩
      refine WE.then ?_
      refine WC.seq ?_
      refine WC.region ?_
      refine WL.y0' guard_none (Y0.assign rfl) rfl ?_
      refine WL.nil ?_
      refine WE.then ?_
      refine WC.ret ?_
      replace hr : _ = r := hr
      subst hr
      exact WE.ret1 rfl rfl rfl
theorem L_R18_SameSets (a1 : (List Int)) (b1 : (List Int)) (a1p : Option Addr) (a1c : Nat) (b1p : Option Addr) (b1c : Nat) (r : Bool) (hr : (R18_SameSets a1 b1).Ret r) : Ctr Try.prog 23 #[.slice a1p a1.length a1c, .slice b1p b1.length b1c] (fun G => SlR (Rp.int .u8) G (.slice a1p a1.length a1c) a1 ∧ SlR (Rp.int .u8) G (.slice b1p b1.length b1c) b1) (fun G v => v = .bool r) := by
  refine Ctr.enter (args := [_, _]) (N := 10) Try.func23 rfl rfl rfl (fun w0 G0 hL0 hpre => ?_)
  obtain ⟨a1h, b1h⟩ := hpre
  refine WC.seq ?_
  refine WC.region ?_
  refine WL.y0' guard_none (Y0.assign rfl) rfl ?_
  refine WL.nil ?_
  refine WE.then ?_
  refine WC.seq ?_
  refine WC.region ?_
  refine WL.y0' guard_none (Y0.move rfl) rfl ?_
  refine WL.y0' guard_none (Y0.convBS Try.underlying33 Try.underlying5 Try.underlying9 a1h rfl) rfl ?_
  refine WL.y0' guard_none (Y0.move rfl) rfl ?_
  refine WL.y0' guard_none (Y0.convBS Try.underlying33 Try.underlying5 Try.underlying9 b1h rfl) rfl ?_
  refine WL.y0' guard_none (Y0.eqlS Try.underlying9 rfl rfl) rfl ?_
  refine WL.y0' guard_none (Y0.assign rfl) rfl ?_
  refine WL.nil ?_
  refine WE.then ?_
  refine WC.ret ?_
  replace hr : _ = r := hr
  subst hr
  exact WE.ret1 rfl rfl rfl
theorem L_R21_SameParts (a1 : (List T_api_Part)) (b1 : (List T_api_Part)) (a1p : Option Addr) (a1c : Nat) (b1p : Option Addr) (b1c : Nat) (r : Bool) (hr : (R21_SameParts a1 b1).Ret r) : Ctr Try.prog 24 #[.slice a1p a1.length a1c, .slice b1p b1.length b1c] (fun G => SlR rp_api_Part G (.slice a1p a1.length a1c) a1 ∧ SlR rp_api_Part G (.slice b1p b1.length b1c) b1) (fun G v => v = .bool r) := by
  refine Ctr.enter (args := [_, _]) (N := 42) Try.func24 rfl rfl rfl (fun w0 G0 hL0 hpre => ?_)
  obtain ⟨a1h, b1h⟩ := hpre
  refine WC.seq ?_
  refine WC.region ?_
  refine WL.y0' guard_none (Y0.assign rfl) rfl ?_
  refine WL.nil ?_
  refine WE.then ?_
  refine WC.seq ?_
  refine WC.seq ?_
  refine WC.region ?_
  refine WL.y0' guard_none (Y0.move rfl) rfl ?_
  refine WL.y0' guard_none (Y0.lenR Try.underlying36 a1h rfl) rfl ?_
  refine WL.y0' guard_none (Y0.move rfl) rfl ?_
  refine WL.y0' guard_none (Y0.lenR Try.underlying36 b1h rfl) rfl ?_
  refine WL.y0' guard_none (Y0.neq rfl rfl) rfl ?_
  refine WL.nil ?_
  refine WE.then ?_
  refine WC.condD (p := ¬ (a1.length : Int) = (b1.length : Int)) rfl (fun hc1 => ?_) (fun hc1 => ?_)
  · replace hr := hr.pos hc1
    refine WC.seq ?_
    refine WC.region ?_
    refine WL.y0' guard_none (Y0.assign rfl) rfl ?_
    refine WL.nil ?_
    refine WE.then ?_
    refine WC.ret ?_
    replace hr : _ = r := hr
    refine WE.thenRet ?_
    subst hr
    exact WE.ret1 rfl rfl rfl
  · replace hr := hr.neg hc1
    refine WC.skip ?_
    refine WE.then ?_
    refine WC.seq ?_
    refine WC.seq ?_
    refine WC.region ?_
    refine WL.y0' guard_none (Y0.assign rfl) rfl ?_
    refine WL.nil ?_
    refine WE.then ?_
    refine WC.meetH (fun (gx : Mem) => match gx with | Gm1 => []) (fun (gx : Mem) => match gx with | Gm1 => Mem.le G0 Gm1 ∧ (R21_SameParts_k1).Ret r) (fun (gx : Mem) => match gx with | Gm1 => St w0 G0 Gm1 []) ?_ ?_
    · refine WC.block ?_
      let Phi1 : (Bool ⊕ Unit) → Prop := fun oo => ((fun ov => match ov with | .inl rv1 => Comp.ret rv1 | .inr () => R21_SameParts_k1 : (Bool ⊕ Unit) → Comp Bool) oo).wp (fun a => a = r)
      replace hr : (Comp.loop _ _).wp Phi1 := hr
      refine WC.loopR (Φ := Phi1) (fun (gx : Int × Mem) => match gx with | ⟨i1, Gm2⟩ => (i1 : Int)) (fun (gx : Int × Mem) => match gx with | ⟨i1, Gm2⟩ => [(0, .slice a1p a1.length a1c), (1, .slice b1p b1.length b1c), (5, .int .i64 i1)]) (fun (gx : Int × Mem) => match gx with | ⟨i1, Gm2⟩ => Mem.le G0 Gm2) (fun (gx : Int × Mem) => match gx with | ⟨i1, Gm2⟩ => St w0 G0 Gm2 []) ⟨0, G0⟩ hr (Fr.sub_cons rfl (Fr.sub_cons rfl (Fr.sub_cons rfl (Fr.sub_nil _)))) (Mem.le_refl _) ?_ ?_
      · intro w hs
        exact hs.weaken (Lo.sub_nil _)
      · intro Aq1 gx hx hr
        obtain ⟨i1, Gm2⟩ := gx
        have Gm2le := hx
        refine WC.seq ?_
        refine WC.seq ?_
        refine WC.region ?_
        refine WL.y0' guard_none (Y0.move rfl) rfl ?_
        refine WL.y0' guard_none (Y0.move rfl) rfl ?_
        refine WL.y0' guard_none (Y0.lenR Try.underlying36 (a1h.mono Gm2le) rfl) rfl ?_
        refine WL.y0' guard_none (Y0.lss rfl rfl) rfl ?_
        refine WL.nil ?_
        refine WE.then ?_
        refine WC.condD (p := i1 < (a1.length : Int)) rfl (fun hc2 => ?_) (fun hc2 => ?_)
        · replace hr := hr.pos hc2
          refine WC.skip ?_
          refine WE.then ?_
          refine WC.seq ?_
          refine WC.block ?_
          refine WC.seq ?_
          refine WC.drawn [false, false, false, false, false, false, false, false, false, false, false, false, false, false, false, false, false, false, false, false, false, false, false, false, false] mix (by kernel_rfl) (fun hb => ?_)
          refine Chain.y0 guard_none (fun _ hle => Y0.move rfl) ?_
          refine Chain.y0 guard_none (fun _ hle => Y0.move rfl) ?_
          obtain ⟨x1, hx1, hr⟩ := hr
          refine Chain.y0 guard_none (fun _ hle => Y0.idxR Try.underlying36 sz60 ((a1h.mono Gm2le).mono hle) rfl rfl hx1) ?_
          refine Chain.y0 guard_none (fun _ hle => Y0.fieldAddr Try.underlying60 rfl (fun _ => by kernel_rfl) rfl) ?_
          refine Chain.y0 guard_none (fun _ hle => Y0.loadG sc5 rfl (AtK.int (At.mono (At.mono (AtK.fst (AtK.via (SlR.at a1h hx1))) Gm2le) hle))) ?_
          refine Chain.y0 guard_none (fun _ hle => Y0.move rfl) ?_
          refine Chain.y0 guard_none (fun _ hle => Y0.move rfl) ?_
          obtain ⟨x2, hx2, hr⟩ := hr
          refine Chain.y0 guard_none (fun _ hle => Y0.idxR Try.underlying36 sz60 ((b1h.mono Gm2le).mono hle) rfl rfl hx2) ?_
          refine Chain.y0 guard_none (fun _ hle => Y0.fieldAddr Try.underlying60 rfl (fun _ => by kernel_rfl) rfl) ?_
          refine Chain.y0 guard_none (fun _ hle => Y0.loadG sc5 rfl (AtK.int (At.mono (At.mono (AtK.fst (AtK.via (SlR.at b1h hx2))) Gm2le) hle))) ?_
          refine Chain.caseY0 (p := ¬ x1.prime = x2.prime) guard_none (fun _ hle => Y0.neq rfl rfl) (fun hb1 => ?_) (fun hb1 => ?_)
          · replace hr := hr.pos hb1
            refine Chain.y0 guard_none (fun _ hle => Y0.move rfl) ?_
            refine Chain.skip (guard_noF rfl rfl) ?_
            refine Chain.skip (guard_noF rfl rfl) ?_
            refine Chain.skip (guard_noF rfl rfl) ?_
            refine Chain.skip (guard_noF rfl rfl) ?_
            refine Chain.skip (guard_noF rfl rfl) ?_
            refine Chain.skip (guard_noF rfl rfl) ?_
            refine Chain.skip (guard_noF rfl rfl) ?_
            refine Chain.skip (guard_noF rfl rfl) ?_
            refine Chain.skip (guard_noF rfl rfl) ?_
            refine Chain.skip (guard_noF rfl rfl) ?_
            refine Chain.skip (guard_noF rfl rfl) ?_
            refine Chain.skip (guard_noF rfl rfl) ?_
            refine Chain.y0 guard_none (fun _ hle => Y0.pickT rfl rfl) ?_
            refine Chain.tail0 hb ?_
            refine WL.nil ?_
            refine WE.nx ?_
            refine WE.then ?_
            refine WC.condT rfl ?_
            refine WC.seq ?_
            refine WC.region ?_
            refine WL.y0' guard_none (Y0.assign rfl) rfl ?_
            refine WL.nil ?_
            refine WE.then ?_
            refine WC.ret ?_
            replace hr : _ = r := hr
            refine WE.inBlockRet ?_
            refine WE.thenRet ?_
            refine WE.thenRet ?_
            refine WE.inBlockRet ?_
            refine WE.endRet ?_
            refine WE.thenRet ?_
            subst hr
            exact WE.ret1 rfl rfl rfl
          · replace hr := hr.neg hb1
            refine Chain.y0 guard_none (fun _ hle => Y0.move rfl) ?_
            refine Chain.y0 (guard_yes rfl rfl) (fun _ hle => Y0.move rfl) ?_
            refine Chain.y0 (guard_yes rfl rfl) (fun _ hle => Y0.move rfl) ?_
            obtain ⟨x3, hx3, hr⟩ := hr
            refine Chain.y0 (guard_yes rfl rfl) (fun _ hle => Y0.idxR Try.underlying36 sz60 ((a1h.mono Gm2le).mono hle) rfl rfl hx3) ?_
            refine Chain.y0 (guard_yes rfl rfl) (fun _ hle => Y0.fieldAddr Try.underlying60 rfl (fun _ => by kernel_rfl) rfl) ?_
            obtain ⟨p1, p1c, p1e, p1h⟩ := AtK.sl (At.mono (AtK.snd (AtK.via (SlR.at a1h hx3))) Gm2le)
            refine Chain.y0 (guard_yes rfl rfl) (fun _ hle => Y0.loadG sc28 rfl (hle _ _ _ p1e)) ?_
            refine Chain.y0 (guard_yes rfl rfl) (fun _ hle => Y0.move rfl) ?_
            refine Chain.y0 (guard_yes rfl rfl) (fun _ hle => Y0.move rfl) ?_
            obtain ⟨x4, hx4, hr⟩ := hr
            refine Chain.y0 (guard_yes rfl rfl) (fun _ hle => Y0.idxR Try.underlying36 sz60 ((b1h.mono Gm2le).mono hle) rfl rfl hx4) ?_
            refine Chain.y0 (guard_yes rfl rfl) (fun _ hle => Y0.fieldAddr Try.underlying60 rfl (fun _ => by kernel_rfl) rfl) ?_
            obtain ⟨p2, p2c, p2e, p2h⟩ := AtK.sl (At.mono (AtK.snd (AtK.via (SlR.at b1h hx4))) Gm2le)
            refine Chain.y0 (guard_yes rfl rfl) (fun _ hle => Y0.loadG sc28 rfl (hle _ _ _ p2e)) ?_
            obtain ⟨yv1, hyv1, hr⟩ := hr
            refine Chain.call0 (guard_yes rfl rfl) (fun _ => YC.of E22 rfl) (L_R04_Same _ _ _ _ _ _ _ hyv1) rfl (fun G' hle => ⟨(p1h.mono hle), (p2h.mono hle)⟩) ?_
            refine Chain.y0 (guard_yes rfl rfl) (fun _ hle => Y0.not rfl) ?_
            refine Chain.y0 guard_none (fun _ hle => Y0.pickF rfl rfl) ?_
            refine Chain.tail0 hb ?_
            refine WL.nil ?_
            refine WE.nx ?_
            refine WE.then ?_
            refine WC.cond (b := !yv1) rfl (fun hc3 => ?_) (fun hc3 => ?_)
            · replace hr := hr.pos hc3
              refine WC.seq ?_
              refine WC.region ?_
              refine WL.y0' guard_none (Y0.assign rfl) rfl ?_
              refine WL.nil ?_
              refine WE.then ?_
              refine WC.ret ?_
              replace hr : _ = r := hr
              refine WE.inBlockRet ?_
              refine WE.thenRet ?_
              refine WE.thenRet ?_
              refine WE.inBlockRet ?_
              refine WE.endRet ?_
              refine WE.thenRet ?_
              subst hr
              exact WE.ret1 rfl rfl rfl
            · replace hr := hr.neg (Bool.eq_false_iff.1 hc3)
              refine WC.skip ?_
              refine WE.inBlock ?_
              refine WE.then ?_
              refine WC.region ?_
              refine WL.y0' guard_none (Y0.move rfl) rfl ?_
              refine WL.y0' guard_none (Y0.add rfl rfl) rfl ?_
              refine WL.y0' guard_none (Y0.assign rfl) rfl ?_
              refine WL.nil ?_
              refine WE.backR ⟨IntKind.i64.wrap (i1 + 1), Gm2⟩ hr Gm2le (Fr.sub_cons rfl (Fr.sub_cons rfl (Fr.sub_cons rfl (Fr.sub_nil _)))) ?_
              · intro w hs
                exact hs.weaken (Lo.sub_nil _)
        · replace hr := hr.neg hc2
          refine WC.exit ?_
          refine WE.thenExit ?_
          refine WE.thenExit ?_
          refine WE.exitHere ?_
          refine WE.endH Gm2 ⟨Gm2le, hr⟩ (Fr.sub_nil _) ?_
          · intro w hs
            exact hs.weaken (Lo.sub_nil _)
    · rintro Gm1 ⟨Gm1le, hr⟩
      refine WE.then ?_
      refine WC.seq ?_
      refine WC.region ?_
      refine WL.y0' guard_none (Y0.assign rfl) rfl ?_
      refine WL.nil ?_
      refine WE.then ?_
      refine WC.ret ?_
      replace hr : _ = r := hr
      subst hr
      exact WE.ret1 rfl rfl rfl
theorem L_components_Radical (l1 : (List (Fin 8 → Int))) (l1p : Option Addr) (l1c : Nat) (r : (List (Fin 8 → Int))) (hr : (components_Radical l1).Ret r) : Ctr Try.prog 27 #[.slice l1p l1.length l1c] (fun G => SlR (Rp.vec .i64 8) G (.slice l1p l1.length l1c) l1) (fun G v => ∃ zp zc, v = .slice zp r.length zc ∧ SlR (Rp.vec .i64 8) G (.slice zp r.length zc) r) := by
  refine Ctr.enter (args := [_]) (N := 30) Try.func27 rfl rfl rfl (fun w0 G0 hL0 hpre => ?_)
  have l1h := hpre
  refine WC.seq ?_
  refine WC.region ?_
  refine WL.y0' guard_none (Y0.assign rfl) rfl ?_
  refine WL.nil ?_
  refine WE.then ?_
  refine WC.seq ?_
  refine WC.region ?_
  refine WL.y0' guard_none (Y0.assign rfl) rfl ?_
  refine WL.nil ?_
  refine WE.then ?_
  refine WC.seq ?_
  refine WC.seq ?_
  refine WC.region ?_
  refine WL.y0' guard_none (Y0.move rfl) rfl ?_
  refine WL.y0' guard_none (Y0.lenR Try.underlying28 l1h rfl) rfl ?_
  refine WL.y0' guard_none (Y0.move rfl) rfl ?_
  refine WL.nil ?_
  refine WE.then ?_
  refine WC.meetH (fun (gx : (List (Fin 8 → Int)) × Option Addr × Nat × Option Ow × Mem) => match gx with | ⟨rv1, rv1p, rv1c, rv1tk, Gm1⟩ => [(3, .slice rv1p rv1.length rv1c)]) (fun (gx : (List (Fin 8 → Int)) × Option Addr × Nat × Option Ow × Mem) => match gx with | ⟨rv1, rv1p, rv1c, rv1tk, Gm1⟩ => Mem.le G0 Gm1 ∧ SlR (Rp.vec .i64 8) Gm1 (.slice rv1p rv1.length rv1c) rv1 ∧ Tok 8 48 (.slice rv1p rv1.length rv1c) rv1.length rv1tk ∧ (components_Radical_k1 rv1).Ret r) (fun (gx : (List (Fin 8 → Int)) × Option Addr × Nat × Option Ow × Mem) => match gx with | ⟨rv1, rv1p, rv1c, rv1tk, Gm1⟩ => St w0 G0 Gm1 [(1003, rv1tk)]) ?_ ?_
  · refine WC.block ?_
    let Phi1 : (((List (Fin 8 → Int)))) → Prop := fun oo => ((fun ov => match ov with | rv1 => components_Radical_k1 rv1 : (((List (Fin 8 → Int)))) → Comp ((List (Fin 8 → Int)))) oo).wp (fun a => a = r)
    replace hr : (Comp.loop _ _).wp Phi1 := hr
    refine WC.loopR (Φ := Phi1) (fun (gx : (List (Fin 8 → Int)) × Option Addr × Nat × Option Ow × Int × Mem) => match gx with | ⟨rv2, rv2p, rv2c, rv2tk, v9_1, Gm2⟩ => ((rv2, v9_1) : (List (Fin 8 → Int)) × Int)) (fun (gx : (List (Fin 8 → Int)) × Option Addr × Nat × Option Ow × Int × Mem) => match gx with | ⟨rv2, rv2p, rv2c, rv2tk, v9_1, Gm2⟩ => [(3, .slice rv2p rv2.length rv2c), (7, .slice l1p l1.length l1c), (8, .int .i64 (l1.length : Int)), (9, .int .i64 v9_1)]) (fun (gx : (List (Fin 8 → Int)) × Option Addr × Nat × Option Ow × Int × Mem) => match gx with | ⟨rv2, rv2p, rv2c, rv2tk, v9_1, Gm2⟩ => Mem.le G0 Gm2 ∧ SlR (Rp.vec .i64 8) Gm2 (.slice rv2p rv2.length rv2c) rv2 ∧ Tok 8 48 (.slice rv2p rv2.length rv2c) rv2.length rv2tk) (fun (gx : (List (Fin 8 → Int)) × Option Addr × Nat × Option Ow × Int × Mem) => match gx with | ⟨rv2, rv2p, rv2c, rv2tk, v9_1, Gm2⟩ => St w0 G0 Gm2 [(1003, rv2tk)]) ⟨[], none, 0, none, 0, G0⟩ hr (Fr.sub_cons rfl (Fr.sub_cons rfl (Fr.sub_cons rfl (Fr.sub_cons rfl (Fr.sub_nil _))))) ⟨(Mem.le_refl _), (SlR.nil _ _), Tok.full⟩ ?_ ?_
    · intro w hs
      exact hs.weaken (Lo.sub_no (Lo.sub_nil _))
    · intro Aq1 gx hx hr
      obtain ⟨rv2, rv2p, rv2c, rv2tk, v9_1, Gm2⟩ := gx
      obtain ⟨Gm2le, rv2h, rv2ht⟩ := hx
      refine WC.seq ?_
      refine WC.region ?_
      refine WL.y0' guard_none (Y0.lss rfl rfl) rfl ?_
      refine WL.nil ?_
      refine WE.then ?_
      refine WC.seq ?_
      refine WC.condD (p := v9_1 < (l1.length : Int)) rfl (fun hc1 => ?_) (fun hc1 => ?_)
      · replace hr := hr.pos hc1
        refine WC.skip ?_
        refine WE.then ?_
        refine WC.seq ?_
        refine WC.block ?_
        refine WC.seq ?_
        refine WC.region ?_
        obtain ⟨x1, hx1, hr⟩ := hr
        refine WL.y0' guard_none (Y0.idxR Try.underlying28 sz48 (l1h.mono Gm2le) rfl rfl hx1) rfl ?_
        refine WL.y0' guard_none (Y0.loadGA _ ag48 rfl (vecG_size _ _ _) (AtK.vec (At.mono (SlR.at l1h hx1) Gm2le))) rfl ?_
        refine WL.alloc 5 guard_none z48 rfl (fun b1 => ?_)
        refine WL.storeLA 5 guard_none sz48 rfl rfl rfl (vecG_size _ _ _) (vecG_size _ _ _) (fun u hu => Rp.one (Rp.vec .i64 8) (G := Gm2) (x := x1) (cs := vecG (Value.int .i64) 8 x1) rfl u (by simpa using hu)) ?_
        refine WL.nil ?_
        refine WE.then ?_
        refine WC.seq ?_
        refine WC.seq ?_
        refine WC.region ?_
        refine WL.y0' guard_none (Y0.move rfl) rfl ?_
        refine WL.nil ?_
        refine WE.then ?_
        refine WC.meetH (fun (gx : (Fin 8 → Int) × Mem) => match gx with | ⟨bx1, Gm3⟩ => [(3, .slice rv2p rv2.length rv2c), (5, .pointer (some ⟨b1, 0, none⟩)), (7, .slice l1p l1.length l1c), (8, .int .i64 (l1.length : Int)), (9, .int .i64 v9_1)]) (fun (gx : (Fin 8 → Int) × Mem) => match gx with | ⟨bx1, Gm3⟩ => Mem.le Gm2 Gm3 ∧ (components_Radical_k3 rv2 v9_1 bx1).wp (Out Aq1 Phi1)) (fun (gx : (Fin 8 → Int) × Mem) => match gx with | ⟨bx1, Gm3⟩ => St w0 G0 Gm3 [(5, some ⟨b1, .cells (vecG (Value.int .i64) 8 bx1).toArray 48 (0, 0), 0⟩), (1003, rv2tk)]) ?_ ?_
        · refine WC.block ?_
          let Phi2 : (Fin 8 → Int) → Prop := fun oo => ((fun ov => match ov with | bx1 => components_Radical_k3 rv2 v9_1 bx1 : (Fin 8 → Int) → Comp (((List (Fin 8 → Int)) × Int) ⊕ (((List (Fin 8 → Int)))))) oo).wp (Out Aq1 Phi1)
          replace hr : (Comp.loop _ _).wp Phi2 := hr
          refine WC.loopR (Φ := Phi2) (fun (gx : Int × (Fin 8 → Int) × Mem) => match gx with | ⟨v13_1, bx2, Gm4⟩ => ((v13_1, bx2) : Int × (Fin 8 → Int))) (fun (gx : Int × (Fin 8 → Int) × Mem) => match gx with | ⟨v13_1, bx2, Gm4⟩ => [(3, .slice rv2p rv2.length rv2c), (5, .pointer (some ⟨b1, 0, none⟩)), (7, .slice l1p l1.length l1c), (8, .int .i64 (l1.length : Int)), (9, .int .i64 v9_1), (13, .int .i64 v13_1)]) (fun (gx : Int × (Fin 8 → Int) × Mem) => match gx with | ⟨v13_1, bx2, Gm4⟩ => Mem.le Gm2 Gm4) (fun (gx : Int × (Fin 8 → Int) × Mem) => match gx with | ⟨v13_1, bx2, Gm4⟩ => St w0 G0 Gm4 [(5, some ⟨b1, .cells (vecG (Value.int .i64) 8 bx2).toArray 48 (0, 0), 0⟩), (1003, rv2tk)]) ⟨0, x1, Gm2⟩ hr (Fr.sub_cons rfl (Fr.sub_cons rfl (Fr.sub_cons rfl (Fr.sub_cons rfl (Fr.sub_cons rfl (Fr.sub_cons rfl (Fr.sub_nil _))))))) (Mem.le_refl _) ?_ ?_
          · intro w hs
            exact hs.weaken (Lo.sub_cons rfl (Lo.sub_cons rfl (Lo.sub_nil _)))
          · intro Aq2 gx hx hr
            obtain ⟨v13_1, bx2, Gm4⟩ := gx
            have Gm4le := hx
            refine WC.seq ?_
            refine WC.region ?_
            refine WL.y0' guard_none (Y0.lss rfl rfl) rfl ?_
            refine WL.nil ?_
            refine WE.then ?_
            refine WC.seq ?_
            refine WC.condD (p := v13_1 < 8) rfl (fun hc2 => ?_) (fun hc2 => ?_)
            · replace hr := hr.pos hc2
              refine WC.skip ?_
              refine WE.then ?_
              refine WC.seq ?_
              refine WC.block ?_
              refine WC.seq ?_
              refine WC.region ?_
              refine WL.y0' guard_none (Y0.move rfl) rfl ?_
              refine WL.y0' guard_none (Y0.assign rfl) rfl ?_
              refine WL.nil ?_
              refine WE.then ?_
              refine WC.region ?_
              refine WL.y0' guard_none (Y0.move rfl) rfl ?_
              refine WL.y0' guard_none (Y0.move rfl) rfl ?_
              obtain ⟨hi1, hr⟩ := hr
              refine WL.y0' guard_none (Y0.idxA0 Try.underlying48 sz3 rfl rfl hi1) rfl ?_
              refine WL.y0' guard_none (Y0.loadL 5 sc3 rfl rfl (vecG_at _ _ _ hi1)) rfl ?_
              refine WL.y0' guard_none (Y0.min2 rfl rfl) rfl ?_
              obtain ⟨hi2, hr⟩ := hr
              refine WL.y0' guard_none (Y0.idxA0 Try.underlying48 sz3 rfl rfl hi2) rfl ?_
              refine WL.storeL 5 (vecG (Value.int .i64) 8 (setF bx2 v13_1.toNat (if 1 < (getF bx2 v13_1) then 1 else (getF bx2 v13_1)))).toArray guard_none sz3 rfl rfl rfl (by first | (rw [vecG_size]; omega) | (show _ < (vecG _ _ _).toArray.size; rw [vecG_size]; omega)) rfl (vecG_put _ _ _ _ _) ?_
              refine WL.nil ?_
              refine WE.inBlock ?_
              refine WE.then ?_
              refine WC.region ?_
              refine WL.y0' guard_none (Y0.add rfl rfl) rfl ?_
              refine WL.y0' guard_none (Y0.move rfl) rfl ?_
              refine WL.nil ?_
              refine WE.backR ⟨IntKind.i64.wrap (v13_1 + 1), setF bx2 v13_1.toNat (if 1 < (getF bx2 v13_1) then 1 else (getF bx2 v13_1)), Gm4⟩ hr Gm4le (Fr.sub_cons rfl (Fr.sub_cons rfl (Fr.sub_cons rfl (Fr.sub_cons rfl (Fr.sub_cons rfl (Fr.sub_cons rfl (Fr.sub_nil _))))))) ?_
              · intro w hs
                exact hs.weaken (Lo.sub_cons rfl (Lo.sub_cons rfl (Lo.sub_nil _)))
            · replace hr := hr.neg hc2
              refine WC.exit ?_
              refine WE.thenExit ?_
              refine WE.thenExit ?_
              refine WE.exitHere ?_
              refine WE.endH ⟨bx2, Gm4⟩ ⟨Gm4le, hr⟩ (Fr.sub_cons rfl (Fr.sub_cons rfl (Fr.sub_cons rfl (Fr.sub_cons rfl (Fr.sub_cons rfl (Fr.sub_nil _)))))) ?_
              · intro w hs
                exact hs.weaken (Lo.sub_cons rfl (Lo.sub_cons rfl (Lo.sub_nil _)))
        · rintro ⟨bx1, Gm3⟩ ⟨Gm3le, hr⟩
          refine WE.then ?_
          refine WC.region ?_
          refine WL.y0' guard_none (Y0.move rfl) rfl ?_
          refine WL.y0' guard_none (Y0.loadLA 5 ag48 rfl rfl (vecG_size _ _ _)) rfl ?_
          refine WL.litR (e := 48) (r := (Rp.vec .i64 8)) (vs := #[(0, .agg (vecG (Value.int .i64) 8 bx1).toArray)]) (cs := (vecG (Value.int .i64) 8 bx1) ++ ([])) ([bx1] : List (Fin 8 → Int)) guard_none rfl rfl rfl rfl (by decide) (fun _ => by kernel_rfl) ⟨vecG (Value.int .i64) 8 bx1, [], rfl, rfl, rfl⟩ (key := 999) rfl (by rw [hL0]; rfl) (fun p1 Gv2 Gv2le p1h => ?_)
          obtain ⟨hsm1, hr⟩ := hr
          refine WL.appendR (r := (Rp.vec .i64 8)) 1003 guard_none rfl Try.underlying28 el48 rfl (by decide) rfl rfl (rv2h.mono (Mem.le_trans Gm3le Gv2le)) rfl (by rw [hL0]; rfl) rv2ht p1h hsm1 (fun p2 p2c p2tk Gv3 Gv3le p2h p2ht => ?_)
          refine WL.y0' guard_none (Y0.assign rfl) rfl ?_
          refine WL.nil ?_
          refine WE.inBlock ?_
          refine WE.then ?_
          refine WC.region ?_
          refine WL.y0' guard_none (Y0.add rfl rfl) rfl ?_
          refine WL.y0' guard_none (Y0.move rfl) rfl ?_
          refine WL.nil ?_
          refine WE.backR ⟨(rv2 ++ [bx1]), p2, p2c, p2tk, IntKind.i64.wrap (v9_1 + 1), Gv3⟩ hr ⟨(Mem.le_trans (Mem.le_trans (Mem.le_trans Gm2le Gm3le) Gv2le) Gv3le), p2h, p2ht⟩ (Fr.sub_cons rfl (Fr.sub_cons rfl (Fr.sub_cons rfl (Fr.sub_cons rfl (Fr.sub_nil _))))) ?_
          · intro w hs
            exact hs.weaken (Lo.sub_cons rfl (Lo.sub_nil _))
      · replace hr := hr.neg hc1
        refine WC.exit ?_
        refine WE.thenExit ?_
        refine WE.thenExit ?_
        refine WE.exitHere ?_
        refine WE.endH ⟨rv2, rv2p, rv2c, rv2tk, Gm2⟩ ⟨Gm2le, rv2h, rv2ht, hr⟩ (Fr.sub_cons rfl (Fr.sub_nil _)) ?_
        · intro w hs
          exact hs.weaken (Lo.sub_cons rfl (Lo.sub_nil _))
  · rintro ⟨rv1, rv1p, rv1c, rv1tk, Gm1⟩ ⟨Gm1le, rv1h, rv1ht, hr⟩
    refine WE.then ?_
    refine WC.seq ?_
    refine WC.region ?_
    refine WL.y0' guard_none (Y0.move rfl) rfl ?_
    obtain ⟨yv1, hyv1, hr⟩ := hr
    refine WL.call guard_none rfl (YC.of E55 rfl) (L_monomial_Minimal _ _ _ _ hyv1) rfl (rv1h) (fun yv1v Gv1 Gv1le yv1post => ?_)
    obtain ⟨yv1p, yv1c, rfl, yv1h⟩ := yv1post
    refine WL.y0' guard_none (Y0.assign rfl) rfl ?_
    refine WL.nil ?_
    refine WE.then ?_
    refine WC.ret ?_
    replace hr : _ = r := hr
    subst hr
    exact WE.ret1 rfl rfl ⟨_, _, rfl, yv1h⟩
theorem L_components_Meet (l1 : (List (Fin 8 → Int))) (m1 : (List (Fin 8 → Int))) (l1p : Option Addr) (l1c : Nat) (m1p : Option Addr) (m1c : Nat) (r : (List (Fin 8 → Int))) (hr : (components_Meet l1 m1).Ret r) : Ctr Try.prog 25 #[.slice l1p l1.length l1c, .slice m1p m1.length m1c] (fun G => SlR (Rp.vec .i64 8) G (.slice l1p l1.length l1c) l1 ∧ SlR (Rp.vec .i64 8) G (.slice m1p m1.length m1c) m1) (fun G v => ∃ zp zc, v = .slice zp r.length zc ∧ SlR (Rp.vec .i64 8) G (.slice zp r.length zc) r) := by
  refine Ctr.enter (args := [_, _]) (N := 9) Try.func25 rfl rfl rfl (fun w0 G0 hL0 hpre => ?_)
  obtain ⟨l1h, m1h⟩ := hpre
  refine WC.seq ?_
  refine WC.region ?_
  refine WL.y0' guard_none (Y0.assign rfl) rfl ?_
  refine WL.nil ?_
  refine WE.then ?_
  refine WC.seq ?_
  refine WC.region ?_
  refine WL.y0' guard_none (Y0.move rfl) rfl ?_
  refine WL.y0' guard_none (Y0.move rfl) rfl ?_
  refine WL.litR (e := 28) (r := (Rp.sl (Rp.vec .i64 8))) (vs := #[(0, .slice l1p l1.length l1c), (1, .slice m1p m1.length m1c)]) (cs := [.slice l1p l1.length l1c] ++ ([.slice m1p m1.length m1c] ++ ([]))) ([l1, m1] : List (List (Fin 8 → Int))) guard_none rfl rfl rfl rfl (by decide) (fun _ => by kernel_rfl) ⟨[.slice l1p l1.length l1c], [.slice m1p m1.length m1c] ++ ([]), rfl, ⟨_, rfl, l1h⟩, ⟨[.slice m1p m1.length m1c], [], rfl, ⟨_, rfl, m1h⟩, rfl⟩⟩ (key := 999) rfl (by rw [hL0]; rfl) (fun p1 Gv1 Gv1le p1h => ?_)
  obtain ⟨yv1, hyv1, hr⟩ := hr
  refine WL.call guard_none rfl (YC.of E52 rfl) (L_components_meet _ _ _ _ hyv1) rfl (p1h) (fun yv1v Gv2 Gv2le yv1post => ?_)
  obtain ⟨yv1p, yv1c, rfl, yv1h⟩ := yv1post
  refine WL.y0' guard_none (Y0.assign rfl) rfl ?_
  refine WL.nil ?_
  refine WE.then ?_
  refine WC.ret ?_
  replace hr : _ = r := hr
  subst hr
  exact WE.ret1 rfl rfl ⟨_, _, rfl, yv1h⟩
theorem L_law21_sanity (r : Bool) (hr : (law21_sanity).Ret r) : Ctr Try.prog 11 #[] (fun G => True) (fun G v => v = .bool r) := by
  refine Ctr.enter (args := []) (N := 108) Try.func11 rfl rfl rfl (fun w0 G0 hL0 hpre => ?_)
  refine WC.seq ?_
  refine WC.region ?_
  refine WL.y0' guard_none (Y0.assign rfl) rfl ?_
  refine WL.nil ?_
  refine WE.then ?_
  refine WC.seq ?_
  refine WC.region ?_
  refine WL.y0' guard_none (Y0.build (vs := #[(0, .int .i64 2)]) (v := .agg (vecG (Value.int .i64) 8 (setF (fun _ => 0) 0 2)).toArray) rfl rfl (fun _ => by kernel_rfl)) rfl ?_
  refine WL.y0' guard_none (Y0.build (vs := #[(0, .int .i64 1), (1, .int .i64 1)]) (v := .agg (vecG (Value.int .i64) 8 (setF (setF (fun _ => 0) 0 1) 1 1)).toArray) rfl rfl (fun _ => by kernel_rfl)) rfl ?_
  refine WL.litR (e := 48) (r := (Rp.vec .i64 8)) (vs := #[(0, .agg (vecG (Value.int .i64) 8 (setF (fun _ => 0) 0 2)).toArray), (1, .agg (vecG (Value.int .i64) 8 (setF (setF (fun _ => 0) 0 1) 1 1)).toArray)]) (cs := (vecG (Value.int .i64) 8 (setF (fun _ => 0) 0 2)) ++ ((vecG (Value.int .i64) 8 (setF (setF (fun _ => 0) 0 1) 1 1)) ++ ([]))) ([setF (fun _ => 0) 0 2, setF (setF (fun _ => 0) 0 1) 1 1] : List (Fin 8 → Int)) guard_none rfl rfl rfl rfl (by decide) (fun _ => by kernel_rfl) ⟨vecG (Value.int .i64) 8 (setF (fun _ => 0) 0 2), (vecG (Value.int .i64) 8 (setF (setF (fun _ => 0) 0 1) 1 1)) ++ ([]), rfl, rfl, ⟨vecG (Value.int .i64) 8 (setF (setF (fun _ => 0) 0 1) 1 1), [], rfl, rfl, rfl⟩⟩ (key := 999) rfl (by rw [hL0]; rfl) (fun p1 Gv1 Gv1le p1h => ?_)
  refine WL.y0' guard_none (Y0.assign rfl) rfl ?_
  refine WL.nil ?_
  refine WE.then ?_
  refine WC.seq ?_
  refine WC.region ?_
  refine WL.y0' guard_none (Y0.move rfl) rfl ?_
  obtain ⟨yv1, hyv1, hr⟩ := hr
  refine WL.call guard_none rfl (YC.of E14 rfl) (L_components_Irreducible _ _ _ _ _ hyv1) rfl (p1h) (fun yv1v Gv2 Gv2le yv1post => ?_)
  obtain ⟨yv1r0p, yv1r0c, rfl, yv1r0h⟩ := yv1post
  refine WL.y0' guard_none (Y0.move rfl) rfl ?_
  refine WL.y0' guard_none (Y0.extract rfl rfl) rfl ?_
  refine WL.y0' guard_none (Y0.extract rfl rfl) rfl ?_
  refine WL.y0' guard_none (Y0.assign rfl) rfl ?_
  refine WL.y0' guard_none (Y0.assign rfl) rfl ?_
  refine WL.nil ?_
  refine WE.then ?_
  refine WC.seq ?_
  refine WC.region ?_
  refine WL.y0' guard_none (Y0.move rfl) rfl ?_
  obtain ⟨yv2, hyv2, hr⟩ := hr
  refine WL.call guard_none rfl (YC.of E16 rfl) (L_components_Primes _ _ _ _ _ hyv2) rfl ((p1h.mono Gv2le)) (fun yv2v Gv3 Gv3le yv2post => ?_)
  obtain ⟨yv2r0p, yv2r0c, rfl, yv2r0h⟩ := yv2post
  refine WL.y0' guard_none (Y0.move rfl) rfl ?_
  refine WL.y0' guard_none (Y0.extract rfl rfl) rfl ?_
  refine WL.y0' guard_none (Y0.extract rfl rfl) rfl ?_
  refine WL.y0' guard_none (Y0.assign rfl) rfl ?_
  refine WL.y0' guard_none (Y0.assign rfl) rfl ?_
  refine WL.nil ?_
  refine WE.then ?_
  refine WC.seq ?_
  refine WC.region ?_
  refine WL.y0' guard_none (Y0.move rfl) rfl ?_
  obtain ⟨yv3, hyv3, hr⟩ := hr
  refine WL.call guard_none rfl (YC.of E18 rfl) (L_components_Embedded _ _ _ _ _ hyv3) rfl ((p1h.mono (Mem.le_trans Gv2le Gv3le))) (fun yv3v Gv4 Gv4le yv3post => ?_)
  obtain ⟨yv3r0p, yv3r0c, rfl, yv3r0h⟩ := yv3post
  refine WL.y0' guard_none (Y0.move rfl) rfl ?_
  refine WL.y0' guard_none (Y0.extract rfl rfl) rfl ?_
  refine WL.y0' guard_none (Y0.extract rfl rfl) rfl ?_
  refine WL.y0' guard_none (Y0.assign rfl) rfl ?_
  refine WL.y0' guard_none (Y0.assign rfl) rfl ?_
  refine WL.nil ?_
  refine WE.then ?_
  refine WC.seq ?_
  refine WC.region ?_
  refine WL.y0' guard_none (Y0.move rfl) rfl ?_
  obtain ⟨yv4, hyv4, hr⟩ := hr
  refine WL.call guard_none rfl (YC.of E20 rfl) (L_components_Primary _ _ _ _ _ hyv4) rfl ((p1h.mono (Mem.le_trans (Mem.le_trans Gv2le Gv3le) Gv4le))) (fun yv4v Gv5 Gv5le yv4post => ?_)
  obtain ⟨yv4r0p, yv4r0c, rfl, yv4r0h⟩ := yv4post
  refine WL.y0' guard_none (Y0.move rfl) rfl ?_
  refine WL.y0' guard_none (Y0.extract rfl rfl) rfl ?_
  refine WL.y0' guard_none (Y0.extract rfl rfl) rfl ?_
  refine WL.y0' guard_none (Y0.assign rfl) rfl ?_
  refine WL.y0' guard_none (Y0.assign rfl) rfl ?_
  refine WL.nil ?_
  refine WE.then ?_
  refine WC.seq ?_
  refine WC.region ?_
  refine WL.y0' guard_none (Y0.move rfl) rfl ?_
  obtain ⟨yv5, hyv5, hr⟩ := hr
  refine WL.call guard_none rfl (YC.of E16 rfl) (L_components_Primes _ _ _ _ _ hyv5) rfl ((p1h.mono (Mem.le_trans (Mem.le_trans (Mem.le_trans Gv2le Gv3le) Gv4le) Gv5le))) (fun yv5v Gv6 Gv6le yv5post => ?_)
  obtain ⟨yv5r0p, yv5r0c, rfl, yv5r0h⟩ := yv5post
  refine WL.y0' guard_none (Y0.move rfl) rfl ?_
  refine WL.y0' guard_none (Y0.extract rfl rfl) rfl ?_
  refine WL.y0' guard_none (Y0.extract rfl rfl) rfl ?_
  refine WL.y0' guard_none (Y0.assign rfl) rfl ?_
  refine WL.y0' guard_none (Y0.assign rfl) rfl ?_
  refine WL.nil ?_
  refine WE.then ?_
  refine WC.seqH (fun (gx : Bool × Mem) => match gx with | ⟨v12_1, Gm1⟩ => [(1, .slice p1 2 2), (2, .slice yv1r0p yv1.1.length yv1r0c), (4, .slice yv2r0p yv2.1.length yv2r0c), (6, .slice yv3r0p yv3.1.length yv3r0c), (8, .slice yv4r0p yv4.1.length yv4r0c), (12, .bool v12_1)]) (fun (gx : Bool × Mem) => match gx with | ⟨v12_1, Gm1⟩ => Mem.le Gv6 Gm1 ∧ (law21_sanity_k1 yv1 yv2 yv3 yv4 v12_1).Ret r) (fun (gx : Bool × Mem) => match gx with | ⟨v12_1, Gm1⟩ => St w0 G0 Gm1 []) ?_ ?_
  · skip
    refine WC.region ?_
    refine WL.y0' guard_none (Y0.move rfl) rfl ?_
    refine WL.caseY0 (p := yv1.2 = 0) guard_none (Y0.eql rfl rfl) rfl (fun hb2 => ?_) (fun hb2 => ?_)
    · replace hr := hr.pos hb2
      refine WL.y0' guard_none (Y0.move rfl) rfl ?_
      refine WL.y0' (guard_yes rfl rfl) (Y0.move rfl) rfl ?_
      refine WL.caseY0 (p := yv2.2 = 0) (guard_yes rfl rfl) (Y0.eql rfl rfl) rfl (fun hb3 => ?_) (fun hb3 => ?_)
      · replace hr := hr.pos hb3
        refine WL.y0' guard_none (Y0.pickT rfl rfl) rfl ?_
        refine WL.y0' guard_none (Y0.move rfl) rfl ?_
        refine WL.y0' (guard_yes rfl rfl) (Y0.move rfl) rfl ?_
        refine WL.caseY0 (p := yv3.2 = 0) (guard_yes rfl rfl) (Y0.eql rfl rfl) rfl (fun hb4 => ?_) (fun hb4 => ?_)
        · replace hr := hr.pos hb4
          refine WL.y0' guard_none (Y0.pickT rfl rfl) rfl ?_
          refine WL.y0' guard_none (Y0.move rfl) rfl ?_
          refine WL.y0' (guard_yes rfl rfl) (Y0.move rfl) rfl ?_
          refine WL.caseY0 (p := yv4.2 = 0) (guard_yes rfl rfl) (Y0.eql rfl rfl) rfl (fun hb5 => ?_) (fun hb5 => ?_)
          · replace hr := hr.pos hb5
            refine WL.y0' guard_none (Y0.pickT rfl rfl) rfl ?_
            refine WL.y0' guard_none (Y0.move rfl) rfl ?_
            refine WL.y0' (guard_yes rfl rfl) (Y0.move rfl) rfl ?_
            refine WL.y0' (guard_yes rfl rfl) (Y0.eql rfl rfl) rfl ?_
            refine WL.y0' guard_none (Y0.pickT rfl rfl) rfl ?_
            refine WL.y0' guard_none (Y0.assign rfl) rfl ?_
            refine WL.nil ?_
            refine WE.midH ⟨decide (yv5.2 = 1), Gv6⟩ ⟨(Mem.le_refl _), hr⟩ (Fr.sub_cons rfl (Fr.sub_cons rfl (Fr.sub_cons rfl (Fr.sub_cons rfl (Fr.sub_cons rfl (Fr.sub_cons rfl (Fr.sub_nil _))))))) ?_
            · intro w hs
              exact hs.weaken (Lo.sub_nil _)
          · replace hr := hr.neg hb5
            refine WL.y0' guard_none (Y0.pickT rfl rfl) rfl ?_
            refine WL.y0' guard_none (Y0.move rfl) rfl ?_
            refine WL.skip (guard_noT rfl rfl) rfl ?_
            refine WL.skip (guard_noT rfl rfl) rfl ?_
            refine WL.y0' guard_none (Y0.pickF rfl rfl) rfl ?_
            refine WL.y0' guard_none (Y0.assign rfl) rfl ?_
            refine WL.nil ?_
            refine WE.midH ⟨false, Gv6⟩ ⟨(Mem.le_refl _), hr⟩ (Fr.sub_cons rfl (Fr.sub_cons rfl (Fr.sub_cons rfl (Fr.sub_cons rfl (Fr.sub_cons rfl (Fr.sub_cons rfl (Fr.sub_nil _))))))) ?_
            · intro w hs
              exact hs.weaken (Lo.sub_nil _)
        · replace hr := hr.neg hb4
          refine WL.y0' guard_none (Y0.pickT rfl rfl) rfl ?_
          refine WL.y0' guard_none (Y0.move rfl) rfl ?_
          refine WL.skip (guard_noT rfl rfl) rfl ?_
          refine WL.skip (guard_noT rfl rfl) rfl ?_
          refine WL.y0' guard_none (Y0.pickF rfl rfl) rfl ?_
          refine WL.y0' guard_none (Y0.move rfl) rfl ?_
          refine WL.skip (guard_noT rfl rfl) rfl ?_
          refine WL.skip (guard_noT rfl rfl) rfl ?_
          refine WL.y0' guard_none (Y0.pickF rfl rfl) rfl ?_
          refine WL.y0' guard_none (Y0.assign rfl) rfl ?_
          refine WL.nil ?_
          refine WE.midH ⟨false, Gv6⟩ ⟨(Mem.le_refl _), hr⟩ (Fr.sub_cons rfl (Fr.sub_cons rfl (Fr.sub_cons rfl (Fr.sub_cons rfl (Fr.sub_cons rfl (Fr.sub_cons rfl (Fr.sub_nil _))))))) ?_
          · intro w hs
            exact hs.weaken (Lo.sub_nil _)
      · replace hr := hr.neg hb3
        refine WL.y0' guard_none (Y0.pickT rfl rfl) rfl ?_
        refine WL.y0' guard_none (Y0.move rfl) rfl ?_
        refine WL.skip (guard_noT rfl rfl) rfl ?_
        refine WL.skip (guard_noT rfl rfl) rfl ?_
        refine WL.y0' guard_none (Y0.pickF rfl rfl) rfl ?_
        refine WL.y0' guard_none (Y0.move rfl) rfl ?_
        refine WL.skip (guard_noT rfl rfl) rfl ?_
        refine WL.skip (guard_noT rfl rfl) rfl ?_
        refine WL.y0' guard_none (Y0.pickF rfl rfl) rfl ?_
        refine WL.y0' guard_none (Y0.move rfl) rfl ?_
        refine WL.skip (guard_noT rfl rfl) rfl ?_
        refine WL.skip (guard_noT rfl rfl) rfl ?_
        refine WL.y0' guard_none (Y0.pickF rfl rfl) rfl ?_
        refine WL.y0' guard_none (Y0.assign rfl) rfl ?_
        refine WL.nil ?_
        refine WE.midH ⟨false, Gv6⟩ ⟨(Mem.le_refl _), hr⟩ (Fr.sub_cons rfl (Fr.sub_cons rfl (Fr.sub_cons rfl (Fr.sub_cons rfl (Fr.sub_cons rfl (Fr.sub_cons rfl (Fr.sub_nil _))))))) ?_
        · intro w hs
          exact hs.weaken (Lo.sub_nil _)
    · replace hr := hr.neg hb2
      refine WL.y0' guard_none (Y0.move rfl) rfl ?_
      refine WL.skip (guard_noT rfl rfl) rfl ?_
      refine WL.skip (guard_noT rfl rfl) rfl ?_
      refine WL.y0' guard_none (Y0.pickF rfl rfl) rfl ?_
      refine WL.y0' guard_none (Y0.move rfl) rfl ?_
      refine WL.skip (guard_noT rfl rfl) rfl ?_
      refine WL.skip (guard_noT rfl rfl) rfl ?_
      refine WL.y0' guard_none (Y0.pickF rfl rfl) rfl ?_
      refine WL.y0' guard_none (Y0.move rfl) rfl ?_
      refine WL.skip (guard_noT rfl rfl) rfl ?_
      refine WL.skip (guard_noT rfl rfl) rfl ?_
      refine WL.y0' guard_none (Y0.pickF rfl rfl) rfl ?_
      refine WL.y0' guard_none (Y0.move rfl) rfl ?_
      refine WL.skip (guard_noT rfl rfl) rfl ?_
      refine WL.skip (guard_noT rfl rfl) rfl ?_
      refine WL.y0' guard_none (Y0.pickF rfl rfl) rfl ?_
      refine WL.y0' guard_none (Y0.assign rfl) rfl ?_
      refine WL.nil ?_
      refine WE.midH ⟨false, Gv6⟩ ⟨(Mem.le_refl _), hr⟩ (Fr.sub_cons rfl (Fr.sub_cons rfl (Fr.sub_cons rfl (Fr.sub_cons rfl (Fr.sub_cons rfl (Fr.sub_cons rfl (Fr.sub_nil _))))))) ?_
      · intro w hs
        exact hs.weaken (Lo.sub_nil _)
  · rintro ⟨v12_1, Gm1⟩ ⟨Gm1le, hr⟩
    refine WC.seq ?_
    refine WC.region ?_
    refine WL.y0' guard_none (Y0.build (vs := #[(0, .int .i64 1)]) (v := .agg (vecG (Value.int .i64) 8 (setF (fun _ => 0) 0 1)).toArray) rfl rfl (fun _ => by kernel_rfl)) rfl ?_
    refine WL.litR (e := 48) (r := (Rp.vec .i64 8)) (vs := #[(0, .agg (vecG (Value.int .i64) 8 (setF (fun _ => 0) 0 1)).toArray)]) (cs := (vecG (Value.int .i64) 8 (setF (fun _ => 0) 0 1)) ++ ([])) ([setF (fun _ => 0) 0 1] : List (Fin 8 → Int)) guard_none rfl rfl rfl rfl (by decide) (fun _ => by kernel_rfl) ⟨vecG (Value.int .i64) 8 (setF (fun _ => 0) 0 1), [], rfl, rfl, rfl⟩ (key := 999) rfl (by rw [hL0]; rfl) (fun p2 Gv7 Gv7le p2h => ?_)
    refine WL.y0' guard_none (Y0.build (vs := #[(0, .int .u8 1), (1, .slice p2 1 1)]) (v := .agg ([.int .u8 1, .slice p2 1 1]).toArray) rfl rfl (fun _ => by kernel_rfl)) rfl ?_
    refine WL.y0' guard_none (Y0.build (vs := #[(0, .int .i64 2)]) (v := .agg (vecG (Value.int .i64) 8 (setF (fun _ => 0) 0 2)).toArray) rfl rfl (fun _ => by kernel_rfl)) rfl ?_
    refine WL.y0' guard_none (Y0.build (vs := #[(0, .int .i64 0), (1, .int .i64 1)]) (v := .agg (vecG (Value.int .i64) 8 (setF (setF (fun _ => 0) 0 0) 1 1)).toArray) rfl rfl (fun _ => by kernel_rfl)) rfl ?_
    refine WL.litR (e := 48) (r := (Rp.vec .i64 8)) (vs := #[(0, .agg (vecG (Value.int .i64) 8 (setF (fun _ => 0) 0 2)).toArray), (1, .agg (vecG (Value.int .i64) 8 (setF (setF (fun _ => 0) 0 0) 1 1)).toArray)]) (cs := (vecG (Value.int .i64) 8 (setF (fun _ => 0) 0 2)) ++ ((vecG (Value.int .i64) 8 (setF (setF (fun _ => 0) 0 0) 1 1)) ++ ([]))) ([setF (fun _ => 0) 0 2, setF (setF (fun _ => 0) 0 0) 1 1] : List (Fin 8 → Int)) guard_none rfl rfl rfl rfl (by decide) (fun _ => by kernel_rfl) ⟨vecG (Value.int .i64) 8 (setF (fun _ => 0) 0 2), (vecG (Value.int .i64) 8 (setF (setF (fun _ => 0) 0 0) 1 1)) ++ ([]), rfl, rfl, ⟨vecG (Value.int .i64) 8 (setF (setF (fun _ => 0) 0 0) 1 1), [], rfl, rfl, rfl⟩⟩ (key := 999) rfl (by rw [hL0]; rfl) (fun p3 Gv8 Gv8le p3h => ?_)
    refine WL.y0' guard_none (Y0.build (vs := #[(0, .int .u8 3), (1, .slice p3 2 2)]) (v := .agg ([.int .u8 3, .slice p3 2 2]).toArray) rfl rfl (fun _ => by kernel_rfl)) rfl ?_
    refine WL.litR (e := 60) (r := rp_api_Part) (vs := #[(0, .agg ([.int .u8 1, .slice p2 1 1]).toArray), (1, .agg ([.int .u8 3, .slice p3 2 2]).toArray)]) (cs := [.int .u8 1, .slice p2 1 1] ++ ([.int .u8 3, .slice p3 2 2] ++ ([]))) ([(T_api_Part.mk 1 [setF (fun _ => 0) 0 1]), (T_api_Part.mk 3 [setF (fun _ => 0) 0 2, setF (setF (fun _ => 0) 0 0) 1 1])] : List T_api_Part) guard_none rfl rfl rfl rfl (by decide) (fun _ => by kernel_rfl) ⟨[.int .u8 1, .slice p2 1 1], [.int .u8 3, .slice p3 2 2] ++ ([]), rfl, ⟨[.int .u8 1], [.slice p2 1 1], rfl, rfl, ⟨_, rfl, (p2h.mono Gv8le)⟩⟩, ⟨[.int .u8 3, .slice p3 2 2], [], rfl, ⟨[.int .u8 3], [.slice p3 2 2], rfl, rfl, ⟨_, rfl, p3h⟩⟩, rfl⟩⟩ (key := 999) rfl (by rw [hL0]; rfl) (fun p4 Gv9 Gv9le p4h => ?_)
    refine WL.y0' guard_none (Y0.assign rfl) rfl ?_
    refine WL.nil ?_
    refine WE.then ?_
    refine WC.seq ?_
    refine WC.region ?_
    refine WL.caseY0 (p := v12_1 = true) guard_none (Y0.eq (Y0.move rfl) (congrArg Value.bool (bdec _))) rfl (fun hb1 => ?_) (fun hb1 => ?_)
    · replace hr := hr.pos hb1
      refine WL.y0' guard_none (Y0.move rfl) rfl ?_
      refine WL.y0' (guard_yes rfl rfl) (Y0.move rfl) rfl ?_
      refine WL.y0' (guard_yes rfl rfl) (Y0.build (vs := #[(0, .int .i64 2), (1, .int .i64 1)]) (v := .agg (vecG (Value.int .i64) 8 (setF (setF (fun _ => 0) 0 2) 1 1)).toArray) rfl rfl (fun _ => by kernel_rfl)) rfl ?_
      refine WL.y0' (guard_yes rfl rfl) (Y0.build (vs := #[(0, .int .i64 1)]) (v := .agg (vecG (Value.int .i64) 8 (setF (fun _ => 0) 0 1)).toArray) rfl rfl (fun _ => by kernel_rfl)) rfl ?_
      refine WL.litR (e := 48) (r := (Rp.vec .i64 8)) (vs := #[(0, .agg (vecG (Value.int .i64) 8 (setF (setF (fun _ => 0) 0 2) 1 1)).toArray), (1, .agg (vecG (Value.int .i64) 8 (setF (fun _ => 0) 0 1)).toArray)]) (cs := (vecG (Value.int .i64) 8 (setF (setF (fun _ => 0) 0 2) 1 1)) ++ ((vecG (Value.int .i64) 8 (setF (fun _ => 0) 0 1)) ++ ([]))) ([setF (setF (fun _ => 0) 0 2) 1 1, setF (fun _ => 0) 0 1] : List (Fin 8 → Int)) (guard_yes rfl rfl) rfl rfl rfl rfl (by decide) (fun _ => by kernel_rfl) ⟨vecG (Value.int .i64) 8 (setF (setF (fun _ => 0) 0 2) 1 1), (vecG (Value.int .i64) 8 (setF (fun _ => 0) 0 1)) ++ ([]), rfl, rfl, ⟨vecG (Value.int .i64) 8 (setF (fun _ => 0) 0 1), [], rfl, rfl, rfl⟩⟩ (key := 999) rfl (by rw [hL0]; rfl) (fun p5 Gv10 Gv10le p5h => ?_)
      obtain ⟨yv6, hyv6, hr⟩ := hr
      refine WL.call0 (guard_yes rfl rfl) rfl (YC.of E22 rfl) (L_R04_Same _ _ _ _ _ _ _ hyv6) rfl (⟨(yv1r0h.mono (Mem.le_trans (Mem.le_trans (Mem.le_trans (Mem.le_trans (Mem.le_trans (Mem.le_trans (Mem.le_trans (Mem.le_trans Gv3le Gv4le) Gv5le) Gv6le) Gm1le) Gv7le) Gv8le) Gv9le) Gv10le)), p5h⟩) ?_
      cases yv6
      · skip
        refine WL.y0' guard_none (Y0.pickT rfl rfl) rfl ?_
        refine WL.y0' guard_none (Y0.move rfl) rfl ?_
        refine WL.skip (guard_noT rfl rfl) rfl ?_
        refine WL.skip (guard_noT rfl rfl) rfl ?_
        refine WL.skip (guard_noT rfl rfl) rfl ?_
        refine WL.y0' guard_none (Y0.pickF rfl rfl) rfl ?_
        refine WL.y0' guard_none (Y0.move rfl) rfl ?_
        refine WL.skip (guard_noT rfl rfl) rfl ?_
        refine WL.skip (guard_noT rfl rfl) rfl ?_
        refine WL.skip (guard_noT rfl rfl) rfl ?_
        refine WL.y0' guard_none (Y0.pickF rfl rfl) rfl ?_
        refine WL.y0' guard_none (Y0.move rfl) rfl ?_
        refine WL.skip (guard_noT rfl rfl) rfl ?_
        refine WL.skip (guard_noT rfl rfl) rfl ?_
        refine WL.skip (guard_noT rfl rfl) rfl ?_
        refine WL.y0' guard_none (Y0.pickF rfl rfl) rfl ?_
        refine WL.y0' guard_none (Y0.move rfl) rfl ?_
        refine WL.skip (guard_noT rfl rfl) rfl ?_
        refine WL.skip (guard_noT rfl rfl) rfl ?_
        refine WL.skip (guard_noT rfl rfl) rfl ?_
        refine WL.skip (guard_noT rfl rfl) rfl ?_
        refine WL.skip (guard_noT rfl rfl) rfl ?_
        refine WL.y0' guard_none (Y0.pickF rfl rfl) rfl ?_
        refine WL.y0' guard_none (Y0.move rfl) rfl ?_
        refine WL.skip (guard_noT rfl rfl) rfl ?_
        refine WL.skip (guard_noT rfl rfl) rfl ?_
        refine WL.skip (guard_noT rfl rfl) rfl ?_
        refine WL.skip (guard_noT rfl rfl) rfl ?_
        refine WL.skip (guard_noT rfl rfl) rfl ?_
        refine WL.skip (guard_noT rfl rfl) rfl ?_
        refine WL.skip (guard_noT rfl rfl) rfl ?_
        refine WL.skip (guard_noT rfl rfl) rfl ?_
        refine WL.y0' guard_none (Y0.pickF rfl rfl) rfl ?_
        refine WL.y0' guard_none (Y0.assign rfl) rfl ?_
        refine WL.nil ?_
        refine WE.then ?_
        refine WC.ret ?_
        replace hr : _ = r := hr
        subst hr
        exact WE.ret1 rfl rfl rfl
      · skip
        refine WL.y0' guard_none (Y0.pickT rfl rfl) rfl ?_
        refine WL.y0' guard_none (Y0.move rfl) rfl ?_
        refine WL.y0' (guard_yes rfl rfl) (Y0.move rfl) rfl ?_
        refine WL.litR (e := 5) (r := (Rp.int .u8)) (vs := #[(0, .int .u8 1), (1, .int .u8 3)]) (cs := [.int .u8 1] ++ ([.int .u8 3] ++ ([]))) ([1, 3] : List Int) (guard_yes rfl rfl) rfl rfl rfl rfl (by decide) (fun _ => by kernel_rfl) ⟨[.int .u8 1], [.int .u8 3] ++ ([]), rfl, rfl, ⟨[.int .u8 3], [], rfl, rfl, rfl⟩⟩ (key := 999) rfl (by rw [hL0]; rfl) (fun p6 Gv12 Gv12le p6h => ?_)
        obtain ⟨yv7, hyv7, hr⟩ := hr
        refine WL.call0 (guard_yes rfl rfl) rfl (YC.of E23 rfl) (L_R18_SameSets _ _ _ _ _ _ _ hyv7) rfl (⟨(yv2r0h.mono (Mem.le_trans (Mem.le_trans (Mem.le_trans (Mem.le_trans (Mem.le_trans (Mem.le_trans (Mem.le_trans (Mem.le_trans Gv4le Gv5le) Gv6le) Gm1le) Gv7le) Gv8le) Gv9le) Gv10le) Gv12le)), p6h⟩) ?_
        cases yv7
        · skip
          refine WL.y0' guard_none (Y0.pickT rfl rfl) rfl ?_
          refine WL.y0' guard_none (Y0.move rfl) rfl ?_
          refine WL.skip (guard_noT rfl rfl) rfl ?_
          refine WL.skip (guard_noT rfl rfl) rfl ?_
          refine WL.skip (guard_noT rfl rfl) rfl ?_
          refine WL.y0' guard_none (Y0.pickF rfl rfl) rfl ?_
          refine WL.y0' guard_none (Y0.move rfl) rfl ?_
          refine WL.skip (guard_noT rfl rfl) rfl ?_
          refine WL.skip (guard_noT rfl rfl) rfl ?_
          refine WL.skip (guard_noT rfl rfl) rfl ?_
          refine WL.y0' guard_none (Y0.pickF rfl rfl) rfl ?_
          refine WL.y0' guard_none (Y0.move rfl) rfl ?_
          refine WL.skip (guard_noT rfl rfl) rfl ?_
          refine WL.skip (guard_noT rfl rfl) rfl ?_
          refine WL.skip (guard_noT rfl rfl) rfl ?_
          refine WL.skip (guard_noT rfl rfl) rfl ?_
          refine WL.skip (guard_noT rfl rfl) rfl ?_
          refine WL.y0' guard_none (Y0.pickF rfl rfl) rfl ?_
          refine WL.y0' guard_none (Y0.move rfl) rfl ?_
          refine WL.skip (guard_noT rfl rfl) rfl ?_
          refine WL.skip (guard_noT rfl rfl) rfl ?_
          refine WL.skip (guard_noT rfl rfl) rfl ?_
          refine WL.skip (guard_noT rfl rfl) rfl ?_
          refine WL.skip (guard_noT rfl rfl) rfl ?_
          refine WL.skip (guard_noT rfl rfl) rfl ?_
          refine WL.skip (guard_noT rfl rfl) rfl ?_
          refine WL.skip (guard_noT rfl rfl) rfl ?_
          refine WL.y0' guard_none (Y0.pickF rfl rfl) rfl ?_
          refine WL.y0' guard_none (Y0.assign rfl) rfl ?_
          refine WL.nil ?_
          refine WE.then ?_
          refine WC.ret ?_
          replace hr : _ = r := hr
          subst hr
          exact WE.ret1 rfl rfl rfl
        · skip
          refine WL.y0' guard_none (Y0.pickT rfl rfl) rfl ?_
          refine WL.y0' guard_none (Y0.move rfl) rfl ?_
          refine WL.y0' (guard_yes rfl rfl) (Y0.move rfl) rfl ?_
          refine WL.litR (e := 5) (r := (Rp.int .u8)) (vs := #[(0, .int .u8 3)]) (cs := [.int .u8 3] ++ ([])) ([3] : List Int) (guard_yes rfl rfl) rfl rfl rfl rfl (by decide) (fun _ => by kernel_rfl) ⟨[.int .u8 3], [], rfl, rfl, rfl⟩ (key := 999) rfl (by rw [hL0]; rfl) (fun p7 Gv14 Gv14le p7h => ?_)
          obtain ⟨yv8, hyv8, hr⟩ := hr
          refine WL.call0 (guard_yes rfl rfl) rfl (YC.of E23 rfl) (L_R18_SameSets _ _ _ _ _ _ _ hyv8) rfl (⟨(yv3r0h.mono (Mem.le_trans (Mem.le_trans (Mem.le_trans (Mem.le_trans (Mem.le_trans (Mem.le_trans (Mem.le_trans (Mem.le_trans Gv5le Gv6le) Gm1le) Gv7le) Gv8le) Gv9le) Gv10le) Gv12le) Gv14le)), p7h⟩) ?_
          cases yv8
          · skip
            refine WL.y0' guard_none (Y0.pickT rfl rfl) rfl ?_
            refine WL.y0' guard_none (Y0.move rfl) rfl ?_
            refine WL.skip (guard_noT rfl rfl) rfl ?_
            refine WL.skip (guard_noT rfl rfl) rfl ?_
            refine WL.skip (guard_noT rfl rfl) rfl ?_
            refine WL.y0' guard_none (Y0.pickF rfl rfl) rfl ?_
            refine WL.y0' guard_none (Y0.move rfl) rfl ?_
            refine WL.skip (guard_noT rfl rfl) rfl ?_
            refine WL.skip (guard_noT rfl rfl) rfl ?_
            refine WL.skip (guard_noT rfl rfl) rfl ?_
            refine WL.skip (guard_noT rfl rfl) rfl ?_
            refine WL.skip (guard_noT rfl rfl) rfl ?_
            refine WL.y0' guard_none (Y0.pickF rfl rfl) rfl ?_
            refine WL.y0' guard_none (Y0.move rfl) rfl ?_
            refine WL.skip (guard_noT rfl rfl) rfl ?_
            refine WL.skip (guard_noT rfl rfl) rfl ?_
            refine WL.skip (guard_noT rfl rfl) rfl ?_
            refine WL.skip (guard_noT rfl rfl) rfl ?_
            refine WL.skip (guard_noT rfl rfl) rfl ?_
            refine WL.skip (guard_noT rfl rfl) rfl ?_
            refine WL.skip (guard_noT rfl rfl) rfl ?_
            refine WL.skip (guard_noT rfl rfl) rfl ?_
            refine WL.y0' guard_none (Y0.pickF rfl rfl) rfl ?_
            refine WL.y0' guard_none (Y0.assign rfl) rfl ?_
            refine WL.nil ?_
            refine WE.then ?_
            refine WC.ret ?_
            replace hr : _ = r := hr
            subst hr
            exact WE.ret1 rfl rfl rfl
          · skip
            refine WL.y0' guard_none (Y0.pickT rfl rfl) rfl ?_
            refine WL.y0' guard_none (Y0.move rfl) rfl ?_
            refine WL.y0' (guard_yes rfl rfl) (Y0.move rfl) rfl ?_
            refine WL.y0' (guard_yes rfl rfl) (Y0.move rfl) rfl ?_
            obtain ⟨yv9, hyv9, hr⟩ := hr
            refine WL.call0 (guard_yes rfl rfl) rfl (YC.of E24 rfl) (L_R21_SameParts _ _ _ _ _ _ _ hyv9) rfl (⟨(yv4r0h.mono (Mem.le_trans (Mem.le_trans (Mem.le_trans (Mem.le_trans (Mem.le_trans (Mem.le_trans (Mem.le_trans Gv6le Gm1le) Gv7le) Gv8le) Gv9le) Gv10le) Gv12le) Gv14le)), (p4h.mono (Mem.le_trans (Mem.le_trans Gv10le Gv12le) Gv14le))⟩) ?_
            cases yv9
            · skip
              refine WL.y0' guard_none (Y0.pickT rfl rfl) rfl ?_
              refine WL.y0' guard_none (Y0.move rfl) rfl ?_
              refine WL.skip (guard_noT rfl rfl) rfl ?_
              refine WL.skip (guard_noT rfl rfl) rfl ?_
              refine WL.skip (guard_noT rfl rfl) rfl ?_
              refine WL.skip (guard_noT rfl rfl) rfl ?_
              refine WL.skip (guard_noT rfl rfl) rfl ?_
              refine WL.y0' guard_none (Y0.pickF rfl rfl) rfl ?_
              refine WL.y0' guard_none (Y0.move rfl) rfl ?_
              refine WL.skip (guard_noT rfl rfl) rfl ?_
              refine WL.skip (guard_noT rfl rfl) rfl ?_
              refine WL.skip (guard_noT rfl rfl) rfl ?_
              refine WL.skip (guard_noT rfl rfl) rfl ?_
              refine WL.skip (guard_noT rfl rfl) rfl ?_
              refine WL.skip (guard_noT rfl rfl) rfl ?_
              refine WL.skip (guard_noT rfl rfl) rfl ?_
              refine WL.skip (guard_noT rfl rfl) rfl ?_
              refine WL.y0' guard_none (Y0.pickF rfl rfl) rfl ?_
              refine WL.y0' guard_none (Y0.assign rfl) rfl ?_
              refine WL.nil ?_
              refine WE.then ?_
              refine WC.ret ?_
              replace hr : _ = r := hr
              subst hr
              exact WE.ret1 rfl rfl rfl
            · skip
              refine WL.y0' guard_none (Y0.pickT rfl rfl) rfl ?_
              refine WL.y0' guard_none (Y0.move rfl) rfl ?_
              refine WL.y0' (guard_yes rfl rfl) (Y0.move rfl) rfl ?_
              obtain ⟨yv10, hyv10, hr⟩ := hr
              refine WL.call (guard_yes rfl rfl) rfl (YC.of E27 rfl) (L_components_Radical _ _ _ _ hyv10) rfl ((p1h.mono (Mem.le_trans (Mem.le_trans (Mem.le_trans (Mem.le_trans (Mem.le_trans (Mem.le_trans (Mem.le_trans (Mem.le_trans (Mem.le_trans (Mem.le_trans (Mem.le_trans Gv2le Gv3le) Gv4le) Gv5le) Gv6le) Gm1le) Gv7le) Gv8le) Gv9le) Gv10le) Gv12le) Gv14le))) (fun yv10v Gv17 Gv17le yv10post => ?_)
              obtain ⟨yv10p, yv10c, rfl, yv10h⟩ := yv10post
              refine WL.y0' (guard_yes rfl rfl) (Y0.build (vs := #[(0, .int .i64 1)]) (v := .agg (vecG (Value.int .i64) 8 (setF (fun _ => 0) 0 1)).toArray) rfl rfl (fun _ => by kernel_rfl)) rfl ?_
              refine WL.litR (e := 48) (r := (Rp.vec .i64 8)) (vs := #[(0, .agg (vecG (Value.int .i64) 8 (setF (fun _ => 0) 0 1)).toArray)]) (cs := (vecG (Value.int .i64) 8 (setF (fun _ => 0) 0 1)) ++ ([])) ([setF (fun _ => 0) 0 1] : List (Fin 8 → Int)) (guard_yes rfl rfl) rfl rfl rfl rfl (by decide) (fun _ => by kernel_rfl) ⟨vecG (Value.int .i64) 8 (setF (fun _ => 0) 0 1), [], rfl, rfl, rfl⟩ (key := 999) rfl (by rw [hL0]; rfl) (fun p8 Gv18 Gv18le p8h => ?_)
              obtain ⟨yv11, hyv11, hr⟩ := hr
              refine WL.call0 (guard_yes rfl rfl) rfl (YC.of E22 rfl) (L_R04_Same _ _ _ _ _ _ _ hyv11) rfl (⟨(yv10h.mono Gv18le), p8h⟩) ?_
              cases yv11
              · skip
                refine WL.y0' guard_none (Y0.pickT rfl rfl) rfl ?_
                refine WL.y0' guard_none (Y0.move rfl) rfl ?_
                refine WL.skip (guard_noT rfl rfl) rfl ?_
                refine WL.skip (guard_noT rfl rfl) rfl ?_
                refine WL.skip (guard_noT rfl rfl) rfl ?_
                refine WL.skip (guard_noT rfl rfl) rfl ?_
                refine WL.skip (guard_noT rfl rfl) rfl ?_
                refine WL.skip (guard_noT rfl rfl) rfl ?_
                refine WL.skip (guard_noT rfl rfl) rfl ?_
                refine WL.skip (guard_noT rfl rfl) rfl ?_
                refine WL.y0' guard_none (Y0.pickF rfl rfl) rfl ?_
                refine WL.y0' guard_none (Y0.assign rfl) rfl ?_
                refine WL.nil ?_
                refine WE.then ?_
                refine WC.ret ?_
                replace hr : _ = r := hr
                subst hr
                exact WE.ret1 rfl rfl rfl
              · skip
                refine WL.y0' guard_none (Y0.pickT rfl rfl) rfl ?_
                refine WL.y0' guard_none (Y0.move rfl) rfl ?_
                refine WL.y0' (guard_yes rfl rfl) (Y0.build (vs := #[(0, .int .i64 1)]) (v := .agg (vecG (Value.int .i64) 8 (setF (fun _ => 0) 0 1)).toArray) rfl rfl (fun _ => by kernel_rfl)) rfl ?_
                refine WL.litR (e := 48) (r := (Rp.vec .i64 8)) (vs := #[(0, .agg (vecG (Value.int .i64) 8 (setF (fun _ => 0) 0 1)).toArray)]) (cs := (vecG (Value.int .i64) 8 (setF (fun _ => 0) 0 1)) ++ ([])) ([setF (fun _ => 0) 0 1] : List (Fin 8 → Int)) (guard_yes rfl rfl) rfl rfl rfl rfl (by decide) (fun _ => by kernel_rfl) ⟨vecG (Value.int .i64) 8 (setF (fun _ => 0) 0 1), [], rfl, rfl, rfl⟩ (key := 999) rfl (by rw [hL0]; rfl) (fun p9 Gv20 Gv20le p9h => ?_)
                refine WL.y0' (guard_yes rfl rfl) (Y0.build (vs := #[(0, .int .i64 0), (1, .int .i64 1)]) (v := .agg (vecG (Value.int .i64) 8 (setF (setF (fun _ => 0) 0 0) 1 1)).toArray) rfl rfl (fun _ => by kernel_rfl)) rfl ?_
                refine WL.litR (e := 48) (r := (Rp.vec .i64 8)) (vs := #[(0, .agg (vecG (Value.int .i64) 8 (setF (setF (fun _ => 0) 0 0) 1 1)).toArray)]) (cs := (vecG (Value.int .i64) 8 (setF (setF (fun _ => 0) 0 0) 1 1)) ++ ([])) ([setF (setF (fun _ => 0) 0 0) 1 1] : List (Fin 8 → Int)) (guard_yes rfl rfl) rfl rfl rfl rfl (by decide) (fun _ => by kernel_rfl) ⟨vecG (Value.int .i64) 8 (setF (setF (fun _ => 0) 0 0) 1 1), [], rfl, rfl, rfl⟩ (key := 999) rfl (by rw [hL0]; rfl) (fun p10 Gv21 Gv21le p10h => ?_)
                obtain ⟨yv12, hyv12, hr⟩ := hr
                refine WL.call (guard_yes rfl rfl) rfl (YC.of E25 rfl) (L_components_Meet _ _ _ _ _ _ _ hyv12) rfl (⟨(p9h.mono Gv21le), p10h⟩) (fun yv12v Gv22 Gv22le yv12post => ?_)
                obtain ⟨yv12p, yv12c, rfl, yv12h⟩ := yv12post
                refine WL.y0' (guard_yes rfl rfl) (Y0.build (vs := #[(0, .int .i64 1), (1, .int .i64 1)]) (v := .agg (vecG (Value.int .i64) 8 (setF (setF (fun _ => 0) 0 1) 1 1)).toArray) rfl rfl (fun _ => by kernel_rfl)) rfl ?_
                refine WL.litR (e := 48) (r := (Rp.vec .i64 8)) (vs := #[(0, .agg (vecG (Value.int .i64) 8 (setF (setF (fun _ => 0) 0 1) 1 1)).toArray)]) (cs := (vecG (Value.int .i64) 8 (setF (setF (fun _ => 0) 0 1) 1 1)) ++ ([])) ([setF (setF (fun _ => 0) 0 1) 1 1] : List (Fin 8 → Int)) (guard_yes rfl rfl) rfl rfl rfl rfl (by decide) (fun _ => by kernel_rfl) ⟨vecG (Value.int .i64) 8 (setF (setF (fun _ => 0) 0 1) 1 1), [], rfl, rfl, rfl⟩ (key := 999) rfl (by rw [hL0]; rfl) (fun p11 Gv23 Gv23le p11h => ?_)
                obtain ⟨yv13, hyv13, hr⟩ := hr
                refine WL.call0 (guard_yes rfl rfl) rfl (YC.of E22 rfl) (L_R04_Same _ _ _ _ _ _ _ hyv13) rfl (⟨(yv12h.mono Gv23le), p11h⟩) ?_
                refine WL.y0' guard_none (Y0.pickT rfl rfl) rfl ?_
                refine WL.y0' guard_none (Y0.assign rfl) rfl ?_
                refine WL.nil ?_
                refine WE.then ?_
                refine WC.ret ?_
                replace hr : _ = r := hr
                subst hr
                exact WE.ret1 rfl rfl rfl
    · replace hr := hr.neg hb1
      refine WL.y0' guard_none (Y0.move rfl) rfl ?_
      refine WL.skip (guard_noT rfl rfl) rfl ?_
      refine WL.skip (guard_noT rfl rfl) rfl ?_
      refine WL.skip (guard_noT rfl rfl) rfl ?_
      refine WL.skip (guard_noT rfl rfl) rfl ?_
      refine WL.skip (guard_noT rfl rfl) rfl ?_
      refine WL.y0' guard_none (Y0.pickF rfl rfl) rfl ?_
      refine WL.y0' guard_none (Y0.move rfl) rfl ?_
      refine WL.skip (guard_noT rfl rfl) rfl ?_
      refine WL.skip (guard_noT rfl rfl) rfl ?_
      refine WL.skip (guard_noT rfl rfl) rfl ?_
      refine WL.y0' guard_none (Y0.pickF rfl rfl) rfl ?_
      refine WL.y0' guard_none (Y0.move rfl) rfl ?_
      refine WL.skip (guard_noT rfl rfl) rfl ?_
      refine WL.skip (guard_noT rfl rfl) rfl ?_
      refine WL.skip (guard_noT rfl rfl) rfl ?_
      refine WL.y0' guard_none (Y0.pickF rfl rfl) rfl ?_
      refine WL.y0' guard_none (Y0.move rfl) rfl ?_
      refine WL.skip (guard_noT rfl rfl) rfl ?_
      refine WL.skip (guard_noT rfl rfl) rfl ?_
      refine WL.skip (guard_noT rfl rfl) rfl ?_
      refine WL.y0' guard_none (Y0.pickF rfl rfl) rfl ?_
      refine WL.y0' guard_none (Y0.move rfl) rfl ?_
      refine WL.skip (guard_noT rfl rfl) rfl ?_
      refine WL.skip (guard_noT rfl rfl) rfl ?_
      refine WL.skip (guard_noT rfl rfl) rfl ?_
      refine WL.skip (guard_noT rfl rfl) rfl ?_
      refine WL.skip (guard_noT rfl rfl) rfl ?_
      refine WL.y0' guard_none (Y0.pickF rfl rfl) rfl ?_
      refine WL.y0' guard_none (Y0.move rfl) rfl ?_
      refine WL.skip (guard_noT rfl rfl) rfl ?_
      refine WL.skip (guard_noT rfl rfl) rfl ?_
      refine WL.skip (guard_noT rfl rfl) rfl ?_
      refine WL.skip (guard_noT rfl rfl) rfl ?_
      refine WL.skip (guard_noT rfl rfl) rfl ?_
      refine WL.skip (guard_noT rfl rfl) rfl ?_
      refine WL.skip (guard_noT rfl rfl) rfl ?_
      refine WL.skip (guard_noT rfl rfl) rfl ?_
      refine WL.y0' guard_none (Y0.pickF rfl rfl) rfl ?_
      refine WL.y0' guard_none (Y0.assign rfl) rfl ?_
      refine WL.nil ?_
      refine WE.then ?_
      refine WC.ret ?_
      replace hr : _ = r := hr
      subst hr
      exact WE.ret1 rfl rfl rfl
theorem L_law21_vars (x1 : T_law21_Input) (x1lp : Option Addr) (x1lc : Nat) (r : Int) (hr : (law21_vars x1).Ret r) : Ctr Try.prog 12 #[.agg ([.slice x1lp x1.l.length x1lc, .int .u8 x1.n]).toArray] (fun G => SlR (Rp.vec .u8 4) G (.slice x1lp x1.l.length x1lc) x1.l) (fun G v => v = .int .i64 r) := by
  refine Ctr.enter (args := [_]) (N := 7) Try.func12 rfl rfl rfl (fun w0 G0 hL0 hpre => ?_)
  have x1lh := hpre
  refine WC.seq ?_
  refine WC.region ?_
  refine WL.box 1 guard_none rfl rfl (fun b1 => ?_)
  refine WL.y0' guard_none (Y0.assign rfl) rfl ?_
  refine WL.nil ?_
  refine WE.then ?_
  refine WC.seq ?_
  refine WC.region ?_
  refine WL.y0' guard_none (Y0.fieldAddr Try.underlying25 rfl (fun _ => by kernel_rfl) rfl) rfl ?_
  refine WL.y0' guard_none (Y0.loadL 1 sc5 rfl rfl rfl) rfl ?_
  refine WL.y0' guard_none (Y0.rem rfl rfl (by decide)) rfl ?_
  refine WL.y0' guard_none (Y0.conv Try.underlying5 Try.underlying3 rfl) rfl ?_
  refine WL.y0' guard_none (Y0.assign rfl) rfl ?_
  refine WL.nil ?_
  refine WE.then ?_
  refine WC.ret ?_
  replace hr : _ = r := hr
  subst hr
  exact WE.ret1 rfl rfl rfl
theorem L_R18_Made (x1 : (List (Fin 4 → Int))) (n1 : Int) (most1 : Int) (top1 : Int) (x1p : Option Addr) (x1c : Nat) (r : (List (Fin 8 → Int))) (hr : (R18_Made x1 n1 most1 top1).Ret r) : Ctr Try.prog 13 #[.slice x1p x1.length x1c, .int .i64 n1, .int .i64 most1, .int .i64 top1] (fun G => SlR (Rp.vec .u8 4) G (.slice x1p x1.length x1c) x1) (fun G v => ∃ zp zc, v = .slice zp r.length zc ∧ SlR (Rp.vec .i64 8) G (.slice zp r.length zc) r) := by
  refine Ctr.enter (args := [_, _, _, _]) (N := 52) Try.func13 rfl rfl rfl (fun w0 G0 hL0 hpre => ?_)
  have x1h := hpre
  refine WC.seq ?_
  refine WC.region ?_
  refine WL.y0' guard_none (Y0.assign rfl) rfl ?_
  refine WL.nil ?_
  refine WE.then ?_
  refine WC.seq ?_
  refine WC.region ?_
  refine WL.litR (e := 48) (r := (Rp.vec .i64 8)) (vs := #[]) (cs := []) ([] : List (Fin 8 → Int)) guard_none rfl rfl rfl rfl (by decide) (fun _ => by kernel_rfl) (rfl) (key := 999) rfl (by rw [hL0]; rfl) (fun p1 Gv1 Gv1le p1h => ?_)
  refine WL.y0' guard_none (Y0.assign rfl) rfl ?_
  refine WL.nil ?_
  refine WE.then ?_
  refine WC.seq ?_
  refine WC.seq ?_
  refine WC.region ?_
  refine WL.y0' guard_none (Y0.assign rfl) rfl ?_
  refine WL.nil ?_
  refine WE.then ?_
  refine WC.meetH (fun (gx : (List (Fin 8 → Int)) × Option Addr × Nat × Option Ow × Mem) => match gx with | ⟨out1, out1p, out1c, out1tk, Gm1⟩ => [(9, .slice out1p out1.length out1c)]) (fun (gx : (List (Fin 8 → Int)) × Option Addr × Nat × Option Ow × Mem) => match gx with | ⟨out1, out1p, out1c, out1tk, Gm1⟩ => Mem.le Gv1 Gm1 ∧ SlR (Rp.vec .i64 8) Gm1 (.slice out1p out1.length out1c) out1 ∧ Tok 8 48 (.slice out1p out1.length out1c) out1.length out1tk ∧ (R18_Made_k1 out1).Ret r) (fun (gx : (List (Fin 8 → Int)) × Option Addr × Nat × Option Ow × Mem) => match gx with | ⟨out1, out1p, out1c, out1tk, Gm1⟩ => St w0 G0 Gm1 [(1009, out1tk)]) ?_ ?_
  · refine WC.block ?_
    let Phi1 : (((List (Fin 8 → Int)))) → Prop := fun oo => ((fun ov => match ov with | out1 => R18_Made_k1 out1 : (((List (Fin 8 → Int)))) → Comp ((List (Fin 8 → Int)))) oo).wp (fun a => a = r)
    replace hr : (Comp.loop _ _).wp Phi1 := hr
    refine WC.loopR (Φ := Phi1) (fun (gx : (List (Fin 8 → Int)) × Option Addr × Nat × Option Ow × Int × Mem) => match gx with | ⟨out2, out2p, out2c, out2tk, i1, Gm2⟩ => ((out2, i1) : (List (Fin 8 → Int)) × Int)) (fun (gx : (List (Fin 8 → Int)) × Option Addr × Nat × Option Ow × Int × Mem) => match gx with | ⟨out2, out2p, out2c, out2tk, i1, Gm2⟩ => [(0, .slice x1p x1.length x1c), (1, .int .i64 n1), (2, .int .i64 most1), (3, .int .i64 top1), (9, .slice out2p out2.length out2c), (10, .int .i64 i1)]) (fun (gx : (List (Fin 8 → Int)) × Option Addr × Nat × Option Ow × Int × Mem) => match gx with | ⟨out2, out2p, out2c, out2tk, i1, Gm2⟩ => Mem.le Gv1 Gm2 ∧ SlR (Rp.vec .i64 8) Gm2 (.slice out2p out2.length out2c) out2 ∧ Tok 8 48 (.slice out2p out2.length out2c) out2.length out2tk) (fun (gx : (List (Fin 8 → Int)) × Option Addr × Nat × Option Ow × Int × Mem) => match gx with | ⟨out2, out2p, out2c, out2tk, i1, Gm2⟩ => St w0 G0 Gm2 [(1009, out2tk)]) ⟨[], p1, 0, none, 0, Gv1⟩ hr (Fr.sub_cons rfl (Fr.sub_cons rfl (Fr.sub_cons rfl (Fr.sub_cons rfl (Fr.sub_cons rfl (Fr.sub_cons rfl (Fr.sub_nil _))))))) ⟨(Mem.le_refl _), p1h, Tok.full⟩ ?_ ?_
    · intro w hs
      exact hs.weaken (Lo.sub_no (Lo.sub_nil _))
    · intro Aq1 gx hx hr
      obtain ⟨out2, out2p, out2c, out2tk, i1, Gm2⟩ := gx
      obtain ⟨Gm2le, out2h, out2ht⟩ := hx
      refine WC.seq ?_
      refine WC.seq ?_
      refine WC.region ?_
      refine WL.y0' guard_none (Y0.move rfl) rfl ?_
      refine WL.y0' guard_none (Y0.move rfl) rfl ?_
      refine WL.y0' guard_none (Y0.lenR Try.underlying23 (x1h.mono (Mem.le_trans Gv1le Gm2le)) rfl) rfl ?_
      refine WL.caseY0 (p := i1 < (x1.length : Int)) guard_none (Y0.lss rfl rfl) rfl (fun hb1 => ?_) (fun hb1 => ?_)
      · replace hr := hr.pos hb1
        refine WL.y0' guard_none (Y0.move rfl) rfl ?_
        refine WL.y0' (guard_yes rfl rfl) (Y0.move rfl) rfl ?_
        refine WL.y0' (guard_yes rfl rfl) (Y0.move rfl) rfl ?_
        refine WL.y0' (guard_yes rfl rfl) (Y0.lss rfl rfl) rfl ?_
        refine WL.y0' guard_none (Y0.pickT rfl rfl) rfl ?_
        refine WL.nil ?_
        refine WE.then ?_
        refine WC.condD (p := i1 < most1) rfl (fun hc1 => ?_) (fun hc1 => ?_)
        · replace hr := hr.pos hc1
          refine WC.skip ?_
          refine WE.then ?_
          refine WC.seq ?_
          refine WC.block ?_
          refine WC.seq ?_
          refine WC.region ?_
          refine WL.y0' guard_none (Y0.build (vs := #[]) (v := .agg (vecG (Value.int .i64) 8 (fun _ => 0)).toArray) rfl rfl (fun _ => by kernel_rfl)) rfl ?_
          refine WL.alloc 11 guard_none z48 rfl (fun b1 => ?_)
          refine WL.storeLA 11 guard_none sz48 rfl rfl rfl (vecG_size _ _ _) (vecG_size _ _ _) (fun u hu => Rp.one (Rp.vec .i64 8) (G := Gm2) (x := (fun _ => 0)) (cs := vecG (Value.int .i64) 8 (fun _ => 0)) rfl u (by simpa using hu)) ?_
          refine WL.nil ?_
          refine WE.then ?_
          refine WC.seq ?_
          refine WC.seq ?_
          refine WC.region ?_
          refine WL.y0' guard_none (Y0.assign rfl) rfl ?_
          refine WL.nil ?_
          refine WE.then ?_
          refine WC.meetH (fun (gx : (Fin 8 → Int) × Mem) => match gx with | ⟨bx1, Gm3⟩ => [(0, .slice x1p x1.length x1c), (1, .int .i64 n1), (2, .int .i64 most1), (3, .int .i64 top1), (9, .slice out2p out2.length out2c), (10, .int .i64 i1), (11, .pointer (some ⟨b1, 0, none⟩))]) (fun (gx : (Fin 8 → Int) × Mem) => match gx with | ⟨bx1, Gm3⟩ => Mem.le Gm2 Gm3 ∧ (R18_Made_k3 out2 i1 bx1).wp (Out Aq1 Phi1)) (fun (gx : (Fin 8 → Int) × Mem) => match gx with | ⟨bx1, Gm3⟩ => St w0 G0 Gm3 [(11, some ⟨b1, .cells (vecG (Value.int .i64) 8 bx1).toArray 48 (0, 0), 0⟩), (1009, out2tk)]) ?_ ?_
          · refine WC.block ?_
            let Phi2 : (Fin 8 → Int) → Prop := fun oo => ((fun ov => match ov with | bx1 => R18_Made_k3 out2 i1 bx1 : (Fin 8 → Int) → Comp (((List (Fin 8 → Int)) × Int) ⊕ (((List (Fin 8 → Int)))))) oo).wp (Out Aq1 Phi1)
            replace hr : (Comp.loop _ _).wp Phi2 := hr
            refine WC.loopR (Φ := Phi2) (fun (gx : Int × (Fin 8 → Int) × Mem) => match gx with | ⟨k1, bx2, Gm4⟩ => ((k1, bx2) : Int × (Fin 8 → Int))) (fun (gx : Int × (Fin 8 → Int) × Mem) => match gx with | ⟨k1, bx2, Gm4⟩ => [(0, .slice x1p x1.length x1c), (1, .int .i64 n1), (2, .int .i64 most1), (3, .int .i64 top1), (9, .slice out2p out2.length out2c), (10, .int .i64 i1), (11, .pointer (some ⟨b1, 0, none⟩)), (12, .int .i64 k1)]) (fun (gx : Int × (Fin 8 → Int) × Mem) => match gx with | ⟨k1, bx2, Gm4⟩ => Mem.le Gm2 Gm4) (fun (gx : Int × (Fin 8 → Int) × Mem) => match gx with | ⟨k1, bx2, Gm4⟩ => St w0 G0 Gm4 [(11, some ⟨b1, .cells (vecG (Value.int .i64) 8 bx2).toArray 48 (0, 0), 0⟩), (1009, out2tk)]) ⟨0, (fun _ => 0), Gm2⟩ hr (Fr.sub_cons rfl (Fr.sub_cons rfl (Fr.sub_cons rfl (Fr.sub_cons rfl (Fr.sub_cons rfl (Fr.sub_cons rfl (Fr.sub_cons rfl (Fr.sub_cons rfl (Fr.sub_nil _))))))))) (Mem.le_refl _) ?_ ?_
            · intro w hs
              exact hs.weaken (Lo.sub_cons rfl (Lo.sub_cons rfl (Lo.sub_nil _)))
            · intro Aq2 gx hx hr
              obtain ⟨k1, bx2, Gm4⟩ := gx
              have Gm4le := hx
              refine WC.seq ?_
              refine WC.seq ?_
              refine WC.region ?_
              refine WL.y0' guard_none (Y0.move rfl) rfl ?_
              refine WL.y0' guard_none (Y0.move rfl) rfl ?_
              refine WL.caseY0 (p := k1 < n1) guard_none (Y0.lss rfl rfl) rfl (fun hb2 => ?_) (fun hb2 => ?_)
              · replace hr := hr.pos hb2
                refine WL.y0' guard_none (Y0.move rfl) rfl ?_
                refine WL.y0' (guard_yes rfl rfl) (Y0.move rfl) rfl ?_
                refine WL.y0' (guard_yes rfl rfl) (Y0.lss rfl rfl) rfl ?_
                refine WL.y0' guard_none (Y0.pickT rfl rfl) rfl ?_
                refine WL.nil ?_
                refine WE.then ?_
                refine WC.condD (p := k1 < 4) rfl (fun hc2 => ?_) (fun hc2 => ?_)
                · replace hr := hr.pos hc2
                  refine WC.skip ?_
                  refine WE.then ?_
                  refine WC.seq ?_
                  refine WC.block ?_
                  refine WC.region ?_
                  refine WL.y0' guard_none (Y0.move rfl) rfl ?_
                  refine WL.y0' guard_none (Y0.move rfl) rfl ?_
                  refine WL.y0' guard_none (Y0.move rfl) rfl ?_
                  refine WL.y0' guard_none (Y0.move rfl) rfl ?_
                  obtain ⟨x2, hx2, hr⟩ := hr
                  refine WL.y0' guard_none (Y0.idxR Try.underlying23 sz65 (x1h.mono (Mem.le_trans (Mem.le_trans Gv1le Gm2le) Gm4le)) rfl rfl hx2) rfl ?_
                  obtain ⟨hi1, hr⟩ := hr
                  refine WL.y0' guard_none (Y0.idxA Try.underlying65 sz5 rfl rfl hi1) rfl ?_
                  refine WL.y0' guard_none (Y0.loadG sc5 rfl (AtK.vecAt (At.mono (SlR.at x1h hx2) (Mem.le_trans (Mem.le_trans Gv1le Gm2le) Gm4le)) hi1)) rfl ?_
                  refine WL.y0' guard_none (Y0.conv Try.underlying5 Try.underlying3 rfl) rfl ?_
                  refine WL.y0' guard_none (Y0.move rfl) rfl ?_
                  refine WL.y0' guard_none (Y0.add rfl rfl) rfl ?_
                  obtain ⟨hd1, hr⟩ := hr
                  refine WL.y0' guard_none (Y0.rem rfl rfl hd1) rfl ?_
                  obtain ⟨hi2, hr⟩ := hr
                  refine WL.y0' guard_none (Y0.idxA0 Try.underlying48 sz3 rfl rfl hi2) rfl ?_
                  refine WL.storeL 11 (vecG (Value.int .i64) 8 (setF bx2 k1.toNat (Int.tmod (IntKind.i64.wrap (getF x2 k1)) (IntKind.i64.wrap (top1 + 1))))).toArray guard_none sz3 rfl rfl rfl (by first | (rw [vecG_size]; omega) | (show _ < (vecG _ _ _).toArray.size; rw [vecG_size]; omega)) rfl (vecG_put _ _ _ _ _) ?_
                  refine WL.nil ?_
                  refine WE.inBlock ?_
                  refine WE.then ?_
                  refine WC.region ?_
                  refine WL.y0' guard_none (Y0.move rfl) rfl ?_
                  refine WL.y0' guard_none (Y0.add rfl rfl) rfl ?_
                  refine WL.y0' guard_none (Y0.assign rfl) rfl ?_
                  refine WL.nil ?_
                  refine WE.backR ⟨IntKind.i64.wrap (k1 + 1), setF bx2 k1.toNat (Int.tmod (IntKind.i64.wrap (getF x2 k1)) (IntKind.i64.wrap (top1 + 1))), Gm4⟩ hr Gm4le (Fr.sub_cons rfl (Fr.sub_cons rfl (Fr.sub_cons rfl (Fr.sub_cons rfl (Fr.sub_cons rfl (Fr.sub_cons rfl (Fr.sub_cons rfl (Fr.sub_cons rfl (Fr.sub_nil _))))))))) ?_
                  · intro w hs
                    exact hs.weaken (Lo.sub_cons rfl (Lo.sub_cons rfl (Lo.sub_nil _)))
                · replace hr := hr.neg hc2
                  refine WC.exit ?_
                  refine WE.thenExit ?_
                  refine WE.thenExit ?_
                  refine WE.exitHere ?_
                  refine WE.endH ⟨bx2, Gm4⟩ ⟨Gm4le, hr⟩ (Fr.sub_cons rfl (Fr.sub_cons rfl (Fr.sub_cons rfl (Fr.sub_cons rfl (Fr.sub_cons rfl (Fr.sub_cons rfl (Fr.sub_cons rfl (Fr.sub_nil _)))))))) ?_
                  · intro w hs
                    exact hs.weaken (Lo.sub_cons rfl (Lo.sub_cons rfl (Lo.sub_nil _)))
              · replace hr := hr.neg hb2
                refine WL.y0' guard_none (Y0.move rfl) rfl ?_
                refine WL.skip (guard_noT rfl rfl) rfl ?_
                refine WL.skip (guard_noT rfl rfl) rfl ?_
                refine WL.y0' guard_none (Y0.pickF rfl rfl) rfl ?_
                refine WL.nil ?_
                refine WE.then ?_
                refine WC.condF rfl ?_
                refine WC.exit ?_
                refine WE.thenExit ?_
                refine WE.thenExit ?_
                refine WE.exitHere ?_
                refine WE.endH ⟨bx2, Gm4⟩ ⟨Gm4le, hr⟩ (Fr.sub_cons rfl (Fr.sub_cons rfl (Fr.sub_cons rfl (Fr.sub_cons rfl (Fr.sub_cons rfl (Fr.sub_cons rfl (Fr.sub_cons rfl (Fr.sub_nil _)))))))) ?_
                · intro w hs
                  exact hs.weaken (Lo.sub_cons rfl (Lo.sub_cons rfl (Lo.sub_nil _)))
          · rintro ⟨bx1, Gm3⟩ ⟨Gm3le, hr⟩
            refine WE.then ?_
            refine WC.region ?_
            refine WL.y0' guard_none (Y0.move rfl) rfl ?_
            refine WL.y0' guard_none (Y0.loadLA 11 ag48 rfl rfl (vecG_size _ _ _)) rfl ?_
            refine WL.litR (e := 48) (r := (Rp.vec .i64 8)) (vs := #[(0, .agg (vecG (Value.int .i64) 8 bx1).toArray)]) (cs := (vecG (Value.int .i64) 8 bx1) ++ ([])) ([bx1] : List (Fin 8 → Int)) guard_none rfl rfl rfl rfl (by decide) (fun _ => by kernel_rfl) ⟨vecG (Value.int .i64) 8 bx1, [], rfl, rfl, rfl⟩ (key := 999) rfl (by rw [hL0]; rfl) (fun p2 Gv2 Gv2le p2h => ?_)
            obtain ⟨hsm1, hr⟩ := hr
            refine WL.appendR (r := (Rp.vec .i64 8)) 1009 guard_none rfl Try.underlying28 el48 rfl (by decide) rfl rfl (out2h.mono (Mem.le_trans Gm3le Gv2le)) rfl (by rw [hL0]; rfl) out2ht p2h hsm1 (fun p3 p3c p3tk Gv3 Gv3le p3h p3ht => ?_)
            refine WL.y0' guard_none (Y0.assign rfl) rfl ?_
            refine WL.nil ?_
            refine WE.inBlock ?_
            refine WE.then ?_
            refine WC.region ?_
            refine WL.y0' guard_none (Y0.move rfl) rfl ?_
            refine WL.y0' guard_none (Y0.add rfl rfl) rfl ?_
            refine WL.y0' guard_none (Y0.assign rfl) rfl ?_
            refine WL.nil ?_
            refine WE.backR ⟨(out2 ++ [bx1]), p3, p3c, p3tk, IntKind.i64.wrap (i1 + 1), Gv3⟩ hr ⟨(Mem.le_trans (Mem.le_trans (Mem.le_trans Gm2le Gm3le) Gv2le) Gv3le), p3h, p3ht⟩ (Fr.sub_cons rfl (Fr.sub_cons rfl (Fr.sub_cons rfl (Fr.sub_cons rfl (Fr.sub_cons rfl (Fr.sub_cons rfl (Fr.sub_nil _))))))) ?_
            · intro w hs
              exact hs.weaken (Lo.sub_cons rfl (Lo.sub_nil _))
        · replace hr := hr.neg hc1
          refine WC.exit ?_
          refine WE.thenExit ?_
          refine WE.thenExit ?_
          refine WE.exitHere ?_
          refine WE.endH ⟨out2, out2p, out2c, out2tk, Gm2⟩ ⟨Gm2le, out2h, out2ht, hr⟩ (Fr.sub_cons rfl (Fr.sub_nil _)) ?_
          · intro w hs
            exact hs.weaken (Lo.sub_cons rfl (Lo.sub_nil _))
      · replace hr := hr.neg hb1
        refine WL.y0' guard_none (Y0.move rfl) rfl ?_
        refine WL.skip (guard_noT rfl rfl) rfl ?_
        refine WL.skip (guard_noT rfl rfl) rfl ?_
        refine WL.skip (guard_noT rfl rfl) rfl ?_
        refine WL.y0' guard_none (Y0.pickF rfl rfl) rfl ?_
        refine WL.nil ?_
        refine WE.then ?_
        refine WC.condF rfl ?_
        refine WC.exit ?_
        refine WE.thenExit ?_
        refine WE.thenExit ?_
        refine WE.exitHere ?_
        refine WE.endH ⟨out2, out2p, out2c, out2tk, Gm2⟩ ⟨Gm2le, out2h, out2ht, hr⟩ (Fr.sub_cons rfl (Fr.sub_nil _)) ?_
        · intro w hs
          exact hs.weaken (Lo.sub_cons rfl (Lo.sub_nil _))
  · rintro ⟨out1, out1p, out1c, out1tk, Gm1⟩ ⟨Gm1le, out1h, out1ht, hr⟩
    refine WE.then ?_
    refine WC.seq ?_
    refine WC.region ?_
    refine WL.y0' guard_none (Y0.move rfl) rfl ?_
    refine WL.y0' guard_none (Y0.assign rfl) rfl ?_
    refine WL.nil ?_
    refine WE.then ?_
    refine WC.ret ?_
    replace hr : _ = r := hr
    subst hr
    exact WE.ret1 rfl rfl ⟨_, _, rfl, out1h⟩
theorem L_R04_Valid (m1 : (Fin 8 → Int)) (r : Bool) (hr : (R04_Valid m1).Ret r) : Ctr Try.prog 34 #[.agg (vecG (Value.int .i64) 8 m1).toArray] (fun G => True) (fun G v => v = .bool r) := by
  refine Ctr.enter (args := [_]) (N := 18) Try.func34 rfl rfl rfl (fun w0 G0 hL0 hpre => ?_)
  refine WC.seq ?_
  refine WC.region ?_
  refine WL.box 1 guard_none rfl rfl (fun b1 => ?_)
  refine WL.y0' guard_none (Y0.assign rfl) rfl ?_
  refine WL.nil ?_
  refine WE.then ?_
  refine WC.seq ?_
  refine WC.seq ?_
  refine WC.region ?_
  refine WL.y0' guard_none (Y0.assign rfl) rfl ?_
  refine WL.nil ?_
  refine WE.then ?_
  refine WC.meetH (fun (gx : Mem) => match gx with | Gm1 => []) (fun (gx : Mem) => match gx with | Gm1 => Mem.le G0 Gm1 ∧ (R04_Valid_k1).Ret r) (fun (gx : Mem) => match gx with | Gm1 => St w0 G0 Gm1 []) ?_ ?_
  · refine WC.block ?_
    let Phi1 : (Bool ⊕ Unit) → Prop := fun oo => ((fun ov => match ov with | .inl rv1 => Comp.ret rv1 | .inr () => R04_Valid_k1 : (Bool ⊕ Unit) → Comp Bool) oo).wp (fun a => a = r)
    replace hr : (Comp.loop _ _).wp Phi1 := hr
    refine WC.loopR (Φ := Phi1) (fun (gx : Int × Mem) => match gx with | ⟨i1, Gm2⟩ => (i1 : Int)) (fun (gx : Int × Mem) => match gx with | ⟨i1, Gm2⟩ => [(1, .pointer (some ⟨b1, 0, none⟩)), (3, .int .i64 i1)]) (fun (gx : Int × Mem) => match gx with | ⟨i1, Gm2⟩ => Mem.le G0 Gm2) (fun (gx : Int × Mem) => match gx with | ⟨i1, Gm2⟩ => St w0 G0 Gm2 [(1, some ⟨b1, .cells (vecG (Value.int .i64) 8 m1).toArray 48 (0, 0), 0⟩)]) ⟨0, G0⟩ hr (Fr.sub_cons rfl (Fr.sub_cons rfl (Fr.sub_nil _))) (Mem.le_refl _) ?_ ?_
    · intro w hs
      exact hs.weaken (Lo.sub_cons rfl (Lo.sub_nil _))
    · intro Aq1 gx hx hr
      obtain ⟨i1, Gm2⟩ := gx
      have Gm2le := hx
      refine WC.seq ?_
      refine WC.seq ?_
      refine WC.region ?_
      refine WL.y0' guard_none (Y0.move rfl) rfl ?_
      refine WL.y0' guard_none (Y0.lss rfl rfl) rfl ?_
      refine WL.nil ?_
      refine WE.then ?_
      refine WC.condD (p := i1 < 8) rfl (fun hc1 => ?_) (fun hc1 => ?_)
      · replace hr := hr.pos hc1
        refine WC.skip ?_
        refine WE.then ?_
        refine WC.seq ?_
        refine WC.block ?_
        refine WC.seq ?_
        refine WC.region ?_
        refine WL.y0' guard_none (Y0.move rfl) rfl ?_
        obtain ⟨hi1, hr⟩ := hr
        refine WL.y0' guard_none (Y0.idxA0 Try.underlying48 sz3 rfl rfl hi1) rfl ?_
        refine WL.y0' guard_none (Y0.loadL 1 sc3 rfl rfl (vecG_at _ _ _ hi1)) rfl ?_
        refine WL.caseY0 (p := (getF m1 i1) < 0) guard_none (Y0.lss rfl rfl) rfl (fun hb1 => ?_) (fun hb1 => ?_)
        · replace hr := hr.pos hb1
          refine WL.y0' guard_none (Y0.move rfl) rfl ?_
          refine WL.skip (guard_noF rfl rfl) rfl ?_
          refine WL.skip (guard_noF rfl rfl) rfl ?_
          refine WL.skip (guard_noF rfl rfl) rfl ?_
          refine WL.skip (guard_noF rfl rfl) rfl ?_
          refine WL.y0' guard_none (Y0.pickT rfl rfl) rfl ?_
          refine WL.nil ?_
          refine WE.then ?_
          refine WC.condT rfl ?_
          refine WC.seq ?_
          refine WC.region ?_
          refine WL.y0' guard_none (Y0.assign rfl) rfl ?_
          refine WL.nil ?_
          refine WE.then ?_
          refine WC.ret ?_
          replace hr : _ = r := hr
          refine WE.inBlockRet ?_
          refine WE.thenRet ?_
          refine WE.thenRet ?_
          refine WE.inBlockRet ?_
          refine WE.endRet ?_
          refine WE.thenRet ?_
          subst hr
          exact WE.ret1 rfl rfl rfl
        · replace hr := hr.neg hb1
          refine WL.y0' guard_none (Y0.move rfl) rfl ?_
          refine WL.y0' (guard_yes rfl rfl) (Y0.move rfl) rfl ?_
          obtain ⟨hi2, hr⟩ := hr
          refine WL.y0' (guard_yes rfl rfl) (Y0.idxA0 Try.underlying48 sz3 rfl rfl hi2) rfl ?_
          refine WL.y0' (guard_yes rfl rfl) (Y0.loadL 1 sc3 rfl rfl (vecG_at _ _ _ hi2)) rfl ?_
          refine WL.y0' (guard_yes rfl rfl) (Y0.gtr rfl rfl) rfl ?_
          refine WL.y0' guard_none (Y0.pickF rfl rfl) rfl ?_
          refine WL.nil ?_
          refine WE.then ?_
          refine WC.condD (p := 65535 < (getF m1 i1)) rfl (fun hc2 => ?_) (fun hc2 => ?_)
          · replace hr := hr.pos hc2
            refine WC.seq ?_
            refine WC.region ?_
            refine WL.y0' guard_none (Y0.assign rfl) rfl ?_
            refine WL.nil ?_
            refine WE.then ?_
            refine WC.ret ?_
            replace hr : _ = r := hr
            refine WE.inBlockRet ?_
            refine WE.thenRet ?_
            refine WE.thenRet ?_
            refine WE.inBlockRet ?_
            refine WE.endRet ?_
            refine WE.thenRet ?_
            subst hr
            exact WE.ret1 rfl rfl rfl
          · replace hr := hr.neg hc2
            refine WC.skip ?_
            refine WE.inBlock ?_
            refine WE.then ?_
            refine WC.region ?_
            refine WL.y0' guard_none (Y0.move rfl) rfl ?_
            refine WL.y0' guard_none (Y0.add rfl rfl) rfl ?_
            refine WL.y0' guard_none (Y0.assign rfl) rfl ?_
            refine WL.nil ?_
            refine WE.backR ⟨IntKind.i64.wrap (i1 + 1), Gm2⟩ hr Gm2le (Fr.sub_cons rfl (Fr.sub_cons rfl (Fr.sub_nil _))) ?_
            · intro w hs
              exact hs.weaken (Lo.sub_cons rfl (Lo.sub_nil _))
      · replace hr := hr.neg hc1
        refine WC.exit ?_
        refine WE.thenExit ?_
        refine WE.thenExit ?_
        refine WE.exitHere ?_
        refine WE.endH Gm2 ⟨Gm2le, hr⟩ (Fr.sub_nil _) ?_
        · intro w hs
          exact hs.weaken (Lo.sub_nil _)
  · rintro Gm1 ⟨Gm1le, hr⟩
    refine WE.then ?_
    refine WC.seq ?_
    refine WC.region ?_
    refine WL.y0' guard_none (Y0.assign rfl) rfl ?_
    refine WL.nil ?_
    refine WE.then ?_
    refine WC.ret ?_
    replace hr : _ = r := hr
    subst hr
    exact WE.ret1 rfl rfl rfl
theorem L_R04_Bit (i1 : Int) (r : Int) (hr : (R04_Bit i1).Ret r) : Ctr Try.prog 61 #[.int .i64 i1] (fun G => True) (fun G v => v = .int .u8 r) := by
  refine Ctr.enter (args := [_]) (N := 14) Try.func61 rfl rfl rfl (fun w0 G0 hL0 hpre => ?_)
  refine WC.seq ?_
  refine WC.region ?_
  refine WL.y0' guard_none (Y0.assign rfl) rfl ?_
  refine WL.nil ?_
  refine WE.then ?_
  refine WC.seq ?_
  refine WC.region ?_
  refine WL.y0' guard_none (Y0.assign rfl) rfl ?_
  refine WL.nil ?_
  refine WE.then ?_
  refine WC.seq ?_
  refine WC.seq ?_
  refine WC.region ?_
  refine WL.y0' guard_none (Y0.assign rfl) rfl ?_
  refine WL.nil ?_
  refine WE.then ?_
  refine WC.meetH (fun (gx : Int × Mem) => match gx with | ⟨n1, Gm1⟩ => [(3, .int .i64 n1)]) (fun (gx : Int × Mem) => match gx with | ⟨n1, Gm1⟩ => Mem.le G0 Gm1 ∧ (R04_Bit_k1 n1).Ret r) (fun (gx : Int × Mem) => match gx with | ⟨n1, Gm1⟩ => St w0 G0 Gm1 []) ?_ ?_
  · refine WC.block ?_
    let Phi1 : Int → Prop := fun oo => ((fun ov => match ov with | n1 => R04_Bit_k1 n1 : Int → Comp Int) oo).wp (fun a => a = r)
    replace hr : (Comp.loop _ _).wp Phi1 := hr
    refine WC.loopR (Φ := Phi1) (fun (gx : Int × Int × Mem) => match gx with | ⟨n2, k1, Gm2⟩ => ((n2, k1) : Int × Int)) (fun (gx : Int × Int × Mem) => match gx with | ⟨n2, k1, Gm2⟩ => [(0, .int .i64 i1), (3, .int .i64 n2), (4, .int .i64 k1)]) (fun (gx : Int × Int × Mem) => match gx with | ⟨n2, k1, Gm2⟩ => Mem.le G0 Gm2) (fun (gx : Int × Int × Mem) => match gx with | ⟨n2, k1, Gm2⟩ => St w0 G0 Gm2 []) ⟨1, 0, G0⟩ hr (Fr.sub_cons rfl (Fr.sub_cons rfl (Fr.sub_cons rfl (Fr.sub_nil _)))) (Mem.le_refl _) ?_ ?_
    · intro w hs
      exact hs.weaken (Lo.sub_nil _)
    · intro Aq1 gx hx hr
      obtain ⟨n2, k1, Gm2⟩ := gx
      have Gm2le := hx
      refine WC.seq ?_
      refine WC.seq ?_
      refine WC.region ?_
      refine WL.y0' guard_none (Y0.move rfl) rfl ?_
      refine WL.y0' guard_none (Y0.move rfl) rfl ?_
      refine WL.y0' guard_none (Y0.lss rfl rfl) rfl ?_
      refine WL.nil ?_
      refine WE.then ?_
      refine WC.condD (p := k1 < i1) rfl (fun hc1 => ?_) (fun hc1 => ?_)
      · replace hr := hr.pos hc1
        refine WC.skip ?_
        refine WE.then ?_
        refine WC.seq ?_
        refine WC.block ?_
        refine WC.region ?_
        refine WL.y0' guard_none (Y0.move rfl) rfl ?_
        refine WL.y0' guard_none (Y0.mul rfl rfl) rfl ?_
        refine WL.y0' guard_none (Y0.assign rfl) rfl ?_
        refine WL.nil ?_
        refine WE.inBlock ?_
        refine WE.then ?_
        refine WC.region ?_
        refine WL.y0' guard_none (Y0.move rfl) rfl ?_
        refine WL.y0' guard_none (Y0.add rfl rfl) rfl ?_
        refine WL.y0' guard_none (Y0.assign rfl) rfl ?_
        refine WL.nil ?_
        refine WE.backR ⟨IntKind.i64.wrap (2 * n2), IntKind.i64.wrap (k1 + 1), Gm2⟩ hr Gm2le (Fr.sub_cons rfl (Fr.sub_cons rfl (Fr.sub_cons rfl (Fr.sub_nil _)))) ?_
        · intro w hs
          exact hs.weaken (Lo.sub_nil _)
      · replace hr := hr.neg hc1
        refine WC.exit ?_
        refine WE.thenExit ?_
        refine WE.thenExit ?_
        refine WE.exitHere ?_
        refine WE.endH ⟨n2, Gm2⟩ ⟨Gm2le, hr⟩ (Fr.sub_cons rfl (Fr.sub_nil _)) ?_
        · intro w hs
          exact hs.weaken (Lo.sub_nil _)
  · rintro ⟨n1, Gm1⟩ ⟨Gm1le, hr⟩
    refine WE.then ?_
    refine WC.seq ?_
    refine WC.region ?_
    refine WL.y0' guard_none (Y0.move rfl) rfl ?_
    refine WL.y0' guard_none (Y0.conv Try.underlying3 Try.underlying5 rfl) rfl ?_
    refine WL.y0' guard_none (Y0.assign rfl) rfl ?_
    refine WL.nil ?_
    refine WE.then ?_
    refine WC.ret ?_
    replace hr : _ = r := hr
    subst hr
    exact WE.ret1 rfl rfl rfl
theorem L_R04_Support (m1 : (Fin 8 → Int)) (r : Int) (hr : (R04_Support m1).Ret r) : Ctr Try.prog 39 #[.agg (vecG (Value.int .i64) 8 m1).toArray] (fun G => True) (fun G v => v = .int .u8 r) := by
  refine Ctr.enter (args := [_]) (N := 18) Try.func39 rfl rfl rfl (fun w0 G0 hL0 hpre => ?_)
  refine WC.seq ?_
  refine WC.region ?_
  refine WL.box 1 guard_none rfl rfl (fun b1 => ?_)
  refine WL.y0' guard_none (Y0.assign rfl) rfl ?_
  refine WL.nil ?_
  refine WE.then ?_
  refine WC.seq ?_
  refine WC.region ?_
  refine WL.y0' guard_none (Y0.assign rfl) rfl ?_
  refine WL.nil ?_
  refine WE.then ?_
  refine WC.seq ?_
  refine WC.seq ?_
  refine WC.region ?_
  refine WL.y0' guard_none (Y0.assign rfl) rfl ?_
  refine WL.nil ?_
  refine WE.then ?_
  refine WC.meetH (fun (gx : Int × Mem) => match gx with | ⟨n1, Gm1⟩ => [(3, .int .u8 n1)]) (fun (gx : Int × Mem) => match gx with | ⟨n1, Gm1⟩ => Mem.le G0 Gm1 ∧ (R04_Support_k1 n1).Ret r) (fun (gx : Int × Mem) => match gx with | ⟨n1, Gm1⟩ => St w0 G0 Gm1 []) ?_ ?_
  · refine WC.block ?_
    let Phi1 : Int → Prop := fun oo => ((fun ov => match ov with | n1 => R04_Support_k1 n1 : Int → Comp Int) oo).wp (fun a => a = r)
    replace hr : (Comp.loop _ _).wp Phi1 := hr
    refine WC.loopR (Φ := Phi1) (fun (gx : Int × Int × Mem) => match gx with | ⟨n2, i1, Gm2⟩ => ((n2, i1) : Int × Int)) (fun (gx : Int × Int × Mem) => match gx with | ⟨n2, i1, Gm2⟩ => [(1, .pointer (some ⟨b1, 0, none⟩)), (3, .int .u8 n2), (4, .int .i64 i1)]) (fun (gx : Int × Int × Mem) => match gx with | ⟨n2, i1, Gm2⟩ => Mem.le G0 Gm2) (fun (gx : Int × Int × Mem) => match gx with | ⟨n2, i1, Gm2⟩ => St w0 G0 Gm2 [(1, some ⟨b1, .cells (vecG (Value.int .i64) 8 m1).toArray 48 (0, 0), 0⟩)]) ⟨0, 0, G0⟩ hr (Fr.sub_cons rfl (Fr.sub_cons rfl (Fr.sub_cons rfl (Fr.sub_nil _)))) (Mem.le_refl _) ?_ ?_
    · intro w hs
      exact hs.weaken (Lo.sub_cons rfl (Lo.sub_nil _))
    · intro Aq1 gx hx hr
      obtain ⟨n2, i1, Gm2⟩ := gx
      have Gm2le := hx
      refine WC.seq ?_
      refine WC.seq ?_
      refine WC.region ?_
      refine WL.y0' guard_none (Y0.move rfl) rfl ?_
      refine WL.y0' guard_none (Y0.lss rfl rfl) rfl ?_
      refine WL.nil ?_
      refine WE.then ?_
      refine WC.condD (p := i1 < 8) rfl (fun hc1 => ?_) (fun hc1 => ?_)
      · replace hr := hr.pos hc1
        refine WC.skip ?_
        refine WE.then ?_
        refine WC.seq ?_
        refine WC.block ?_
        refine WC.seq ?_
        refine WC.region ?_
        refine WL.y0' guard_none (Y0.move rfl) rfl ?_
        obtain ⟨hi1, hr⟩ := hr
        refine WL.y0' guard_none (Y0.idxA0 Try.underlying48 sz3 rfl rfl hi1) rfl ?_
        refine WL.y0' guard_none (Y0.loadL 1 sc3 rfl rfl (vecG_at _ _ _ hi1)) rfl ?_
        refine WL.y0' guard_none (Y0.gtr rfl rfl) rfl ?_
        refine WL.nil ?_
        refine WE.then ?_
        refine WC.condD (p := 0 < (getF m1 i1)) rfl (fun hc2 => ?_) (fun hc2 => ?_)
        · replace hr := hr.pos hc2
          refine WC.region ?_
          refine WL.y0' guard_none (Y0.move rfl) rfl ?_
          refine WL.y0' guard_none (Y0.move rfl) rfl ?_
          obtain ⟨yv1, hyv1, hr⟩ := hr
          refine WL.call0 guard_none rfl (YC.of E61 rfl) (L_R04_Bit _ _ hyv1) rfl (trivial) ?_
          refine WL.y0' guard_none (Y0.add rfl rfl) rfl ?_
          refine WL.y0' guard_none (Y0.assign rfl) rfl ?_
          refine WL.nil ?_
          refine WE.inBlock ?_
          refine WE.then ?_
          refine WC.region ?_
          refine WL.y0' guard_none (Y0.move rfl) rfl ?_
          refine WL.y0' guard_none (Y0.add rfl rfl) rfl ?_
          refine WL.y0' guard_none (Y0.assign rfl) rfl ?_
          refine WL.nil ?_
          refine WE.backR ⟨IntKind.u8.wrap (n2 + yv1), IntKind.i64.wrap (i1 + 1), Gm2⟩ hr Gm2le (Fr.sub_cons rfl (Fr.sub_cons rfl (Fr.sub_cons rfl (Fr.sub_nil _)))) ?_
          · intro w hs
            exact hs.weaken (Lo.sub_cons rfl (Lo.sub_nil _))
        · replace hr := hr.neg hc2
          refine WC.skip ?_
          refine WE.inBlock ?_
          refine WE.then ?_
          refine WC.region ?_
          refine WL.y0' guard_none (Y0.move rfl) rfl ?_
          refine WL.y0' guard_none (Y0.add rfl rfl) rfl ?_
          refine WL.y0' guard_none (Y0.assign rfl) rfl ?_
          refine WL.nil ?_
          refine WE.backR ⟨n2, IntKind.i64.wrap (i1 + 1), Gm2⟩ hr Gm2le (Fr.sub_cons rfl (Fr.sub_cons rfl (Fr.sub_cons rfl (Fr.sub_nil _)))) ?_
          · intro w hs
            exact hs.weaken (Lo.sub_cons rfl (Lo.sub_nil _))
      · replace hr := hr.neg hc1
        refine WC.exit ?_
        refine WE.thenExit ?_
        refine WE.thenExit ?_
        refine WE.exitHere ?_
        refine WE.endH ⟨n2, Gm2⟩ ⟨Gm2le, hr⟩ (Fr.sub_cons rfl (Fr.sub_nil _)) ?_
        · intro w hs
          exact hs.weaken (Lo.sub_nil _)
  · rintro ⟨n1, Gm1⟩ ⟨Gm1le, hr⟩
    refine WE.then ?_
    refine WC.seq ?_
    refine WC.region ?_
    refine WL.y0' guard_none (Y0.move rfl) rfl ?_
    refine WL.y0' guard_none (Y0.assign rfl) rfl ?_
    refine WL.nil ?_
    refine WE.then ?_
    refine WC.ret ?_
    replace hr : _ = r := hr
    subst hr
    exact WE.ret1 rfl rfl rfl
theorem L_R21_check (l1 : (List (Fin 8 → Int))) (n1 : Int) (l1p : Option Addr) (l1c : Nat) (r : Int) (hr : (R21_check l1 n1).Ret r) : Ctr Try.prog 44 #[.slice l1p l1.length l1c, .int .i64 n1] (fun G => SlR (Rp.vec .i64 8) G (.slice l1p l1.length l1c) l1) (fun G v => v = .int .i64 r) := by
  refine Ctr.enter (args := [_, _]) (N := 38) Try.func44 rfl rfl rfl (fun w0 G0 hL0 hpre => ?_)
  have l1h := hpre
  refine WC.seq ?_
  refine WC.region ?_
  refine WL.y0' guard_none (Y0.assign rfl) rfl ?_
  refine WL.nil ?_
  refine WE.then ?_
  refine WC.seq ?_
  refine WC.seq ?_
  refine WC.region ?_
  refine WL.y0' guard_none (Y0.move rfl) rfl ?_
  refine WL.caseY0 (p := n1 < 0) guard_none (Y0.lss rfl rfl) rfl (fun hb1 => ?_) (fun hb1 => ?_)
  · replace hr := hr.pos hb1
    refine WL.y0' guard_none (Y0.move rfl) rfl ?_
    refine WL.skip (guard_noF rfl rfl) rfl ?_
    refine WL.skip (guard_noF rfl rfl) rfl ?_
    refine WL.y0' guard_none (Y0.pickT rfl rfl) rfl ?_
    refine WL.nil ?_
    refine WE.then ?_
    refine WC.condT rfl ?_
    refine WC.seq ?_
    refine WC.region ?_
    refine WL.y0' guard_none (Y0.assign rfl) rfl ?_
    refine WL.nil ?_
    refine WE.then ?_
    refine WC.ret ?_
    replace hr : _ = r := hr
    refine WE.thenRet ?_
    subst hr
    exact WE.ret1 rfl rfl rfl
  · replace hr := hr.neg hb1
    refine WL.y0' guard_none (Y0.move rfl) rfl ?_
    refine WL.y0' (guard_yes rfl rfl) (Y0.move rfl) rfl ?_
    refine WL.y0' (guard_yes rfl rfl) (Y0.gtr rfl rfl) rfl ?_
    refine WL.y0' guard_none (Y0.pickF rfl rfl) rfl ?_
    refine WL.nil ?_
    refine WE.then ?_
    refine WC.condD (p := 8 < n1) rfl (fun hc1 => ?_) (fun hc1 => ?_)
    · replace hr := hr.pos hc1
      refine WC.seq ?_
      refine WC.region ?_
      refine WL.y0' guard_none (Y0.assign rfl) rfl ?_
      refine WL.nil ?_
      refine WE.then ?_
      refine WC.ret ?_
      replace hr : _ = r := hr
      refine WE.thenRet ?_
      subst hr
      exact WE.ret1 rfl rfl rfl
    · replace hr := hr.neg hc1
      refine WC.skip ?_
      refine WE.then ?_
      refine WC.seq ?_
      refine WC.seq ?_
      refine WC.region ?_
      refine WL.y0' guard_none (Y0.assign rfl) rfl ?_
      refine WL.nil ?_
      refine WE.then ?_
      refine WC.meetH (fun (gx : Mem) => match gx with | Gm1 => [(0, .slice l1p l1.length l1c)]) (fun (gx : Mem) => match gx with | Gm1 => Mem.le G0 Gm1 ∧ (R21_check_k1 l1).Ret r) (fun (gx : Mem) => match gx with | Gm1 => St w0 G0 Gm1 []) ?_ ?_
      · refine WC.block ?_
        let Phi1 : (Int ⊕ Unit) → Prop := fun oo => ((fun ov => match ov with | .inl rv1 => Comp.ret rv1 | .inr () => R21_check_k1 l1 : (Int ⊕ Unit) → Comp Int) oo).wp (fun a => a = r)
        replace hr : (Comp.loop _ _).wp Phi1 := hr
        refine WC.loopR (Φ := Phi1) (fun (gx : Int × Mem) => match gx with | ⟨i1, Gm2⟩ => (i1 : Int)) (fun (gx : Int × Mem) => match gx with | ⟨i1, Gm2⟩ => [(0, .slice l1p l1.length l1c), (1, .int .i64 n1), (5, .int .i64 i1)]) (fun (gx : Int × Mem) => match gx with | ⟨i1, Gm2⟩ => Mem.le G0 Gm2) (fun (gx : Int × Mem) => match gx with | ⟨i1, Gm2⟩ => St w0 G0 Gm2 []) ⟨0, G0⟩ hr (Fr.sub_cons rfl (Fr.sub_cons rfl (Fr.sub_cons rfl (Fr.sub_nil _)))) (Mem.le_refl _) ?_ ?_
        · intro w hs
          exact hs.weaken (Lo.sub_nil _)
        · intro Aq1 gx hx hr
          obtain ⟨i1, Gm2⟩ := gx
          have Gm2le := hx
          refine WC.seq ?_
          refine WC.seq ?_
          refine WC.region ?_
          refine WL.y0' guard_none (Y0.move rfl) rfl ?_
          refine WL.y0' guard_none (Y0.move rfl) rfl ?_
          refine WL.y0' guard_none (Y0.lenR Try.underlying28 (l1h.mono Gm2le) rfl) rfl ?_
          refine WL.y0' guard_none (Y0.lss rfl rfl) rfl ?_
          refine WL.nil ?_
          refine WE.then ?_
          refine WC.condD (p := i1 < (l1.length : Int)) rfl (fun hc3 => ?_) (fun hc3 => ?_)
          · replace hr := hr.pos hc3
            refine WC.skip ?_
            refine WE.then ?_
            refine WC.seq ?_
            refine WC.block ?_
            refine WC.seq ?_
            refine WC.region ?_
            refine WL.y0' guard_none (Y0.move rfl) rfl ?_
            refine WL.y0' guard_none (Y0.move rfl) rfl ?_
            obtain ⟨x1, hx1, hr⟩ := hr
            refine WL.y0' guard_none (Y0.idxR Try.underlying28 sz48 (l1h.mono Gm2le) rfl rfl hx1) rfl ?_
            refine WL.y0' guard_none (Y0.loadGA _ ag48 rfl (vecG_size _ _ _) (AtK.vec (At.mono (SlR.at l1h hx1) Gm2le))) rfl ?_
            obtain ⟨yv1, hyv1, hr⟩ := hr
            refine WL.call0 guard_none rfl (YC.of E34 rfl) (L_R04_Valid _ _ hyv1) rfl (trivial) ?_
            cases yv1
            · skip
              refine WL.y0' guard_none (Y0.not rfl) rfl ?_
              refine WL.y0' guard_none (Y0.move rfl) rfl ?_
              refine WL.skip (guard_noF rfl rfl) rfl ?_
              refine WL.skip (guard_noF rfl rfl) rfl ?_
              refine WL.skip (guard_noF rfl rfl) rfl ?_
              refine WL.skip (guard_noF rfl rfl) rfl ?_
              refine WL.skip (guard_noF rfl rfl) rfl ?_
              refine WL.skip (guard_noF rfl rfl) rfl ?_
              refine WL.skip (guard_noF rfl rfl) rfl ?_
              refine WL.skip (guard_noF rfl rfl) rfl ?_
              refine WL.skip (guard_noF rfl rfl) rfl ?_
              refine WL.y0' guard_none (Y0.pickT rfl rfl) rfl ?_
              refine WL.nil ?_
              refine WE.then ?_
              refine WC.condT rfl ?_
              refine WC.seq ?_
              refine WC.region ?_
              refine WL.y0' guard_none (Y0.assign rfl) rfl ?_
              refine WL.nil ?_
              refine WE.then ?_
              refine WC.ret ?_
              replace hr : _ = r := hr
              refine WE.inBlockRet ?_
              refine WE.thenRet ?_
              refine WE.thenRet ?_
              refine WE.inBlockRet ?_
              refine WE.endRet ?_
              refine WE.thenRet ?_
              subst hr
              exact WE.ret1 rfl rfl rfl
            · skip
              refine WL.y0' guard_none (Y0.not rfl) rfl ?_
              refine WL.y0' guard_none (Y0.move rfl) rfl ?_
              refine WL.y0' (guard_yes rfl rfl) (Y0.move rfl) rfl ?_
              refine WL.y0' (guard_yes rfl rfl) (Y0.move rfl) rfl ?_
              obtain ⟨x2, hx2, hr⟩ := hr
              refine WL.y0' (guard_yes rfl rfl) (Y0.idxR Try.underlying28 sz48 (l1h.mono Gm2le) rfl rfl hx2) rfl ?_
              refine WL.y0' (guard_yes rfl rfl) (Y0.loadGA _ ag48 rfl (vecG_size _ _ _) (AtK.vec (At.mono (SlR.at l1h hx2) Gm2le))) rfl ?_
              obtain ⟨yv2, hyv2, hr⟩ := hr
              refine WL.call0 (guard_yes rfl rfl) rfl (YC.of E39 rfl) (L_R04_Support _ _ hyv2) rfl (trivial) ?_
              refine WL.y0' (guard_yes rfl rfl) (Y0.conv Try.underlying5 Try.underlying3 rfl) rfl ?_
              refine WL.y0' (guard_yes rfl rfl) (Y0.move rfl) rfl ?_
              obtain ⟨hd1, hr⟩ := hr
              refine WL.y0' (guard_yes rfl rfl) (Y0.shr rfl rfl hd1) rfl ?_
              refine WL.y0' (guard_yes rfl rfl) (Y0.gtr rfl rfl) rfl ?_
              refine WL.y0' guard_none (Y0.pickF rfl rfl) rfl ?_
              refine WL.nil ?_
              refine WE.then ?_
              refine WC.condD (p := 0 < (Int.fdiv (IntKind.i64.wrap yv2) (2 ^ (min (n1).toNat IntKind.i64.bits)))) rfl (fun hc4 => ?_) (fun hc4 => ?_)
              · replace hr := hr.pos hc4
                refine WC.seq ?_
                refine WC.region ?_
                refine WL.y0' guard_none (Y0.assign rfl) rfl ?_
                refine WL.nil ?_
                refine WE.then ?_
                refine WC.ret ?_
                replace hr : _ = r := hr
                refine WE.inBlockRet ?_
                refine WE.thenRet ?_
                refine WE.thenRet ?_
                refine WE.inBlockRet ?_
                refine WE.endRet ?_
                refine WE.thenRet ?_
                subst hr
                exact WE.ret1 rfl rfl rfl
              · replace hr := hr.neg hc4
                refine WC.skip ?_
                refine WE.inBlock ?_
                refine WE.then ?_
                refine WC.region ?_
                refine WL.y0' guard_none (Y0.move rfl) rfl ?_
                refine WL.y0' guard_none (Y0.add rfl rfl) rfl ?_
                refine WL.y0' guard_none (Y0.assign rfl) rfl ?_
                refine WL.nil ?_
                refine WE.backR ⟨IntKind.i64.wrap (i1 + 1), Gm2⟩ hr Gm2le (Fr.sub_cons rfl (Fr.sub_cons rfl (Fr.sub_cons rfl (Fr.sub_nil _)))) ?_
                · intro w hs
                  exact hs.weaken (Lo.sub_nil _)
          · replace hr := hr.neg hc3
            refine WC.exit ?_
            refine WE.thenExit ?_
            refine WE.thenExit ?_
            refine WE.exitHere ?_
            refine WE.endH Gm2 ⟨Gm2le, hr⟩ (Fr.sub_cons rfl (Fr.sub_nil _)) ?_
            · intro w hs
              exact hs.weaken (Lo.sub_nil _)
      · rintro Gm1 ⟨Gm1le, hr⟩
        refine WE.then ?_
        refine WC.seq ?_
        refine WC.seq ?_
        refine WC.region ?_
        refine WL.y0' guard_none (Y0.move rfl) rfl ?_
        refine WL.y0' guard_none (Y0.lenR Try.underlying28 (l1h.mono Gm1le) rfl) rfl ?_
        refine WL.y0' guard_none (Y0.gtr rfl rfl) rfl ?_
        refine WL.nil ?_
        refine WE.then ?_
        refine WC.condD (p := 8 < (l1.length : Int)) rfl (fun hc2 => ?_) (fun hc2 => ?_)
        · replace hr := hr.pos hc2
          refine WC.seq ?_
          refine WC.region ?_
          refine WL.y0' guard_none (Y0.assign rfl) rfl ?_
          refine WL.nil ?_
          refine WE.then ?_
          refine WC.ret ?_
          replace hr : _ = r := hr
          refine WE.thenRet ?_
          subst hr
          exact WE.ret1 rfl rfl rfl
        · replace hr := hr.neg hc2
          refine WC.skip ?_
          refine WE.then ?_
          refine WC.seq ?_
          refine WC.region ?_
          refine WL.y0' guard_none (Y0.assign rfl) rfl ?_
          refine WL.nil ?_
          refine WE.then ?_
          refine WC.ret ?_
          replace hr : _ = r := hr
          subst hr
          exact WE.ret1 rfl rfl rfl
theorem L_R04_Divides (a1 : (Fin 8 → Int)) (b1 : (Fin 8 → Int)) (r : Bool) (hr : (R04_Divides a1 b1).Ret r) : Ctr Try.prog 58 #[.agg (vecG (Value.int .i64) 8 a1).toArray, .agg (vecG (Value.int .i64) 8 b1).toArray] (fun G => True) (fun G v => v = .bool r) := by
  refine Ctr.enter (args := [_, _]) (N := 17) Try.func58 rfl rfl rfl (fun w0 G0 hL0 hpre => ?_)
  refine WC.seq ?_
  refine WC.region ?_
  refine WL.box 2 guard_none rfl rfl (fun b2 => ?_)
  refine WL.box 3 guard_none rfl rfl (fun b3 => ?_)
  refine WL.y0' guard_none (Y0.assign rfl) rfl ?_
  refine WL.nil ?_
  refine WE.then ?_
  refine WC.seq ?_
  refine WC.seq ?_
  refine WC.region ?_
  refine WL.y0' guard_none (Y0.assign rfl) rfl ?_
  refine WL.nil ?_
  refine WE.then ?_
  refine WC.meetH (fun (gx : Mem) => match gx with | Gm1 => []) (fun (gx : Mem) => match gx with | Gm1 => Mem.le G0 Gm1 ∧ (R04_Divides_k1).Ret r) (fun (gx : Mem) => match gx with | Gm1 => St w0 G0 Gm1 []) ?_ ?_
  · refine WC.block ?_
    let Phi1 : (Bool ⊕ Unit) → Prop := fun oo => ((fun ov => match ov with | .inl rv1 => Comp.ret rv1 | .inr () => R04_Divides_k1 : (Bool ⊕ Unit) → Comp Bool) oo).wp (fun a => a = r)
    replace hr : (Comp.loop _ _).wp Phi1 := hr
    refine WC.loopR (Φ := Phi1) (fun (gx : Int × Mem) => match gx with | ⟨i1, Gm2⟩ => (i1 : Int)) (fun (gx : Int × Mem) => match gx with | ⟨i1, Gm2⟩ => [(2, .pointer (some ⟨b2, 0, none⟩)), (3, .pointer (some ⟨b3, 0, none⟩)), (5, .int .i64 i1)]) (fun (gx : Int × Mem) => match gx with | ⟨i1, Gm2⟩ => Mem.le G0 Gm2) (fun (gx : Int × Mem) => match gx with | ⟨i1, Gm2⟩ => St w0 G0 Gm2 [(2, some ⟨b2, .cells (vecG (Value.int .i64) 8 a1).toArray 48 (0, 0), 0⟩), (3, some ⟨b3, .cells (vecG (Value.int .i64) 8 b1).toArray 48 (0, 0), 0⟩)]) ⟨0, G0⟩ hr (Fr.sub_cons rfl (Fr.sub_cons rfl (Fr.sub_cons rfl (Fr.sub_nil _)))) (Mem.le_refl _) ?_ ?_
    · intro w hs
      exact hs.weaken (Lo.sub_cons rfl (Lo.sub_cons rfl (Lo.sub_nil _)))
    · intro Aq1 gx hx hr
      obtain ⟨i1, Gm2⟩ := gx
      have Gm2le := hx
      refine WC.seq ?_
      refine WC.seq ?_
      refine WC.region ?_
      refine WL.y0' guard_none (Y0.move rfl) rfl ?_
      refine WL.y0' guard_none (Y0.lss rfl rfl) rfl ?_
      refine WL.nil ?_
      refine WE.then ?_
      refine WC.condD (p := i1 < 8) rfl (fun hc1 => ?_) (fun hc1 => ?_)
      · replace hr := hr.pos hc1
        refine WC.skip ?_
        refine WE.then ?_
        refine WC.seq ?_
        refine WC.block ?_
        refine WC.seq ?_
        refine WC.drawn [false, false, false, false, false, false, false] mix (by kernel_rfl) (fun hb => ?_)
        refine Chain.y0 guard_none (fun _ hle => Y0.move rfl) ?_
        obtain ⟨hi1, hr⟩ := hr
        refine Chain.y0 guard_none (fun _ hle => Y0.idxA0 Try.underlying48 sz3 rfl rfl hi1) ?_
        refine Chain.y0 guard_none (fun _ hle => Y0.loadL 2 sc3 rfl rfl (vecG_at _ _ _ hi1)) ?_
        refine Chain.y0 guard_none (fun _ hle => Y0.move rfl) ?_
        obtain ⟨hi2, hr⟩ := hr
        refine Chain.y0 guard_none (fun _ hle => Y0.idxA0 Try.underlying48 sz3 rfl rfl hi2) ?_
        refine Chain.y0 guard_none (fun _ hle => Y0.loadL 3 sc3 rfl rfl (vecG_at _ _ _ hi2)) ?_
        refine Chain.y0 guard_none (fun _ hle => Y0.gtr rfl rfl) ?_
        refine Chain.tail0 hb ?_
        refine WL.nil ?_
        refine WE.nx ?_
        refine WE.then ?_
        refine WC.condD (p := (getF b1 i1) < (getF a1 i1)) rfl (fun hc2 => ?_) (fun hc2 => ?_)
        · replace hr := hr.pos hc2
          refine WC.seq ?_
          refine WC.region ?_
          refine WL.y0' guard_none (Y0.assign rfl) rfl ?_
          refine WL.nil ?_
          refine WE.then ?_
          refine WC.ret ?_
          replace hr : _ = r := hr
          refine WE.inBlockRet ?_
          refine WE.thenRet ?_
          refine WE.thenRet ?_
          refine WE.inBlockRet ?_
          refine WE.endRet ?_
          refine WE.thenRet ?_
          subst hr
          exact WE.ret1 rfl rfl rfl
        · replace hr := hr.neg hc2
          refine WC.skip ?_
          refine WE.inBlock ?_
          refine WE.then ?_
          refine WC.region ?_
          refine WL.y0' guard_none (Y0.move rfl) rfl ?_
          refine WL.y0' guard_none (Y0.add rfl rfl) rfl ?_
          refine WL.y0' guard_none (Y0.assign rfl) rfl ?_
          refine WL.nil ?_
          refine WE.backR ⟨IntKind.i64.wrap (i1 + 1), Gm2⟩ hr Gm2le (Fr.sub_cons rfl (Fr.sub_cons rfl (Fr.sub_cons rfl (Fr.sub_nil _)))) ?_
          · intro w hs
            exact hs.weaken (Lo.sub_cons rfl (Lo.sub_cons rfl (Lo.sub_nil _)))
      · replace hr := hr.neg hc1
        refine WC.exit ?_
        refine WE.thenExit ?_
        refine WE.thenExit ?_
        refine WE.exitHere ?_
        refine WE.endH Gm2 ⟨Gm2le, hr⟩ (Fr.sub_nil _) ?_
        · intro w hs
          exact hs.weaken (Lo.sub_nil _)
  · rintro Gm1 ⟨Gm1le, hr⟩
    refine WE.then ?_
    refine WC.seq ?_
    refine WC.region ?_
    refine WL.y0' guard_none (Y0.assign rfl) rfl ?_
    refine WL.nil ?_
    refine WE.then ?_
    refine WC.ret ?_
    replace hr : _ = r := hr
    subst hr
    exact WE.ret1 rfl rfl rfl
theorem L_R04_lowest (m1 : (Fin 8 → Int)) (l1 : (List (Fin 8 → Int))) (l1p : Option Addr) (l1c : Nat) (r : Bool) (hr : (R04_lowest m1 l1).Ret r) : Ctr Try.prog 56 #[.agg (vecG (Value.int .i64) 8 m1).toArray, .slice l1p l1.length l1c] (fun G => SlR (Rp.vec .i64 8) G (.slice l1p l1.length l1c) l1) (fun G v => v = .bool r) := by
  refine Ctr.enter (args := [_, _]) (N := 26) Try.func56 rfl rfl rfl (fun w0 G0 hL0 hpre => ?_)
  have l1h := hpre
  refine WC.seq ?_
  refine WC.region ?_
  refine WL.box 2 guard_none rfl rfl (fun b1 => ?_)
  refine WL.y0' guard_none (Y0.assign rfl) rfl ?_
  refine WL.nil ?_
  refine WE.then ?_
  refine WC.seq ?_
  refine WC.seq ?_
  refine WC.region ?_
  refine WL.y0' guard_none (Y0.assign rfl) rfl ?_
  refine WL.nil ?_
  refine WE.then ?_
  refine WC.meetH (fun (gx : Mem) => match gx with | Gm1 => []) (fun (gx : Mem) => match gx with | Gm1 => Mem.le G0 Gm1 ∧ (R04_lowest_k1).Ret r) (fun (gx : Mem) => match gx with | Gm1 => St w0 G0 Gm1 []) ?_ ?_
  · refine WC.block ?_
    let Phi1 : (Bool ⊕ Unit) → Prop := fun oo => ((fun ov => match ov with | .inl rv1 => Comp.ret rv1 | .inr () => R04_lowest_k1 : (Bool ⊕ Unit) → Comp Bool) oo).wp (fun a => a = r)
    replace hr : (Comp.loop _ _).wp Phi1 := hr
    refine WC.loopR (Φ := Phi1) (fun (gx : Int × Mem) => match gx with | ⟨i1, Gm2⟩ => (i1 : Int)) (fun (gx : Int × Mem) => match gx with | ⟨i1, Gm2⟩ => [(1, .slice l1p l1.length l1c), (2, .pointer (some ⟨b1, 0, none⟩)), (5, .int .i64 i1)]) (fun (gx : Int × Mem) => match gx with | ⟨i1, Gm2⟩ => Mem.le G0 Gm2) (fun (gx : Int × Mem) => match gx with | ⟨i1, Gm2⟩ => St w0 G0 Gm2 [(2, some ⟨b1, .cells (vecG (Value.int .i64) 8 m1).toArray 48 (0, 0), 0⟩)]) ⟨0, G0⟩ hr (Fr.sub_cons rfl (Fr.sub_cons rfl (Fr.sub_cons rfl (Fr.sub_nil _)))) (Mem.le_refl _) ?_ ?_
    · intro w hs
      exact hs.weaken (Lo.sub_cons rfl (Lo.sub_nil _))
    · intro Aq1 gx hx hr
      obtain ⟨i1, Gm2⟩ := gx
      have Gm2le := hx
      refine WC.seq ?_
      refine WC.seq ?_
      refine WC.region ?_
      refine WL.y0' guard_none (Y0.move rfl) rfl ?_
      refine WL.y0' guard_none (Y0.move rfl) rfl ?_
      refine WL.y0' guard_none (Y0.lenR Try.underlying28 (l1h.mono Gm2le) rfl) rfl ?_
      refine WL.y0' guard_none (Y0.lss rfl rfl) rfl ?_
      refine WL.nil ?_
      refine WE.then ?_
      refine WC.condD (p := i1 < (l1.length : Int)) rfl (fun hc1 => ?_) (fun hc1 => ?_)
      · replace hr := hr.pos hc1
        refine WC.skip ?_
        refine WE.then ?_
        refine WC.seq ?_
        refine WC.block ?_
        refine WC.seq ?_
        refine WC.drawn [false, false, false, false, false, false, false, false, false, false, false, false, false, false] mix (by kernel_rfl) (fun hb => ?_)
        refine Chain.y0 guard_none (fun _ hle => Y0.move rfl) ?_
        refine Chain.y0 guard_none (fun _ hle => Y0.move rfl) ?_
        obtain ⟨x1, hx1, hr⟩ := hr
        refine Chain.y0 guard_none (fun _ hle => Y0.idxR Try.underlying28 sz48 ((l1h.mono Gm2le).mono hle) rfl rfl hx1) ?_
        refine Chain.y0 guard_none (fun _ hle => Y0.loadGA _ ag48 rfl (vecG_size _ _ _) (AtK.vec (At.mono (At.mono (SlR.at l1h hx1) Gm2le) hle))) ?_
        refine Chain.y0 guard_none (fun _ hle => Y0.loadLA 2 ag48 rfl rfl (vecG_size _ _ _)) ?_
        refine Chain.caseY0 (p := ¬ x1 = m1) guard_none (fun _ hle => Y0.neqV Try.underlying48 Try.underlying3 sc3 sz3 eg48 rfl rfl) (fun hb1 => ?_) (fun hb1 => ?_)
        · replace hr := hr.pos hb1
          refine Chain.y0 guard_none (fun _ hle => Y0.move rfl) ?_
          refine Chain.y0 (guard_yes rfl rfl) (fun _ hle => Y0.move rfl) ?_
          refine Chain.y0 (guard_yes rfl rfl) (fun _ hle => Y0.move rfl) ?_
          obtain ⟨x2, hx2, hr⟩ := hr
          refine Chain.y0 (guard_yes rfl rfl) (fun _ hle => Y0.idxR Try.underlying28 sz48 ((l1h.mono Gm2le).mono hle) rfl rfl hx2) ?_
          refine Chain.y0 (guard_yes rfl rfl) (fun _ hle => Y0.loadGA _ ag48 rfl (vecG_size _ _ _) (AtK.vec (At.mono (At.mono (SlR.at l1h hx2) Gm2le) hle))) ?_
          refine Chain.y0 (guard_yes rfl rfl) (fun _ hle => Y0.loadLA 2 ag48 rfl rfl (vecG_size _ _ _)) ?_
          obtain ⟨yv1, hyv1, hr⟩ := hr
          refine Chain.call0 (guard_yes rfl rfl) (fun _ => YC.of E58 rfl) (L_R04_Divides _ _ _ hyv1) rfl (fun G' hle => trivial) ?_
          refine Chain.y0 guard_none (fun _ hle => Y0.pickT rfl rfl) ?_
          refine Chain.tail0 hb ?_
          refine WL.nil ?_
          refine WE.nx ?_
          refine WE.then ?_
          refine WC.cond (b := yv1) rfl (fun hc2 => ?_) (fun hc2 => ?_)
          · replace hr := hr.pos hc2
            refine WC.seq ?_
            refine WC.region ?_
            refine WL.y0' guard_none (Y0.assign rfl) rfl ?_
            refine WL.nil ?_
            refine WE.then ?_
            refine WC.ret ?_
            replace hr : _ = r := hr
            refine WE.inBlockRet ?_
            refine WE.thenRet ?_
            refine WE.thenRet ?_
            refine WE.inBlockRet ?_
            refine WE.endRet ?_
            refine WE.thenRet ?_
            subst hr
            exact WE.ret1 rfl rfl rfl
          · replace hr := hr.neg (Bool.eq_false_iff.1 hc2)
            refine WC.skip ?_
            refine WE.inBlock ?_
            refine WE.then ?_
            refine WC.region ?_
            refine WL.y0' guard_none (Y0.move rfl) rfl ?_
            refine WL.y0' guard_none (Y0.add rfl rfl) rfl ?_
            refine WL.y0' guard_none (Y0.assign rfl) rfl ?_
            refine WL.nil ?_
            refine WE.backR ⟨IntKind.i64.wrap (i1 + 1), Gm2⟩ hr Gm2le (Fr.sub_cons rfl (Fr.sub_cons rfl (Fr.sub_cons rfl (Fr.sub_nil _)))) ?_
            · intro w hs
              exact hs.weaken (Lo.sub_cons rfl (Lo.sub_nil _))
        · replace hr := hr.neg hb1
          refine Chain.y0 guard_none (fun _ hle => Y0.move rfl) ?_
          refine Chain.skip (guard_noT rfl rfl) ?_
          refine Chain.skip (guard_noT rfl rfl) ?_
          refine Chain.skip (guard_noT rfl rfl) ?_
          refine Chain.skip (guard_noT rfl rfl) ?_
          refine Chain.skip (guard_noT rfl rfl) ?_
          refine Chain.skip (guard_noT rfl rfl) ?_
          refine Chain.y0 guard_none (fun _ hle => Y0.pickF rfl rfl) ?_
          refine Chain.tail0 hb ?_
          refine WL.nil ?_
          refine WE.nx ?_
          refine WE.then ?_
          refine WC.condF rfl ?_
          refine WC.skip ?_
          refine WE.inBlock ?_
          refine WE.then ?_
          refine WC.region ?_
          refine WL.y0' guard_none (Y0.move rfl) rfl ?_
          refine WL.y0' guard_none (Y0.add rfl rfl) rfl ?_
          refine WL.y0' guard_none (Y0.assign rfl) rfl ?_
          refine WL.nil ?_
          refine WE.backR ⟨IntKind.i64.wrap (i1 + 1), Gm2⟩ hr Gm2le (Fr.sub_cons rfl (Fr.sub_cons rfl (Fr.sub_cons rfl (Fr.sub_nil _)))) ?_
          · intro w hs
            exact hs.weaken (Lo.sub_cons rfl (Lo.sub_nil _))
      · replace hr := hr.neg hc1
        refine WC.exit ?_
        refine WE.thenExit ?_
        refine WE.thenExit ?_
        refine WE.exitHere ?_
        refine WE.endH Gm2 ⟨Gm2le, hr⟩ (Fr.sub_nil _) ?_
        · intro w hs
          exact hs.weaken (Lo.sub_nil _)
  · rintro Gm1 ⟨Gm1le, hr⟩
    refine WE.then ?_
    refine WC.seq ?_
    refine WC.region ?_
    refine WL.y0' guard_none (Y0.assign rfl) rfl ?_
    refine WL.nil ?_
    refine WE.then ?_
    refine WC.ret ?_
    replace hr : _ = r := hr
    subst hr
    exact WE.ret1 rfl rfl rfl
theorem L_R04_Cmp (a1 : (Fin 8 → Int)) (b1 : (Fin 8 → Int)) (r : Int) (hr : (R04_Cmp a1 b1).Ret r) : Ctr Try.prog 35 #[.agg (vecG (Value.int .i64) 8 a1).toArray, .agg (vecG (Value.int .i64) 8 b1).toArray] (fun G => True) (fun G v => v = .int .i64 r) := by
  refine Ctr.enter (args := [_, _]) (N := 24) Try.func35 rfl rfl rfl (fun w0 G0 hL0 hpre => ?_)
  refine WC.seq ?_
  refine WC.region ?_
  refine WL.box 2 guard_none rfl rfl (fun b2 => ?_)
  refine WL.box 3 guard_none rfl rfl (fun b3 => ?_)
  refine WL.y0' guard_none (Y0.assign rfl) rfl ?_
  refine WL.nil ?_
  refine WE.then ?_
  refine WC.seq ?_
  refine WC.seq ?_
  refine WC.region ?_
  refine WL.y0' guard_none (Y0.assign rfl) rfl ?_
  refine WL.nil ?_
  refine WE.then ?_
  refine WC.meetH (fun (gx : Mem) => match gx with | Gm1 => []) (fun (gx : Mem) => match gx with | Gm1 => Mem.le G0 Gm1 ∧ (R04_Cmp_k1).Ret r) (fun (gx : Mem) => match gx with | Gm1 => St w0 G0 Gm1 []) ?_ ?_
  · refine WC.block ?_
    let Phi1 : (Int ⊕ Unit) → Prop := fun oo => ((fun ov => match ov with | .inl rv1 => Comp.ret rv1 | .inr () => R04_Cmp_k1 : (Int ⊕ Unit) → Comp Int) oo).wp (fun a => a = r)
    replace hr : (Comp.loop _ _).wp Phi1 := hr
    refine WC.loopR (Φ := Phi1) (fun (gx : Int × Mem) => match gx with | ⟨i1, Gm2⟩ => (i1 : Int)) (fun (gx : Int × Mem) => match gx with | ⟨i1, Gm2⟩ => [(2, .pointer (some ⟨b2, 0, none⟩)), (3, .pointer (some ⟨b3, 0, none⟩)), (5, .int .i64 i1)]) (fun (gx : Int × Mem) => match gx with | ⟨i1, Gm2⟩ => Mem.le G0 Gm2) (fun (gx : Int × Mem) => match gx with | ⟨i1, Gm2⟩ => St w0 G0 Gm2 [(2, some ⟨b2, .cells (vecG (Value.int .i64) 8 a1).toArray 48 (0, 0), 0⟩), (3, some ⟨b3, .cells (vecG (Value.int .i64) 8 b1).toArray 48 (0, 0), 0⟩)]) ⟨0, G0⟩ hr (Fr.sub_cons rfl (Fr.sub_cons rfl (Fr.sub_cons rfl (Fr.sub_nil _)))) (Mem.le_refl _) ?_ ?_
    · intro w hs
      exact hs.weaken (Lo.sub_cons rfl (Lo.sub_cons rfl (Lo.sub_nil _)))
    · intro Aq1 gx hx hr
      obtain ⟨i1, Gm2⟩ := gx
      have Gm2le := hx
      refine WC.seq ?_
      refine WC.seq ?_
      refine WC.region ?_
      refine WL.y0' guard_none (Y0.move rfl) rfl ?_
      refine WL.y0' guard_none (Y0.lss rfl rfl) rfl ?_
      refine WL.nil ?_
      refine WE.then ?_
      refine WC.condD (p := i1 < 8) rfl (fun hc1 => ?_) (fun hc1 => ?_)
      · replace hr := hr.pos hc1
        refine WC.skip ?_
        refine WE.then ?_
        refine WC.seq ?_
        refine WC.block ?_
        refine WC.seq ?_
        refine WC.seq ?_
        refine WC.drawn [false, false, false, false, false, false, false] mix (by kernel_rfl) (fun hb => ?_)
        refine Chain.y0 guard_none (fun _ hle => Y0.move rfl) ?_
        obtain ⟨hi1, hr⟩ := hr
        refine Chain.y0 guard_none (fun _ hle => Y0.idxA0 Try.underlying48 sz3 rfl rfl hi1) ?_
        refine Chain.y0 guard_none (fun _ hle => Y0.loadL 2 sc3 rfl rfl (vecG_at _ _ _ hi1)) ?_
        refine Chain.y0 guard_none (fun _ hle => Y0.move rfl) ?_
        obtain ⟨hi2, hr⟩ := hr
        refine Chain.y0 guard_none (fun _ hle => Y0.idxA0 Try.underlying48 sz3 rfl rfl hi2) ?_
        refine Chain.y0 guard_none (fun _ hle => Y0.loadL 3 sc3 rfl rfl (vecG_at _ _ _ hi2)) ?_
        refine Chain.y0 guard_none (fun _ hle => Y0.lss rfl rfl) ?_
        refine Chain.tail0 hb ?_
        refine WL.nil ?_
        refine WE.nx ?_
        refine WE.then ?_
        refine WC.condD (p := (getF a1 i1) < (getF b1 i1)) rfl (fun hc2 => ?_) (fun hc2 => ?_)
        · replace hr := hr.pos hc2
          refine WC.seq ?_
          refine WC.region ?_
          refine WL.y0' guard_none (Y0.assign rfl) rfl ?_
          refine WL.nil ?_
          refine WE.then ?_
          refine WC.ret ?_
          replace hr : _ = r := hr
          refine WE.thenRet ?_
          refine WE.inBlockRet ?_
          refine WE.thenRet ?_
          refine WE.thenRet ?_
          refine WE.inBlockRet ?_
          refine WE.endRet ?_
          refine WE.thenRet ?_
          subst hr
          exact WE.ret1 rfl rfl rfl
        · replace hr := hr.neg hc2
          refine WC.skip ?_
          refine WE.then ?_
          refine WC.seq ?_
          refine WC.drawn [false, false, false, false, false, false, false] mix (by kernel_rfl) (fun hb => ?_)
          refine Chain.y0 guard_none (fun _ hle => Y0.move rfl) ?_
          obtain ⟨hi3, hr⟩ := hr
          refine Chain.y0 guard_none (fun _ hle => Y0.idxA0 Try.underlying48 sz3 rfl rfl hi3) ?_
          refine Chain.y0 guard_none (fun _ hle => Y0.loadL 2 sc3 rfl rfl (vecG_at _ _ _ hi3)) ?_
          refine Chain.y0 guard_none (fun _ hle => Y0.move rfl) ?_
          obtain ⟨hi4, hr⟩ := hr
          refine Chain.y0 guard_none (fun _ hle => Y0.idxA0 Try.underlying48 sz3 rfl rfl hi4) ?_
          refine Chain.y0 guard_none (fun _ hle => Y0.loadL 3 sc3 rfl rfl (vecG_at _ _ _ hi4)) ?_
          refine Chain.y0 guard_none (fun _ hle => Y0.gtr rfl rfl) ?_
          refine Chain.tail0 hb ?_
          refine WL.nil ?_
          refine WE.nx ?_
          refine WE.then ?_
          refine WC.condD (p := (getF b1 i1) < (getF a1 i1)) rfl (fun hc3 => ?_) (fun hc3 => ?_)
          · replace hr := hr.pos hc3
            refine WC.seq ?_
            refine WC.region ?_
            refine WL.y0' guard_none (Y0.assign rfl) rfl ?_
            refine WL.nil ?_
            refine WE.then ?_
            refine WC.ret ?_
            replace hr : _ = r := hr
            refine WE.inBlockRet ?_
            refine WE.thenRet ?_
            refine WE.thenRet ?_
            refine WE.inBlockRet ?_
            refine WE.endRet ?_
            refine WE.thenRet ?_
            subst hr
            exact WE.ret1 rfl rfl rfl
          · replace hr := hr.neg hc3
            refine WC.skip ?_
            refine WE.inBlock ?_
            refine WE.then ?_
            refine WC.region ?_
            refine WL.y0' guard_none (Y0.move rfl) rfl ?_
            refine WL.y0' guard_none (Y0.add rfl rfl) rfl ?_
            refine WL.y0' guard_none (Y0.assign rfl) rfl ?_
            refine WL.nil ?_
            refine WE.backR ⟨IntKind.i64.wrap (i1 + 1), Gm2⟩ hr Gm2le (Fr.sub_cons rfl (Fr.sub_cons rfl (Fr.sub_cons rfl (Fr.sub_nil _)))) ?_
            · intro w hs
              exact hs.weaken (Lo.sub_cons rfl (Lo.sub_cons rfl (Lo.sub_nil _)))
      · replace hr := hr.neg hc1
        refine WC.exit ?_
        refine WE.thenExit ?_
        refine WE.thenExit ?_
        refine WE.exitHere ?_
        refine WE.endH Gm2 ⟨Gm2le, hr⟩ (Fr.sub_nil _) ?_
        · intro w hs
          exact hs.weaken (Lo.sub_nil _)
  · rintro Gm1 ⟨Gm1le, hr⟩
    refine WE.then ?_
    refine WC.seq ?_
    refine WC.region ?_
    refine WL.y0' guard_none (Y0.assign rfl) rfl ?_
    refine WL.nil ?_
    refine WE.then ?_
    refine WC.ret ?_
    replace hr : _ = r := hr
    subst hr
    exact WE.ret1 rfl rfl rfl
end Go.Proofs.Ytbdknlblnfnkkaa
